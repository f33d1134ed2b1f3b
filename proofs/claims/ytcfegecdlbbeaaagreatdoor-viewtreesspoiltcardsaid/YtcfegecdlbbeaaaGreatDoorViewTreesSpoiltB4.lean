/-
  Part 4 of the texts under the law ViewTreesSpoilt: the calculus, the plain functions, their walks, plain facts.
-/
import Derived.Test.YtcfegecdlbbeaaaGreatDoorViewTreesSpoiltB3
import Derived.Test.YtcfegecdlbbeaaaGreatDoorProg
import Derived.KernelRfl
section
set_option maxRecDepth 100000
namespace Go.Proofs.YtcfegecdlbbeaaaGreatDoor
open Go Go.E2
theorem entry98 : Entry Tryz.prog 98:=⟨_,Tryz.func98,by kernel_rfl,by kernel_rfl⟩
theorem r11_join_B_c (self0 : AType → AType → Option (AType × Bool)) (hself0 : ∀ (a : AType) (b : AType) {r : AType × Bool},self0 a b = some r → Con Tryz.prog 98 [.agg [cI a.Kind,.d (.sl (List.map AType.cs a.Of))],.agg [cI b.Kind,.d (.sl (List.map AType.cs b.Of))]] [] (.tup [.agg [cI r.1.Kind,.d (.sl (List.map AType.cs r.1.Of))],aB r.2]) []) (a : AType) (b : AType) {r : AType × Bool} (hr : r11_join_B self0 a b = some r) : Con Tryz.prog 98 [.agg [cI a.Kind,.d (.sl (List.map AType.cs a.Of))],.agg [cI b.Kind,.d (.sl (List.map AType.cs b.Of))]] [] (.tup [.agg [cI r.1.Kind,.d (.sl (List.map AType.cs r.1.Of))],aB r.2]) []:=by
 unfold r11_join_B at hr
 refine Con.of_ok 44 0 [.cell 4 115,.tmp 5] [(0,.s (.agg [cI a.Kind,.d (.sl (List.map AType.cs a.Of))])),(1,.s (.agg [cI b.Kind,.d (.sl (List.map AType.cs b.Of))]))] Tryz.func98 rfl rfl rfl rfl rfl rfl rfl rfl fun w g M ρ _=>(Ok.seq (Ok.region (OkOps.m 0 (triBox (j:=0) (cs:=[cI a.Kind,.d (.sl (List.map AType.cs a.Of))]) rfl rfl rfl rfl rfl) (OkOps.m 0 (triBox (j:=1) (cs:=[cI b.Kind,.d (.sl (List.map AType.cs b.Of))]) rfl rfl rfl rfl rfl) (OkOps.m 0 (triAlloc (j:=2) (cs:=[cI 0,.d (.v (.slice none 0 0))]) rfl rfl rfl rfl) (OkOps.y (aB false) (OkOps.nil (Ok.seq (Ok.seq (Ok.region (OkOps.y (.c (.loc 0 0)) (OkOps.y (aI a.Kind) (OkOps.y (.c (.loc 1 0)) (OkOps.y (aI b.Kind) (OkOps.y (aB (a.Kind != b.Kind)) ?_)))))))))))))))
 refine OkOps.nil ?_
 refine Ok.cond (b:=a.Kind != b.Kind) rfl (fun h1=>?_) (fun h1=>?_)
 have hr:=selT h1 hr
 refine Ok.seq (Ok.region (OkOps.y (.agg [cI 0,.d (.v (.slice none 0 0))]) (OkOps.w (triStore (cs':=[cI 0,.d (.v (.slice none 0 0))]) rfl rfl rfl rfl rfl rfl rfl rfl rfl) (OkOps.y (aB false) (OkOps.nil (Ok.ret ?_))))))
 obtain rfl:=Option.some.inj hr
 exact ⟨_,rfl,.inr rfl,trivial⟩
 have hr:=selF h1 hr
 refine Ok.skip (Ok.seq (Ok.seq (Ok.region (OkOps.y (.c (.loc 0 1)) (OkOps.y (.c (.d (.sl (List.map AType.cs a.Of)))) (OkOps.q (triLen (enc:=AType.cs) a.Of rfl rfl trivial rfl) (OkOps.y (aB ((a.Of.length : Int) == 0)) (OkOps.nil ?_))))))))
 refine Ok.cond (b:=(a.Of.length : Int) == 0) rfl (fun h2=>?_) (fun h2=>?_)
 have hr:=selT h2 hr
 refine Ok.seq (Ok.region (OkOps.y (.agg [cI b.Kind,.d (.sl (List.map AType.cs b.Of))]) (OkOps.w (triStore (cs':=[cI b.Kind,.d (.sl (List.map AType.cs b.Of))]) rfl rfl rfl rfl rfl rfl rfl rfl rfl) (OkOps.y (aB true) (OkOps.nil (Ok.ret ?_))))))
 obtain rfl:=Option.some.inj hr
 exact ⟨_,rfl,.inl rfl,trivial⟩
 have hr:=selF h2 hr
 refine Ok.skip (Ok.seq (Ok.seq (Ok.region (OkOps.y (.c (.loc 1 1)) (OkOps.y (.c (.d (.sl (List.map AType.cs b.Of)))) (OkOps.q (triLen (enc:=AType.cs) b.Of rfl rfl trivial rfl) (OkOps.y (aB ((b.Of.length : Int) == 0)) (OkOps.nil ?_))))))))
 refine Ok.cond (b:=(b.Of.length : Int) == 0) rfl (fun h3=>?_) (fun h3=>?_)
 have hr:=selT h3 hr
 refine Ok.seq (Ok.region (OkOps.y (.agg [cI a.Kind,.d (.sl (List.map AType.cs a.Of))]) (OkOps.w (triStore (cs':=[cI a.Kind,.d (.sl (List.map AType.cs a.Of))]) rfl rfl rfl rfl rfl rfl rfl rfl rfl) (OkOps.y (aB true) (OkOps.nil (Ok.ret ?_))))))
 obtain rfl:=Option.some.inj hr
 exact ⟨_,rfl,.inl rfl,trivial⟩
 have hr:=selF h3 hr
 refine Ok.skip (Ok.seq (Ok.regionD (by kernel_rfl) (OkD.x (.c (.loc 0 1)) rfl trivial rfl (OkD.x (.c (.d (.sl (List.map AType.cs a.Of)))) rfl trivial rfl ?_))))
 obtain ⟨x4,hx4,hr⟩:=bind_some hr
 refine OkD.q (triIdx (enc:=AType.cs) (L:=a.Of) (row:=[dI x4.Kind,.sl (List.map AType.cs x4.Of)]) hx4 (AType.cs_eq _) rfl rfl rfl (fun x=>by rw [AType.cs_eq];rfl) trivial rfl) ?_
 refine OkD.x (.agg [cI x4.Kind,.d (.sl (List.map AType.cs x4.Of))]) rfl trivial rfl (OkD.x (.c (.loc 1 1)) rfl trivial rfl (OkD.x (.c (.d (.sl (List.map AType.cs b.Of)))) rfl trivial rfl ?_))
 obtain ⟨x5,hx5,hr⟩:=bind_some hr
 refine OkD.q (triIdx (enc:=AType.cs) (L:=b.Of) (row:=[dI x5.Kind,.sl (List.map AType.cs x5.Of)]) hx5 (AType.cs_eq _) rfl rfl rfl (fun x=>by rw [AType.cs_eq];rfl) trivial rfl) ?_
 refine OkD.x (.agg [cI x5.Kind,.d (.sl (List.map AType.cs x5.Of))]) rfl trivial rfl ?_
 obtain ⟨x6,hx6,hr⟩:=bind_some hr
 refine OkD.q (triCl (tau []) (.tup [.agg [cI x6.1.Kind,.d (.sl (List.map AType.cs x6.1.Of))],aB x6.2]) [] (hself0 _ _ hx6) rfl ⟨.inl rfl,.inl rfl,trivial⟩ trivial entry98 trivial) (OkD.q (triMv (v:=.tup [.agg [cI x6.1.Kind,.d (.sl (List.map AType.cs x6.1.Of))],aB x6.2]) rfl rfl) (OkD.x (.agg [cI x6.1.Kind,.d (.sl (List.map AType.cs x6.1.Of))]) rfl trivial rfl (OkD.x (aB x6.2) rfl trivial rfl (OkD.m 0 (triAlloc (j:=3) (cs:=[cI 0,.d (.v (.slice none 0 0))]) rfl rfl rfl rfl) (OkD.w (triStore (cs':=[cI x6.1.Kind,.d (.sl (List.map AType.cs x6.1.Of))]) rfl rfl rfl rfl rfl rfl rfl rfl rfl) (OkD.x (aB x6.2) rfl trivial rfl (OkD.nil (by kernel_rfl) (Ok.seq (Ok.seq (Ok.region (OkOps.y (aB x6.2) (OkOps.y (aB (!x6.2)) (OkOps.nil ?_)))))))))))))
 refine Ok.cond (b:=!x6.2) rfl (fun h7=>?_) (fun h7=>?_)
 have hr:=selT h7 hr
 refine Ok.seq (Ok.region (OkOps.y (.agg [cI 0,.d (.v (.slice none 0 0))]) (OkOps.w (triStore (cs':=[cI 0,.d (.v (.slice none 0 0))]) rfl rfl rfl rfl rfl rfl rfl rfl rfl) (OkOps.y (aB false) (OkOps.nil (Ok.ret ?_))))))
 obtain rfl:=Option.some.inj hr
 exact ⟨_,rfl,.inr rfl,trivial⟩
 have hr:=selF h7 hr
 refine Ok.skip (Ok.seq (Ok.region (OkOps.y (.c (.loc 0 0)) (OkOps.y (aI a.Kind) (OkOps.y (.agg [cI x6.1.Kind,.d (.sl (List.map AType.cs x6.1.Of))]) ?_)))))
 refine OkOps.m 0 (triBST (sz:=2) (enc:=AType.cs) (j:=4) ([x6.1]) rfl rfl rfl rfl rfl (rows:=[[dI x6.1.Kind,.sl (List.map AType.cs x6.1.Of)]]) (by simp only [List.map,AType.cs_eq]) rfl rfl (fun x=>by rw [AType.cs_eq];rfl) trivial rfl rfl) ?_
 refine OkOps.y (.agg [cI a.Kind,.tl 4 (List.map AType.cs ([x6.1]))]) (OkOps.w (triStore (cs':=[cI a.Kind,.tl 4 (List.map AType.cs ([x6.1]))]) rfl rfl rfl rfl rfl rfl rfl rfl rfl) (OkOps.y (aB true) (OkOps.nil (Ok.ret ?_))))
 obtain rfl:=Option.some.inj hr
 exact ⟨_,rfl,.inr rfl,trivial⟩
theorem r11_join_all : ∀ n : Nat,(∀ (a : AType) (b : AType) {r : AType × Bool},r11_join n a b = some r → Con Tryz.prog 98 [.agg [cI a.Kind,.d (.sl (List.map AType.cs a.Of))],.agg [cI b.Kind,.d (.sl (List.map AType.cs b.Of))]] [] (.tup [.agg [cI r.1.Kind,.d (.sl (List.map AType.cs r.1.Of))],aB r.2]) []) ∧ True:=by
 intro n
 induction n with
 | zero=>exact ⟨(by intros;rename_i hr;cases hr),trivial⟩
 | succ n ih=>exact ⟨(by intros;rename_i hr;exact r11_join_B_c _ ih.1 _ _ hr),trivial⟩
theorem r11_join_c (n : Nat) (a : AType) (b : AType) {r : AType × Bool} (hr : r11_join n a b = some r) : Con Tryz.prog 98 [.agg [cI a.Kind,.d (.sl (List.map AType.cs a.Of))],.agg [cI b.Kind,.d (.sl (List.map AType.cs b.Of))]] [] (.tup [.agg [cI r.1.Kind,.d (.sl (List.map AType.cs r.1.Of))],aB r.2]) []:=(r11_join_all n).1 a b hr
theorem entry87 : Entry Tryz.prog 87:=⟨_,Tryz.func87,by kernel_rfl,by kernel_rfl⟩
theorem r11_check_B_c (self0 : AValue → Int → Int → Option (AType × Int × Int)) (hself0 : ∀ (v : AValue) (depth : Int) (met : Int) {r : AType × Int × Int},self0 v depth met = some r → Con Tryz.prog 87 [.agg [cI v.Kind,cI v.N,cS v.S,.d (.sl (List.map AValue.cs v.L))],aI depth,aI met] [] (.tup [.agg [cI r.1.Kind,.d (.sl (List.map AType.cs r.1.Of))],aI r.2.1,aI r.2.2]) []) (v : AValue) (depth : Int) (met : Int) {r : AType × Int × Int} (hr : r11_check_B self0 v depth met = some r) : Con Tryz.prog 87 [.agg [cI v.Kind,cI v.N,cS v.S,.d (.sl (List.map AValue.cs v.L))],aI depth,aI met] [] (.tup [.agg [cI r.1.Kind,.d (.sl (List.map AType.cs r.1.Of))],aI r.2.1,aI r.2.2]) []:=by
 unfold r11_check_B at hr
 refine Con.of_ok 184 0 [.cell 6 115,.tmp 7,.tmp 8] [(0,.s (.agg [cI v.Kind,cI v.N,cS v.S,.d (.sl (List.map AValue.cs v.L))])),(1,.s (aI depth)),(2,.s (aI met))] Tryz.func87 rfl rfl rfl rfl rfl rfl rfl rfl fun w g M ρ _=>(Ok.seq (Ok.region (OkOps.m 0 (triBox (j:=0) (cs:=[cI v.Kind,cI v.N,cS v.S,.d (.sl (List.map AValue.cs v.L))]) rfl rfl rfl rfl rfl) (OkOps.m 0 (triAlloc (j:=1) (cs:=[cI 0,.d (.v (.slice none 0 0))]) rfl rfl rfl rfl) (OkOps.y (aI 0) (OkOps.y (aI 0) (OkOps.nil (Ok.seq (Ok.region (OkOps.y (aI met) (OkOps.y (aI (IntKind.i64.wrap (met + 1))) (OkOps.y (aI (IntKind.i64.wrap (met + 1))) (OkOps.nil (Ok.seq (Ok.region ?_)))))))))))))))
 refine OkOps.y (.c (.loc 0 0)) (OkOps.y (aI v.Kind) (OkOps.y (aB (v.Kind == 4)) (OkOps.y (aB (v.Kind == 4)) (OkOps.nil (Ok.seq (Ok.seq (Ok.region (OkOps.y (aB (v.Kind == 4)) (OkOps.y (aB (v.Kind == 4)) (OkOps.q (triQG (x:=aI depth) rfl rfl trivial rfl) (OkOps.q (triQG (x:=aB (decide (depth > 16))) rfl rfl ⟨fun h=>h,trivial⟩ rfl) (OkOps.q (triAnd rfl rfl (fun h=>h) rfl) (OkOps.nil ?_)))))))))))))
 refine Ok.cond (b:=(v.Kind == 4) && (decide (depth > 16))) rfl (fun h1=>?_) (fun h1=>?_)
 have hr:=selT h1 hr
 refine Ok.seq (Ok.region (OkOps.y (.agg [cI 0,.d (.v (.slice none 0 0))]) (OkOps.y (aI (IntKind.i64.wrap (met + 1))) (OkOps.w (triStore (cs':=[cI 0,.d (.v (.slice none 0 0))]) rfl rfl rfl rfl rfl rfl rfl rfl rfl) (OkOps.y (aI (IntKind.i64.wrap (met + 1))) (OkOps.y (aI 8) (OkOps.nil (Ok.ret ?_))))))))
 obtain rfl:=Option.some.inj hr
 exact ⟨_,rfl,.inr rfl,trivial⟩
 have hr:=selF h1 hr
 refine Ok.skip (Ok.seq (Ok.seq (Ok.region (OkOps.y (.c (.loc 0 0)) (OkOps.y (aI v.Kind) (OkOps.y (aB (decide (v.Kind < 1))) (OkOps.y (aB (decide (v.Kind < 1))) (OkOps.q (triQG (x:=.c (.loc 0 0)) rfl rfl trivial rfl) (OkOps.q (triQG (x:=aI v.Kind) rfl rfl ⟨fun h=>h,trivial⟩ rfl) (OkOps.q (triQG (x:=aB (decide (v.Kind > 4))) rfl rfl ⟨fun h=>h,trivial⟩ rfl) ?_))))))))))
 refine OkOps.q (triOr rfl rfl (fun h=>by rw [h];rfl) rfl) ?_
 refine OkOps.y (aB ((decide (v.Kind < 1)) || (decide (v.Kind > 4)))) (OkOps.q (triQG (x:=.c (.loc 0 1)) rfl rfl trivial rfl) (OkOps.q (triQG (x:=aI v.N) rfl rfl ⟨fun h=>h,trivial⟩ rfl) (OkOps.q (triQG (x:=aB (v.N != 0)) rfl rfl ⟨fun h=>h,trivial⟩ rfl) (OkOps.q (triQG (x:=aB (v.N != 0)) rfl rfl ⟨fun h=>h,trivial⟩ rfl) (OkOps.q (triQG (x:=.c (.loc 0 0)) rfl rfl trivial rfl) (OkOps.q (triQG (x:=aI v.Kind) rfl rfl ⟨fun h=>h,trivial⟩ rfl) (OkOps.q (triQG (x:=aB (v.Kind != 1)) rfl rfl ⟨fun h=>h,trivial⟩ rfl) ?_)))))))
 refine OkOps.q (triAndG rfl rfl rfl (fun h=>h) (fun h h2=>by rw [h,h2];rfl) rfl) ?_
 refine OkOps.q (triQG (x:=aB ((v.N != 0) && (v.Kind != 1))) rfl rfl ⟨fun h=>h,trivial⟩ rfl) (OkOps.q (triQG (x:=.c (.loc 0 0)) rfl rfl trivial rfl) (OkOps.q (triQG (x:=aI v.Kind) rfl rfl ⟨fun h=>h,trivial⟩ rfl) (OkOps.q (triQG (x:=aB (v.Kind != 2)) rfl rfl ⟨fun h=>h,trivial⟩ rfl) ?_)))
 refine OkOps.q (triAndG rfl rfl rfl (fun h=>h) (fun h h2=>by rw [h,h2];rfl) rfl) ?_
 refine OkOps.q (triOr rfl rfl (fun h=>by rw [h];rfl) rfl) ?_
 refine OkOps.y (aB (((decide (v.Kind < 1)) || (decide (v.Kind > 4))) || (((v.N != 0) && (v.Kind != 1)) && (v.Kind != 2)))) (OkOps.q (triQG (x:=.c (.loc 0 2)) rfl rfl trivial rfl) (OkOps.q (triQG (x:=aS v.S) rfl rfl ⟨fun h=>h,trivial⟩ rfl) (OkOps.q (triQG (x:=aB (!(v.S.toList == (ByteArray.mk #[]).toList))) rfl rfl ⟨fun h=>h,trivial⟩ rfl) (OkOps.q (triQG (x:=aB (!(v.S.toList == (ByteArray.mk #[]).toList))) rfl rfl ⟨fun h=>h,trivial⟩ rfl) (OkOps.q (triQG (x:=.c (.loc 0 0)) rfl rfl trivial rfl) (OkOps.q (triQG (x:=aI v.Kind) rfl rfl ⟨fun h=>h,trivial⟩ rfl) (OkOps.q (triQG (x:=aB (v.Kind != 3)) rfl rfl ⟨fun h=>h,trivial⟩ rfl) ?_)))))))
 refine OkOps.q (triAndG rfl rfl rfl (fun h=>h) (fun h h2=>by rw [h,h2];rfl) rfl) ?_
 refine OkOps.q (triOr rfl rfl (fun h=>by rw [h];rfl) rfl) ?_
 refine OkOps.y (aB ((((decide (v.Kind < 1)) || (decide (v.Kind > 4))) || (((v.N != 0) && (v.Kind != 1)) && (v.Kind != 2))) || ((!(v.S.toList == (ByteArray.mk #[]).toList)) && (v.Kind != 3)))) (OkOps.q (triQG (x:=.c (.loc 0 3)) rfl rfl trivial rfl) (OkOps.q (triQG (x:=.c (.d (.sl (List.map AValue.cs v.L)))) rfl rfl ⟨fun h=>h,trivial⟩ rfl) (OkOps.q (triLenG (enc:=AValue.cs) v.L rfl rfl rfl ⟨fun h=>h,trivial⟩ rfl) (OkOps.q (triQG (x:=aB (decide ((v.L.length : Int) > 0))) rfl rfl ⟨fun h=>h,trivial⟩ rfl) (OkOps.q (triQG (x:=aB (decide ((v.L.length : Int) > 0))) rfl rfl ⟨fun h=>h,trivial⟩ rfl) (OkOps.q (triQG (x:=aB (v.Kind == 4)) rfl rfl trivial rfl) (OkOps.q (triQG (x:=aB (!(v.Kind == 4))) rfl rfl ⟨fun h=>h,trivial⟩ rfl) ?_)))))))
 refine OkOps.q (triAndG rfl rfl rfl (fun h=>h) (fun h h2=>by rw [h,h2];rfl) rfl) ?_
 refine OkOps.q (triOr rfl rfl (fun h=>by rw [h];rfl) rfl) ?_
 refine OkOps.nil ?_
 refine Ok.cond (b:=((((decide (v.Kind < 1)) || (decide (v.Kind > 4))) || (((v.N != 0) && (v.Kind != 1)) && (v.Kind != 2))) || ((!(v.S.toList == (ByteArray.mk #[]).toList)) && (v.Kind != 3))) || ((decide ((v.L.length : Int) > 0)) && (!(v.Kind == 4)))) rfl (fun h2=>?_) (fun h2=>?_)
 have hr:=selT h2 hr
 refine Ok.seq (Ok.region (OkOps.y (.agg [cI 0,.d (.v (.slice none 0 0))]) (OkOps.y (aI (IntKind.i64.wrap (met + 1))) (OkOps.w (triStore (cs':=[cI 0,.d (.v (.slice none 0 0))]) rfl rfl rfl rfl rfl rfl rfl rfl rfl) (OkOps.y (aI (IntKind.i64.wrap (met + 1))) (OkOps.y (aI 9) (OkOps.nil (Ok.ret ?_))))))))
 obtain rfl:=Option.some.inj hr
 exact ⟨_,rfl,.inr rfl,trivial⟩
 have hr:=selF h2 hr
 refine Ok.skip (Ok.seq (Ok.seq (Ok.region (OkOps.y (.c (.loc 0 0)) (OkOps.y (aI v.Kind) (OkOps.y (aB (v.Kind == 1)) (OkOps.y (aB (v.Kind == 1)) (OkOps.q (triQG (x:=.c (.loc 0 1)) rfl rfl trivial rfl) (OkOps.q (triQG (x:=aI v.N) rfl rfl ⟨fun h=>h,trivial⟩ rfl) (OkOps.q (triQG (x:=aB (decide (v.N < (-1099511627776)))) rfl rfl ⟨fun h=>h,trivial⟩ rfl) (OkOps.q (triQG (x:=aB (decide (v.N < (-1099511627776)))) rfl rfl ⟨fun h=>h,trivial⟩ rfl) (OkOps.q (triQG (x:=.c (.loc 0 1)) rfl rfl trivial rfl) (OkOps.q (triQG (x:=aI v.N) rfl rfl ⟨fun h=>h,trivial⟩ rfl) (OkOps.q (triQG (x:=aB (decide (v.N > 1099511627776))) rfl rfl ⟨fun h=>h,trivial⟩ rfl) ?_))))))))))))))
 refine OkOps.q (triOrG rfl rfl rfl (fun h=>h) (fun h h2=>by rw [h,h2];rfl) rfl) ?_
 refine OkOps.q (triAnd rfl rfl (fun h=>h) rfl) (OkOps.y (aB ((v.Kind == 1) && ((decide (v.N < (-1099511627776))) || (decide (v.N > 1099511627776))))) (OkOps.q (triQG (x:=.c (.loc 0 0)) rfl rfl trivial rfl) (OkOps.q (triQG (x:=aI v.Kind) rfl rfl ⟨fun h=>h,trivial⟩ rfl) (OkOps.q (triQG (x:=aB (v.Kind == 2)) rfl rfl ⟨fun h=>h,trivial⟩ rfl) (OkOps.q (triQG (x:=aB (v.Kind == 2)) rfl rfl ⟨fun h=>h,trivial⟩ rfl) (OkOps.q (triQG (x:=.c (.loc 0 1)) rfl rfl trivial rfl) (OkOps.q (triQG (x:=aI v.N) rfl rfl ⟨fun h=>h,trivial⟩ rfl) (OkOps.q (triQG (x:=aB (v.N != 0)) rfl rfl ⟨fun h=>h,trivial⟩ rfl) ?_))))))))
 refine OkOps.q (triAndG rfl rfl rfl (fun h=>h) (fun h h2=>by rw [h,h2];rfl) rfl) ?_
 refine OkOps.q (triQG (x:=aB ((v.Kind == 2) && (v.N != 0))) rfl rfl ⟨fun h=>h,trivial⟩ rfl) (OkOps.q (triQG (x:=.c (.loc 0 1)) rfl rfl trivial rfl) (OkOps.q (triQG (x:=aI v.N) rfl rfl ⟨fun h=>h,trivial⟩ rfl) (OkOps.q (triQG (x:=aB (v.N != 1)) rfl rfl ⟨fun h=>h,trivial⟩ rfl) ?_)))
 refine OkOps.q (triAndG rfl rfl rfl (fun h=>h) (fun h h2=>by rw [h,h2];rfl) rfl) ?_
 refine OkOps.q (triOr rfl rfl (fun h=>by rw [h];rfl) rfl) ?_
 refine OkOps.nil ?_
 refine Ok.cond (b:=((v.Kind == 1) && ((decide (v.N < (-1099511627776))) || (decide (v.N > 1099511627776)))) || (((v.Kind == 2) && (v.N != 0)) && (v.N != 1))) rfl (fun h3=>?_) (fun h3=>?_)
 have hr:=selT h3 hr
 refine Ok.seq (Ok.region (OkOps.y (.agg [cI 0,.d (.v (.slice none 0 0))]) (OkOps.y (aI (IntKind.i64.wrap (met + 1))) (OkOps.w (triStore (cs':=[cI 0,.d (.v (.slice none 0 0))]) rfl rfl rfl rfl rfl rfl rfl rfl rfl) (OkOps.y (aI (IntKind.i64.wrap (met + 1))) (OkOps.y (aI 1) (OkOps.nil (Ok.ret ?_))))))))
 obtain rfl:=Option.some.inj hr
 exact ⟨_,rfl,.inr rfl,trivial⟩
 have hr:=selF h3 hr
 refine Ok.skip (Ok.seq (Ok.seq (Ok.region (OkOps.y (.c (.loc 0 2)) (OkOps.y (aS v.S) (OkOps.y (aI (v.S.size : Int)) (OkOps.y (aB (decide ((v.S.size : Int) > 2000))) (OkOps.y (aB (decide ((v.S.size : Int) > 2000))) (OkOps.q (triQG (x:=.c (.loc 0 3)) rfl rfl trivial rfl) (OkOps.q (triQG (x:=.c (.d (.sl (List.map AValue.cs v.L)))) rfl rfl ⟨fun h=>h,trivial⟩ rfl) (OkOps.q (triLenG (enc:=AValue.cs) v.L rfl rfl rfl ⟨fun h=>h,trivial⟩ rfl) (OkOps.q (triQG (x:=aB (decide ((v.L.length : Int) > 100))) rfl rfl ⟨fun h=>h,trivial⟩ rfl) ?_))))))))))))
 refine OkOps.q (triOr rfl rfl (fun h=>by rw [h];rfl) rfl) ?_
 refine OkOps.y (aB ((decide ((v.S.size : Int) > 2000)) || (decide ((v.L.length : Int) > 100)))) (OkOps.q (triQG (x:=aI (IntKind.i64.wrap (met + 1))) rfl rfl trivial rfl) (OkOps.q (triQG (x:=aB (decide ((IntKind.i64.wrap (met + 1)) > 1000))) rfl rfl ⟨fun h=>h,trivial⟩ rfl) ?_))
 refine OkOps.q (triOr rfl rfl (fun h=>by rw [h];rfl) rfl) ?_
 refine OkOps.nil ?_
 refine Ok.cond (b:=((decide ((v.S.size : Int) > 2000)) || (decide ((v.L.length : Int) > 100))) || (decide ((IntKind.i64.wrap (met + 1)) > 1000))) rfl (fun h4=>?_) (fun h4=>?_)
 have hr:=selT h4 hr
 refine Ok.seq (Ok.region (OkOps.y (.agg [cI 0,.d (.v (.slice none 0 0))]) (OkOps.y (aI (IntKind.i64.wrap (met + 1))) (OkOps.w (triStore (cs':=[cI 0,.d (.v (.slice none 0 0))]) rfl rfl rfl rfl rfl rfl rfl rfl rfl) (OkOps.y (aI (IntKind.i64.wrap (met + 1))) (OkOps.y (aI 2) (OkOps.nil (Ok.ret ?_))))))))
 obtain rfl:=Option.some.inj hr
 exact ⟨_,rfl,.inr rfl,trivial⟩
 have hr:=selF h4 hr
 refine Ok.skip (Ok.seq (Ok.seq (Ok.region (OkOps.y (.c (.loc 0 2)) (OkOps.y (aS v.S) ?_)))))
 obtain ⟨x5,hx5,hr⟩:=bind_some hr
 refine OkOps.q (triCl (tau []) (.s (aB x5)) [] (r11_UTF8_c _ hx5) rfl ⟨.inl rfl,trivial⟩ trivial entry97 trivial) (OkOps.y (aB (!x5)) (OkOps.nil ?_))
 refine Ok.cond (b:=!x5) rfl (fun h6=>?_) (fun h6=>?_)
 have hr:=selT h6 hr
 refine Ok.seq (Ok.region (OkOps.y (.agg [cI 0,.d (.v (.slice none 0 0))]) (OkOps.y (aI (IntKind.i64.wrap (met + 1))) (OkOps.w (triStore (cs':=[cI 0,.d (.v (.slice none 0 0))]) rfl rfl rfl rfl rfl rfl rfl rfl rfl) (OkOps.y (aI (IntKind.i64.wrap (met + 1))) (OkOps.y (aI 3) (OkOps.nil (Ok.ret ?_))))))))
 obtain rfl:=Option.some.inj hr
 exact ⟨_,rfl,.inr rfl,trivial⟩
 have hr:=selF h6 hr
 refine Ok.skip (Ok.seq (Ok.region (OkOps.y (.c (.loc 0 0)) (OkOps.y (aI v.Kind) (OkOps.y (.agg [cI v.Kind,.d (.v (.slice none 0 0))]) (OkOps.m 0 (triAlloc (j:=2) (cs:=[cI 0,.d (.v (.slice none 0 0))]) rfl rfl rfl rfl) (OkOps.w (triStore (cs':=[cI v.Kind,.d (.v (.slice none 0 0))]) rfl rfl rfl rfl rfl rfl rfl rfl rfl) (OkOps.nil (Ok.seq (Ok.region (OkOps.y (aB true) (OkOps.nil ?_))))))))))))
 obtain ⟨k8,hk8,hr⟩:=jn_some hr
 refine Ok.join (fun (s7 : Int × Bool × (List AType))=>⟨[(2,.s (aI s7.1)),(6,.s (.c (.loc 1 0))),(10,.s (.c (.loc 2 0))),(11,.s (aB s7.2.1))],[(1,.blk [cI 0,.d (.v (.slice none 0 0))] 115),(2,.blk [cI v.Kind,.tl 1008 (List.map AType.cs s7.2.2)] 115),(1008,.tail 2)],0⟩) k8 r (fun s7 hr=>?_) ?_
 rw [hk8] at hr
 refine Ok.seq (Ok.seq (Ok.region (OkOps.y (aB s7.2.1) (OkOps.y (aB (!s7.2.1)) (OkOps.nil ?_)))))
 refine Ok.cond (b:=!s7.2.1) rfl (fun h9=>?_) (fun h9=>?_)
 have hr:=selT h9 hr
 refine Ok.seq (Ok.region (OkOps.y (.agg [cI 0,.d (.v (.slice none 0 0))]) (OkOps.y (aI s7.1) (OkOps.w (triStore (cs':=[cI 0,.d (.v (.slice none 0 0))]) rfl rfl rfl rfl rfl rfl rfl rfl rfl) (OkOps.y (aI s7.1) (OkOps.y (aI 5) (OkOps.nil (Ok.ret ?_))))))))
 obtain rfl:=Option.some.inj hr
 exact ⟨_,rfl,.inr rfl,trivial⟩
 have hr:=selF h9 hr
 refine Ok.skip (Ok.seq (Ok.region (OkOps.y (.agg [cI v.Kind,.tl 1008 (List.map AType.cs s7.2.2)]) (OkOps.y (aI s7.1) (OkOps.w (triStore (cs':=[cI v.Kind,.tl 1008 (List.map AType.cs s7.2.2)]) rfl rfl rfl rfl rfl rfl rfl rfl rfl) (OkOps.y (aI s7.1) (OkOps.y (aI 0) (OkOps.nil (Ok.ret ?_)))))))))
 obtain rfl:=Option.some.inj hr
 exact ⟨_,rfl,.inr rfl,trivial⟩
 clear hk8
 refine Ok.seq (Ok.region (OkOps.y (aI 0) (OkOps.nil (Ok.block (Ok.loopK (fun (s10 : Int × Bool × Int × (List AType))=>⟨[(1,.s (aI depth)),(2,.s (aI s10.1)),(3,.s (.c (.loc 0 0))),(6,.s (.c (.loc 1 0))),(10,.s (.c (.loc 2 0))),(11,.s (aB s10.2.1)),(12,.s (aI s10.2.2.1))],[(0,.blk [cI v.Kind,cI v.N,cS v.S,.d (.sl (List.map AValue.cs v.L))] 85),(1,.blk [cI 0,.d (.v (.slice none 0 0))] 115),(2,.blk [cI v.Kind,.tl 1013 (List.map AType.cs s10.2.2.2)] 115),(1013,.tail 2)],0⟩) hr (Conv.trans (Conv.nilO 2 1 1016 2 [cI v.Kind,.d (.v (.slice none 0 0))] [cI v.Kind,.tl 1016 (List.map AType.cs ([] : (List AType)))] 115 0 rfl rfl rfl rfl) (Conv.mk (tau [(1013,1016)]) ⟨⟨_,rfl,.inl rfl⟩,⟨_,rfl,.inl rfl⟩,⟨_,rfl,.inl rfl⟩,⟨_,rfl,.inl rfl⟩,⟨_,rfl,.inl rfl⟩,⟨_,rfl,.inl rfl⟩,⟨_,rfl,.inl rfl⟩,trivial⟩ ⟨rfl,rfl,rfl,rfl,trivial⟩ rfl rfl rfl rfl)) ?_)))))
 clear hr
 intro again11 s10 hr
 unfold r11_check_L1 at hr
 refine Ok.seq (Ok.seq (Ok.region (OkOps.y (aI s10.2.2.1) (OkOps.y (.c (.loc 0 3)) (OkOps.y (.c (.d (.sl (List.map AValue.cs v.L)))) (OkOps.q (triLen (enc:=AValue.cs) v.L rfl rfl trivial rfl) (OkOps.y (aB (decide (s10.2.2.1 < (v.L.length : Int)))) (OkOps.nil ?_))))))))
 refine Ok.cond (b:=decide (s10.2.2.1 < (v.L.length : Int))) rfl (fun h12=>?_) (fun h12=>?_)
 have hr:=selT h12 hr
 refine Ok.skip ?_
 obtain ⟨k14,hk14,hr⟩:=jn_some hr
 refine Ok.join (fun (s13 : Int × Bool × (List AType))=>⟨[(1,.s (aI depth)),(2,.s (aI s13.1)),(3,.s (.c (.loc 0 0))),(6,.s (.c (.loc 1 0))),(10,.s (.c (.loc 2 0))),(11,.s (aB s13.2.1)),(12,.s (aI s10.2.2.1))],[(0,.blk [cI v.Kind,cI v.N,cS v.S,.d (.sl (List.map AValue.cs v.L))] 85),(1,.blk [cI 0,.d (.v (.slice none 0 0))] 115),(2,.blk [cI v.Kind,.tl 1017 (List.map AType.cs s13.2.2)] 115),(1017,.tail 2)],0⟩) k14 r (fun s13 hr=>?_) ?_
 rw [hk14] at hr
 refine Ok.region (OkOps.y (aI s10.2.2.1) (OkOps.y (aI (IntKind.i64.wrap (s10.2.2.1 + 1))) (OkOps.y (aI (IntKind.i64.wrap (s10.2.2.1 + 1))) (OkOps.nil ?_))))
 exact ⟨(s13.1,s13.2.1,IntKind.i64.wrap (s10.2.2.1 + 1),s13.2.2),hr,(Conv.mk (tau [(1013,1017)]) ⟨⟨_,rfl,.inl rfl⟩,⟨_,rfl,.inl rfl⟩,⟨_,rfl,.inl rfl⟩,⟨_,rfl,.inl rfl⟩,⟨_,rfl,.inl rfl⟩,⟨_,rfl,.inl rfl⟩,⟨_,rfl,.inl rfl⟩,trivial⟩ ⟨rfl,rfl,rfl,rfl,trivial⟩ rfl rfl rfl rfl)⟩
 clear hk14
 refine Ok.block (Ok.seq (Ok.region (OkOps.y (.c (.loc 0 3)) (OkOps.y (.c (.d (.sl (List.map AValue.cs v.L)))) (OkOps.y (aI s10.2.2.1) ?_)))))
 obtain ⟨x15,hx15,hr⟩:=bind_some hr
 refine OkOps.q (triIdx (enc:=AValue.cs) (L:=v.L) (row:=[dI x15.Kind,dI x15.N,dS x15.S,.sl (List.map AValue.cs x15.L)]) hx15 (AValue.cs_eq _) rfl rfl rfl (fun x=>by rw [AValue.cs_eq];rfl) trivial rfl) ?_
 refine OkOps.y (.agg [cI x15.Kind,cI x15.N,cS x15.S,.d (.sl (List.map AValue.cs x15.L))]) (OkOps.y (aI depth) (OkOps.y (aI (IntKind.i64.wrap (depth + 1))) (OkOps.y (aI s10.1) ?_)))
 obtain ⟨x16,hx16,hr⟩:=bind_some hr
 refine OkOps.q (triCl (tau []) (.tup [.agg [cI x16.1.Kind,.d (.sl (List.map AType.cs x16.1.Of))],aI x16.2.1,aI x16.2.2]) [] (hself0 _ _ _ hx16) rfl ⟨.inl rfl,.inl rfl,.inl rfl,trivial⟩ trivial entry87 trivial) (OkOps.q (triMv (v:=.tup [.agg [cI x16.1.Kind,.d (.sl (List.map AType.cs x16.1.Of))],aI x16.2.1,aI x16.2.2]) rfl rfl) (OkOps.y (.agg [cI x16.1.Kind,.d (.sl (List.map AType.cs x16.1.Of))]) (OkOps.y (aI x16.2.1) (OkOps.y (aI x16.2.2) (OkOps.m 0 (triAlloc (j:=3) (cs:=[cI 0,.d (.v (.slice none 0 0))]) rfl rfl rfl rfl) (OkOps.w (triStore (cs':=[cI x16.1.Kind,.d (.sl (List.map AType.cs x16.1.Of))]) rfl rfl rfl rfl rfl rfl rfl rfl rfl) (OkOps.y (aI x16.2.1) (OkOps.y (aI x16.2.2) (OkOps.nil (Ok.seq (Ok.region (OkOps.y (aI x16.2.1) (OkOps.y (aI x16.2.1) (OkOps.nil (Ok.seq ?_)))))))))))))))
 refine Ok.seq (Ok.region (OkOps.y (aI x16.2.2) (OkOps.y (aB (x16.2.2 != 0)) (OkOps.nil ?_))))
 refine Ok.cond (b:=x16.2.2 != 0) rfl (fun h17=>?_) (fun h17=>?_)
 have hr:=selT h17 hr
 refine Ok.seq (Ok.region (OkOps.y (.agg [cI 0,.d (.v (.slice none 0 0))]) (OkOps.y (aI x16.2.1) (OkOps.y (aI x16.2.2) (OkOps.w (triStore (cs':=[cI 0,.d (.v (.slice none 0 0))]) rfl rfl rfl rfl rfl rfl rfl rfl rfl) (OkOps.y (aI x16.2.1) (OkOps.y (aI x16.2.2) (OkOps.nil (Ok.ret ?_)))))))))
 obtain rfl:=Option.some.inj hr
 exact ⟨_,rfl,.inr rfl,trivial⟩
 have hr:=selF h17 hr
 refine Ok.skip (Ok.seq (Ok.seq (Ok.region (OkOps.y (aB s10.2.1) (OkOps.y (aB (!s10.2.1)) (OkOps.nil ?_))))))
 refine Ok.cond (b:=!s10.2.1) rfl (fun h18=>?_) (fun h18=>?_)
 have hr:=selT h18 hr
 refine Ok.exit ?_
 exact ⟨(x16.2.1,s10.2.1,s10.2.2.2),hr,(Conv.mk (tau [(1017,1013)]) ⟨⟨_,rfl,.inl rfl⟩,⟨_,rfl,.inl rfl⟩,⟨_,rfl,.inl rfl⟩,⟨_,rfl,.inl rfl⟩,⟨_,rfl,.inl rfl⟩,⟨_,rfl,.inl rfl⟩,⟨_,rfl,.inl rfl⟩,trivial⟩ ⟨rfl,rfl,rfl,rfl,trivial⟩ rfl rfl rfl rfl)⟩
 have hr:=selF h18 hr
 refine Ok.skip (Ok.seq (Ok.seq (Ok.region (OkOps.y (.c (.loc 2 1)) (OkOps.y (.c (.tl 1013 (List.map AType.cs s10.2.2.2))) (OkOps.q (triLen (enc:=AType.cs) s10.2.2.2 rfl rfl trivial rfl) (OkOps.y (aB ((s10.2.2.2.length : Int) == 0)) (OkOps.nil ?_))))))))
 refine Ok.cond (b:=(s10.2.2.2.length : Int) == 0) rfl (fun h19=>?_) (fun h19=>?_)
 have hr:=selT h19 hr
 refine Ok.seq (Ok.region (OkOps.y (.agg [cI x16.1.Kind,.d (.sl (List.map AType.cs x16.1.Of))]) ?_))
 refine OkOps.m 0 (triBST (sz:=2) (enc:=AType.cs) (j:=4) ([x16.1]) rfl rfl rfl rfl rfl (rows:=[[dI x16.1.Kind,.sl (List.map AType.cs x16.1.Of)]]) (by simp only [List.map,AType.cs_eq]) rfl rfl (fun x=>by rw [AType.cs_eq];rfl) trivial rfl rfl) ?_
 refine OkOps.y (.c (.loc 2 1)) (OkOps.w (triStore (cs':=[cI v.Kind,.tl 4 (List.map AType.cs ([x16.1]))]) rfl rfl rfl rfl rfl rfl rfl rfl rfl) (OkOps.nil (Ok.exit ?_)))
 exact ⟨(x16.2.1,s10.2.1,[x16.1]),hr,(Conv.mk (tau [(1017,4)]) ⟨⟨_,rfl,.inl rfl⟩,⟨_,rfl,.inl rfl⟩,⟨_,rfl,.inl rfl⟩,⟨_,rfl,.inl rfl⟩,⟨_,rfl,.inl rfl⟩,⟨_,rfl,.inl rfl⟩,⟨_,rfl,.inl rfl⟩,trivial⟩ ⟨rfl,rfl,rfl,rfl,trivial⟩ rfl rfl rfl rfl)⟩
 have hr:=selF h19 hr
 refine Ok.skip (Ok.seq (Ok.regionD (by kernel_rfl) (OkD.x (.c (.loc 2 1)) rfl trivial rfl (OkD.x (.c (.tl 1013 (List.map AType.cs s10.2.2.2))) rfl trivial rfl ?_))))
 obtain ⟨x20,hx20,hr⟩:=bind_some hr
 refine OkD.q (triIdx (enc:=AType.cs) (L:=s10.2.2.2) (row:=[dI x20.Kind,.sl (List.map AType.cs x20.Of)]) hx20 (AType.cs_eq _) rfl rfl rfl (fun x=>by rw [AType.cs_eq];rfl) trivial rfl) ?_
 refine OkD.x (.agg [cI x20.Kind,.d (.sl (List.map AType.cs x20.Of))]) rfl trivial rfl (OkD.x (.agg [cI x16.1.Kind,.d (.sl (List.map AType.cs x16.1.Of))]) rfl trivial rfl ?_)
 obtain ⟨x21,hx21,hr⟩:=bind_some hr
 refine OkD.q (triCl (tau []) (.tup [.agg [cI x21.1.Kind,.d (.sl (List.map AType.cs x21.1.Of))],aB x21.2]) [] (r11_join_c _ _ _ hx21) rfl ⟨.inl rfl,.inl rfl,trivial⟩ trivial entry98 trivial) (OkD.q (triMv (v:=.tup [.agg [cI x21.1.Kind,.d (.sl (List.map AType.cs x21.1.Of))],aB x21.2]) rfl rfl) (OkD.x (.agg [cI x21.1.Kind,.d (.sl (List.map AType.cs x21.1.Of))]) rfl trivial rfl (OkD.x (aB x21.2) rfl trivial rfl (OkD.m 0 (triAlloc (j:=5) (cs:=[cI 0,.d (.v (.slice none 0 0))]) rfl rfl rfl rfl) (OkD.w (triStore (cs':=[cI x21.1.Kind,.d (.sl (List.map AType.cs x21.1.Of))]) rfl rfl rfl rfl rfl rfl rfl rfl rfl) (OkD.x (aB x21.2) rfl trivial rfl (OkD.nil (by kernel_rfl) (Ok.seq (Ok.region (OkOps.y (aB x21.2) (OkOps.y (aB x21.2) (OkOps.nil (Ok.region (OkOps.y (.agg [cI x21.1.Kind,.d (.sl (List.map AType.cs x21.1.Of))]) ?_))))))))))))))
 refine OkOps.m 0 (triBST (sz:=2) (enc:=AType.cs) (j:=6) ([x21.1]) rfl rfl rfl rfl rfl (rows:=[[dI x21.1.Kind,.sl (List.map AType.cs x21.1.Of)]]) (by simp only [List.map,AType.cs_eq]) rfl rfl (fun x=>by rw [AType.cs_eq];rfl) trivial rfl rfl) ?_
 refine OkOps.y (.c (.loc 2 1)) (OkOps.w (triStore (cs':=[cI v.Kind,.tl 6 (List.map AType.cs ([x21.1]))]) rfl rfl rfl rfl rfl rfl rfl rfl rfl) (OkOps.nil ?_))
 exact ⟨(x16.2.1,x21.2,[x21.1]),hr,(Conv.mk (tau [(1017,6)]) ⟨⟨_,rfl,.inl rfl⟩,⟨_,rfl,.inl rfl⟩,⟨_,rfl,.inl rfl⟩,⟨_,rfl,.inl rfl⟩,⟨_,rfl,.inl rfl⟩,⟨_,rfl,.inl rfl⟩,⟨_,rfl,.inl rfl⟩,trivial⟩ ⟨rfl,rfl,rfl,rfl,trivial⟩ rfl rfl rfl rfl)⟩
 have hr:=selF h12 hr
 refine Ok.exit ?_
 exact ⟨(s10.1,s10.2.1,s10.2.2.2),hr,(Conv.mk (tau [(1008,1013)]) ⟨⟨_,rfl,.inl rfl⟩,⟨_,rfl,.inl rfl⟩,⟨_,rfl,.inl rfl⟩,⟨_,rfl,.inl rfl⟩,trivial⟩ ⟨rfl,rfl,rfl,trivial⟩ rfl rfl rfl rfl)⟩
theorem r11_check_all : ∀ n : Nat,(∀ (v : AValue) (depth : Int) (met : Int) {r : AType × Int × Int},r11_check n v depth met = some r → Con Tryz.prog 87 [.agg [cI v.Kind,cI v.N,cS v.S,.d (.sl (List.map AValue.cs v.L))],aI depth,aI met] [] (.tup [.agg [cI r.1.Kind,.d (.sl (List.map AType.cs r.1.Of))],aI r.2.1,aI r.2.2]) []) ∧ True:=by
 intro n
 induction n with
 | zero=>exact ⟨(by intros;rename_i hr;cases hr),trivial⟩
 | succ n ih=>exact ⟨(by intros;rename_i hr;exact r11_check_B_c _ ih.1 _ _ _ hr),trivial⟩
theorem r11_check_c (n : Nat) (v : AValue) (depth : Int) (met : Int) {r : AType × Int × Int} (hr : r11_check n v depth met = some r) : Con Tryz.prog 87 [.agg [cI v.Kind,cI v.N,cS v.S,.d (.sl (List.map AValue.cs v.L))],aI depth,aI met] [] (.tup [.agg [cI r.1.Kind,.d (.sl (List.map AType.cs r.1.Of))],aI r.2.1,aI r.2.2]) []:=(r11_check_all n).1 v depth met hr
theorem r11_TypeOf_c (v : AValue) {r : AType × Int} (hr : r11_TypeOf v = some r) : Con Tryz.prog 79 [.agg [cI v.Kind,cI v.N,cS v.S,.d (.sl (List.map AValue.cs v.L))]] [] (.tup [.agg [cI r.1.Kind,.d (.sl (List.map AType.cs r.1.Of))],aI r.2]) []:=by
 unfold r11_TypeOf at hr
 refine Con.of_ok 15 0 [.cell 2 115,.tmp 3] [(0,.s (.agg [cI v.Kind,cI v.N,cS v.S,.d (.sl (List.map AValue.cs v.L))]))] Tryz.func79 rfl rfl rfl rfl rfl rfl rfl rfl fun w g M ρ _=>(Ok.seq (Ok.region (OkOps.m 0 (triBox (j:=0) (cs:=[cI v.Kind,cI v.N,cS v.S,.d (.sl (List.map AValue.cs v.L))]) rfl rfl rfl rfl rfl) (OkOps.m 0 (triAlloc (j:=1) (cs:=[cI 0,.d (.v (.slice none 0 0))]) rfl rfl rfl rfl) (OkOps.y (aI 0) (OkOps.nil (Ok.seq (Ok.region (OkOps.y (.agg [cI v.Kind,cI v.N,cS v.S,.d (.sl (List.map AValue.cs v.L))]) ?_)))))))))
 obtain ⟨x1,hx1,hr⟩:=bind_some hr
 refine OkOps.q (triCl (tau []) (.tup [.agg [cI x1.1.Kind,.d (.sl (List.map AType.cs x1.1.Of))],aI x1.2.1,aI x1.2.2]) [] (r11_check_c _ _ _ _ hx1) rfl ⟨.inl rfl,.inl rfl,.inl rfl,trivial⟩ trivial entry87 trivial) (OkOps.q (triMv (v:=.tup [.agg [cI x1.1.Kind,.d (.sl (List.map AType.cs x1.1.Of))],aI x1.2.1,aI x1.2.2]) rfl rfl) (OkOps.y (.agg [cI x1.1.Kind,.d (.sl (List.map AType.cs x1.1.Of))]) (OkOps.y (aI x1.2.1) (OkOps.y (aI x1.2.2) (OkOps.m 0 (triAlloc (j:=2) (cs:=[cI 0,.d (.v (.slice none 0 0))]) rfl rfl rfl rfl) (OkOps.w (triStore (cs':=[cI x1.1.Kind,.d (.sl (List.map AType.cs x1.1.Of))]) rfl rfl rfl rfl rfl rfl rfl rfl rfl) (OkOps.y (aI x1.2.1) (OkOps.y (aI x1.2.2) (OkOps.nil (Ok.seq (Ok.region (OkOps.y (.agg [cI x1.1.Kind,.d (.sl (List.map AType.cs x1.1.Of))]) (OkOps.y (aI x1.2.2) (OkOps.w (triStore (cs':=[cI x1.1.Kind,.d (.sl (List.map AType.cs x1.1.Of))]) rfl rfl rfl rfl rfl rfl rfl rfl rfl) (OkOps.y (aI x1.2.2) ?_)))))))))))))))
 refine OkOps.nil (Ok.ret ?_)
 obtain rfl:=Option.some.inj hr
 exact ⟨_,rfl,.inl rfl,trivial⟩
theorem entry79 : Entry Tryz.prog 79:=⟨_,Tryz.func79,by kernel_rfl,by kernel_rfl⟩
theorem r11_Check_c (v : AValue) {r : Int} (hr : r11_Check v = some r) : Con Tryz.prog 64 [.agg [cI v.Kind,cI v.N,cS v.S,.d (.sl (List.map AValue.cs v.L))]] [] (.s (aI r)) []:=by
 unfold r11_Check at hr
 refine Con.of_ok 11 0 [.tmp 2] [(0,.s (.agg [cI v.Kind,cI v.N,cS v.S,.d (.sl (List.map AValue.cs v.L))]))] Tryz.func64 rfl rfl rfl rfl rfl rfl rfl rfl fun w g M ρ _=>(Ok.seq (Ok.region (OkOps.m 0 (triBox (j:=0) (cs:=[cI v.Kind,cI v.N,cS v.S,.d (.sl (List.map AValue.cs v.L))]) rfl rfl rfl rfl rfl) (OkOps.y (aI 0) (OkOps.nil (Ok.seq (Ok.region (OkOps.y (.agg [cI v.Kind,cI v.N,cS v.S,.d (.sl (List.map AValue.cs v.L))]) ?_))))))))
 obtain ⟨x1,hx1,hr⟩:=bind_some hr
 refine OkOps.q (triCl (tau []) (.tup [.agg [cI x1.1.Kind,.d (.sl (List.map AType.cs x1.1.Of))],aI x1.2]) [] (r11_TypeOf_c _ hx1) rfl ⟨.inl rfl,trivial⟩ trivial entry79 trivial) (OkOps.q (triMv (v:=.tup [.agg [cI x1.1.Kind,.d (.sl (List.map AType.cs x1.1.Of))],aI x1.2]) rfl rfl) (OkOps.y (.agg [cI x1.1.Kind,.d (.sl (List.map AType.cs x1.1.Of))]) (OkOps.y (aI x1.2) (OkOps.m 0 (triAlloc (j:=1) (cs:=[cI 0,.d (.v (.slice none 0 0))]) rfl rfl rfl rfl) (OkOps.w (triStore (cs':=[cI x1.1.Kind,.d (.sl (List.map AType.cs x1.1.Of))]) rfl rfl rfl rfl rfl rfl rfl rfl rfl) (OkOps.y (aI x1.2) (OkOps.nil (Ok.seq (Ok.region (OkOps.y (aI x1.2) (OkOps.y (aI x1.2) (OkOps.nil (Ok.ret ?_)))))))))))))
 obtain rfl:=Option.some.inj hr
 exact ⟨_,rfl,.inl rfl,trivial⟩
theorem entry64 : Entry Tryz.prog 64:=⟨_,Tryz.func64,by kernel_rfl,by kernel_rfl⟩
theorem entry57 : Entry Tryz.prog 57:=⟨_,Tryz.func57,by kernel_rfl,by kernel_rfl⟩
theorem entry58 : Entry Tryz.prog 58:=⟨_,Tryz.func58,by kernel_rfl,by kernel_rfl⟩
theorem r11_Same_B_c (self0 : AValue → AValue → Option Bool) (self1 : (List AValue) → (List AValue) → Option Bool) (hself0 : ∀ (a : AValue) (b : AValue) {r : Bool},self0 a b = some r → Con Tryz.prog 57 [.agg [cI a.Kind,cI a.N,cS a.S,.d (.sl (List.map AValue.cs a.L))],.agg [cI b.Kind,cI b.N,cS b.S,.d (.sl (List.map AValue.cs b.L))]] [] (.s (aB r)) []) (_hself1 : ∀ (a : (List AValue)) (b : (List AValue)) {r : Bool},self1 a b = some r → Con Tryz.prog 58 [.c (.d (.sl (List.map AValue.cs a))),.c (.d (.sl (List.map AValue.cs b)))] [] (.s (aB r)) []) (a : AValue) (b : AValue) {r : Bool} (hr : r11_Same_B self0 self1 a b = some r) : Con Tryz.prog 57 [.agg [cI a.Kind,cI a.N,cS a.S,.d (.sl (List.map AValue.cs a.L))],.agg [cI b.Kind,cI b.N,cS b.S,.d (.sl (List.map AValue.cs b.L))]] [] (.s (aB r)) []:=by
 unfold r11_Same_B at hr
 refine Con.of_ok 53 0 [.tmp 4] [(0,.s (.agg [cI a.Kind,cI a.N,cS a.S,.d (.sl (List.map AValue.cs a.L))])),(1,.s (.agg [cI b.Kind,cI b.N,cS b.S,.d (.sl (List.map AValue.cs b.L))]))] Tryz.func57 rfl rfl rfl rfl rfl rfl rfl rfl fun w g M ρ _=>(Ok.seq (Ok.region (OkOps.m 0 (triBox (j:=0) (cs:=[cI a.Kind,cI a.N,cS a.S,.d (.sl (List.map AValue.cs a.L))]) rfl rfl rfl rfl rfl) (OkOps.m 0 (triBox (j:=1) (cs:=[cI b.Kind,cI b.N,cS b.S,.d (.sl (List.map AValue.cs b.L))]) rfl rfl rfl rfl rfl) (OkOps.y (aB false) (OkOps.nil (Ok.seq (Ok.seq (Ok.region (OkOps.y (.c (.loc 0 0)) (OkOps.y (aI a.Kind) (OkOps.y (.c (.loc 1 0)) (OkOps.y (aI b.Kind) (OkOps.y (aB (a.Kind != b.Kind)) (OkOps.y (aB (a.Kind != b.Kind)) ?_)))))))))))))))
 refine OkOps.q (triQG (x:=.c (.loc 0 1)) rfl rfl trivial rfl) (OkOps.q (triQG (x:=aI a.N) rfl rfl ⟨fun h=>h,trivial⟩ rfl) (OkOps.q (triQG (x:=.c (.loc 1 1)) rfl rfl trivial rfl) (OkOps.q (triQG (x:=aI b.N) rfl rfl ⟨fun h=>h,trivial⟩ rfl) (OkOps.q (triQG (x:=aB (a.N != b.N)) rfl rfl ⟨fun h=>h,⟨fun h=>h,trivial⟩⟩ rfl) ?_))))
 refine OkOps.q (triOr rfl rfl (fun h=>by rw [h];rfl) rfl) ?_
 refine OkOps.y (aB ((a.Kind != b.Kind) || (a.N != b.N))) (OkOps.q (triQG (x:=.c (.loc 0 2)) rfl rfl trivial rfl) (OkOps.q (triQG (x:=aS a.S) rfl rfl ⟨fun h=>h,trivial⟩ rfl) (OkOps.q (triQG (x:=.c (.loc 1 2)) rfl rfl trivial rfl) (OkOps.q (triQG (x:=aS b.S) rfl rfl ⟨fun h=>h,trivial⟩ rfl) (OkOps.q (triQG (x:=aB (!(a.S.toList == b.S.toList))) rfl rfl ⟨fun h=>h,⟨fun h=>h,trivial⟩⟩ rfl) ?_)))))
 refine OkOps.q (triOr rfl rfl (fun h=>by rw [h];rfl) rfl) ?_
 refine OkOps.y (aB (((a.Kind != b.Kind) || (a.N != b.N)) || (!(a.S.toList == b.S.toList)))) (OkOps.q (triQG (x:=.c (.loc 0 3)) rfl rfl trivial rfl) (OkOps.q (triQG (x:=.c (.d (.sl (List.map AValue.cs a.L)))) rfl rfl ⟨fun h=>h,trivial⟩ rfl) (OkOps.q (triLenG (enc:=AValue.cs) a.L rfl rfl rfl ⟨fun h=>h,trivial⟩ rfl) (OkOps.q (triQG (x:=.c (.loc 1 3)) rfl rfl trivial rfl) (OkOps.q (triQG (x:=.c (.d (.sl (List.map AValue.cs b.L)))) rfl rfl ⟨fun h=>h,trivial⟩ rfl) (OkOps.q (triLenG (enc:=AValue.cs) b.L rfl rfl rfl ⟨fun h=>h,trivial⟩ rfl) (OkOps.q (triQG (x:=aB ((a.L.length : Int) != (b.L.length : Int))) rfl rfl ⟨fun h=>h,⟨fun h=>h,trivial⟩⟩ rfl) ?_)))))))
 refine OkOps.q (triOr rfl rfl (fun h=>by rw [h];rfl) rfl) ?_
 refine OkOps.nil ?_
 refine Ok.cond (b:=(((a.Kind != b.Kind) || (a.N != b.N)) || (!(a.S.toList == b.S.toList))) || ((a.L.length : Int) != (b.L.length : Int))) rfl (fun h1=>?_) (fun h1=>?_)
 have hr:=selT h1 hr
 refine Ok.seq (Ok.region (OkOps.y (aB false) (OkOps.nil (Ok.ret ?_))))
 obtain rfl:=Option.some.inj hr
 exact ⟨_,rfl,.inl rfl,trivial⟩
 have hr:=selF h1 hr
 refine Ok.skip ?_
 obtain ⟨k3,hk3,hr⟩:=jn_some hr
 refine Ok.join (fun (s2 : Unit)=>⟨[],[],0⟩) k3 r (fun s2 hr=>?_) ?_
 rw [hk3] at hr
 refine Ok.seq (Ok.region (OkOps.y (aB true) (OkOps.nil (Ok.ret ?_))))
 obtain rfl:=Option.some.inj hr
 exact ⟨_,rfl,.inl rfl,trivial⟩
 clear hk3
 refine Ok.seq (Ok.region (OkOps.y (aI 0) (OkOps.nil (Ok.block (Ok.loopK (fun (s4 : Int)=>⟨[(2,.s (.c (.loc 0 0))),(3,.s (.c (.loc 1 0))),(5,.s (aI s4))],[(0,.blk [cI a.Kind,cI a.N,cS a.S,.d (.sl (List.map AValue.cs a.L))] 85),(1,.blk [cI b.Kind,cI b.N,cS b.S,.d (.sl (List.map AValue.cs b.L))] 85)],0⟩) hr (Conv.mk (tau []) ⟨⟨_,rfl,.inl rfl⟩,⟨_,rfl,.inl rfl⟩,⟨_,rfl,.inl rfl⟩,trivial⟩ ⟨rfl,rfl,trivial⟩ rfl rfl rfl rfl) ?_)))))
 clear hr
 intro again5 s4 hr
 unfold r11_Same_L1 at hr
 refine Ok.seq (Ok.seq (Ok.region (OkOps.y (aI s4) (OkOps.y (.c (.loc 0 3)) (OkOps.y (.c (.d (.sl (List.map AValue.cs a.L)))) (OkOps.q (triLen (enc:=AValue.cs) a.L rfl rfl trivial rfl) (OkOps.y (aB (decide (s4 < (a.L.length : Int)))) (OkOps.nil ?_))))))))
 refine Ok.cond (b:=decide (s4 < (a.L.length : Int))) rfl (fun h6=>?_) (fun h6=>?_)
 have hr:=selT h6 hr
 refine Ok.skip (Ok.seq (Ok.block (Ok.seq (Ok.regionD (by kernel_rfl) (OkD.x (.c (.loc 0 3)) rfl trivial rfl (OkD.x (.c (.d (.sl (List.map AValue.cs a.L)))) rfl trivial rfl (OkD.x (aI s4) rfl trivial rfl ?_)))))))
 obtain ⟨x7,hx7,hr⟩:=bind_some hr
 refine OkD.q (triIdx (enc:=AValue.cs) (L:=a.L) (row:=[dI x7.Kind,dI x7.N,dS x7.S,.sl (List.map AValue.cs x7.L)]) hx7 (AValue.cs_eq _) rfl rfl rfl (fun x=>by rw [AValue.cs_eq];rfl) trivial rfl) ?_
 refine OkD.x (.agg [cI x7.Kind,cI x7.N,cS x7.S,.d (.sl (List.map AValue.cs x7.L))]) rfl trivial rfl (OkD.x (.c (.loc 1 3)) rfl trivial rfl (OkD.x (.c (.d (.sl (List.map AValue.cs b.L)))) rfl trivial rfl (OkD.x (aI s4) rfl trivial rfl ?_)))
 obtain ⟨x8,hx8,hr⟩:=bind_some hr
 refine OkD.q (triIdx (enc:=AValue.cs) (L:=b.L) (row:=[dI x8.Kind,dI x8.N,dS x8.S,.sl (List.map AValue.cs x8.L)]) hx8 (AValue.cs_eq _) rfl rfl rfl (fun x=>by rw [AValue.cs_eq];rfl) trivial rfl) ?_
 refine OkD.x (.agg [cI x8.Kind,cI x8.N,cS x8.S,.d (.sl (List.map AValue.cs x8.L))]) rfl trivial rfl ?_
 obtain ⟨x9,hx9,hr⟩:=bind_some hr
 refine OkD.q (triCl (tau []) (.s (aB x9)) [] (hself0 _ _ hx9) rfl ⟨.inl rfl,.inl rfl,trivial⟩ trivial entry57 trivial) (OkD.x (aB (!x9)) rfl trivial rfl (OkD.nil (by kernel_rfl) ?_))
 refine Ok.cond (b:=!x9) rfl (fun h10=>?_) (fun h10=>?_)
 have hr:=selT h10 hr
 refine Ok.seq (Ok.region (OkOps.y (aB false) (OkOps.nil (Ok.ret ?_))))
 obtain rfl:=Option.some.inj hr
 exact ⟨_,rfl,.inl rfl,trivial⟩
 have hr:=selF h10 hr
 refine Ok.skip (Ok.region (OkOps.y (aI s4) (OkOps.y (aI (IntKind.i64.wrap (s4 + 1))) (OkOps.y (aI (IntKind.i64.wrap (s4 + 1))) (OkOps.nil ?_)))))
 exact ⟨IntKind.i64.wrap (s4 + 1),hr,(Conv.mk (tau []) ⟨⟨_,rfl,.inl rfl⟩,⟨_,rfl,.inl rfl⟩,⟨_,rfl,.inl rfl⟩,trivial⟩ ⟨rfl,rfl,trivial⟩ rfl rfl rfl rfl)⟩
 have hr:=selF h6 hr
 refine Ok.exit ?_
 exact ⟨(),hr,(Conv.mk (tau []) trivial trivial rfl rfl rfl rfl)⟩
theorem r11_SameValues_B_c (self0 : AValue → AValue → Option Bool) (self1 : (List AValue) → (List AValue) → Option Bool) (hself0 : ∀ (a : AValue) (b : AValue) {r : Bool},self0 a b = some r → Con Tryz.prog 57 [.agg [cI a.Kind,cI a.N,cS a.S,.d (.sl (List.map AValue.cs a.L))],.agg [cI b.Kind,cI b.N,cS b.S,.d (.sl (List.map AValue.cs b.L))]] [] (.s (aB r)) []) (_hself1 : ∀ (a : (List AValue)) (b : (List AValue)) {r : Bool},self1 a b = some r → Con Tryz.prog 58 [.c (.d (.sl (List.map AValue.cs a))),.c (.d (.sl (List.map AValue.cs b)))] [] (.s (aB r)) []) (a : (List AValue)) (b : (List AValue)) {r : Bool} (hr : r11_SameValues_B self0 self1 a b = some r) : Con Tryz.prog 58 [.c (.d (.sl (List.map AValue.cs a))),.c (.d (.sl (List.map AValue.cs b)))] [] (.s (aB r)) []:=by
 unfold r11_SameValues_B at hr
 refine Con.of_ok 27 0 [.tmp 4] [(0,.s (.c (.d (.sl (List.map AValue.cs a))))),(1,.s (.c (.d (.sl (List.map AValue.cs b)))))] Tryz.func58 rfl rfl rfl rfl rfl rfl rfl rfl fun w g M ρ _=>(Ok.seq (Ok.region (OkOps.y (aB false) (OkOps.nil (Ok.seq (Ok.seq (Ok.region (OkOps.y (.c (.d (.sl (List.map AValue.cs a)))) (OkOps.q (triLen (enc:=AValue.cs) a rfl rfl trivial rfl) (OkOps.y (.c (.d (.sl (List.map AValue.cs b)))) (OkOps.q (triLen (enc:=AValue.cs) b rfl rfl trivial rfl) (OkOps.y (aB ((a.length : Int) != (b.length : Int))) (OkOps.nil ?_)))))))))))))
 refine Ok.cond (b:=(a.length : Int) != (b.length : Int)) rfl (fun h1=>?_) (fun h1=>?_)
 have hr:=selT h1 hr
 refine Ok.seq (Ok.region (OkOps.y (aB false) (OkOps.nil (Ok.ret ?_))))
 obtain rfl:=Option.some.inj hr
 exact ⟨_,rfl,.inl rfl,trivial⟩
 have hr:=selF h1 hr
 refine Ok.skip ?_
 obtain ⟨k3,hk3,hr⟩:=jn_some hr
 refine Ok.join (fun (s2 : Unit)=>⟨[],[],0⟩) k3 r (fun s2 hr=>?_) ?_
 rw [hk3] at hr
 refine Ok.seq (Ok.region (OkOps.y (aB true) (OkOps.nil (Ok.ret ?_))))
 obtain rfl:=Option.some.inj hr
 exact ⟨_,rfl,.inl rfl,trivial⟩
 clear hk3
 refine Ok.seq (Ok.region (OkOps.y (aI 0) (OkOps.nil (Ok.block (Ok.loopK (fun (s4 : Int)=>⟨[(0,.s (.c (.d (.sl (List.map AValue.cs a))))),(1,.s (.c (.d (.sl (List.map AValue.cs b))))),(5,.s (aI s4))],[],0⟩) hr (Conv.mk (tau []) ⟨⟨_,rfl,.inl rfl⟩,⟨_,rfl,.inl rfl⟩,⟨_,rfl,.inl rfl⟩,trivial⟩ trivial rfl rfl rfl rfl) ?_)))))
 clear hr
 intro again5 s4 hr
 unfold r11_SameValues_L1 at hr
 refine Ok.seq (Ok.seq (Ok.region (OkOps.y (aI s4) (OkOps.y (.c (.d (.sl (List.map AValue.cs a)))) (OkOps.q (triLen (enc:=AValue.cs) a rfl rfl trivial rfl) (OkOps.y (aB (decide (s4 < (a.length : Int)))) (OkOps.nil ?_)))))))
 refine Ok.cond (b:=decide (s4 < (a.length : Int))) rfl (fun h6=>?_) (fun h6=>?_)
 have hr:=selT h6 hr
 refine Ok.skip (Ok.seq (Ok.block (Ok.seq (Ok.regionD (by kernel_rfl) (OkD.x (.c (.d (.sl (List.map AValue.cs a)))) rfl trivial rfl (OkD.x (aI s4) rfl trivial rfl ?_))))))
 obtain ⟨x7,hx7,hr⟩:=bind_some hr
 refine OkD.q (triIdx (enc:=AValue.cs) (L:=a) (row:=[dI x7.Kind,dI x7.N,dS x7.S,.sl (List.map AValue.cs x7.L)]) hx7 (AValue.cs_eq _) rfl rfl rfl (fun x=>by rw [AValue.cs_eq];rfl) trivial rfl) ?_
 refine OkD.x (.agg [cI x7.Kind,cI x7.N,cS x7.S,.d (.sl (List.map AValue.cs x7.L))]) rfl trivial rfl (OkD.x (.c (.d (.sl (List.map AValue.cs b)))) rfl trivial rfl (OkD.x (aI s4) rfl trivial rfl ?_))
 obtain ⟨x8,hx8,hr⟩:=bind_some hr
 refine OkD.q (triIdx (enc:=AValue.cs) (L:=b) (row:=[dI x8.Kind,dI x8.N,dS x8.S,.sl (List.map AValue.cs x8.L)]) hx8 (AValue.cs_eq _) rfl rfl rfl (fun x=>by rw [AValue.cs_eq];rfl) trivial rfl) ?_
 refine OkD.x (.agg [cI x8.Kind,cI x8.N,cS x8.S,.d (.sl (List.map AValue.cs x8.L))]) rfl trivial rfl ?_
 obtain ⟨x9,hx9,hr⟩:=bind_some hr
 refine OkD.q (triCl (tau []) (.s (aB x9)) [] (hself0 _ _ hx9) rfl ⟨.inl rfl,.inl rfl,trivial⟩ trivial entry57 trivial) (OkD.x (aB (!x9)) rfl trivial rfl (OkD.nil (by kernel_rfl) ?_))
 refine Ok.cond (b:=!x9) rfl (fun h10=>?_) (fun h10=>?_)
 have hr:=selT h10 hr
 refine Ok.seq (Ok.region (OkOps.y (aB false) (OkOps.nil (Ok.ret ?_))))
 obtain rfl:=Option.some.inj hr
 exact ⟨_,rfl,.inl rfl,trivial⟩
 have hr:=selF h10 hr
 refine Ok.skip (Ok.region (OkOps.y (aI s4) (OkOps.y (aI (IntKind.i64.wrap (s4 + 1))) (OkOps.y (aI (IntKind.i64.wrap (s4 + 1))) (OkOps.nil ?_)))))
 exact ⟨IntKind.i64.wrap (s4 + 1),hr,(Conv.mk (tau []) ⟨⟨_,rfl,.inl rfl⟩,⟨_,rfl,.inl rfl⟩,⟨_,rfl,.inl rfl⟩,trivial⟩ trivial rfl rfl rfl rfl)⟩
 have hr:=selF h6 hr
 refine Ok.exit ?_
 exact ⟨(),hr,(Conv.mk (tau []) trivial trivial rfl rfl rfl rfl)⟩
theorem r11_Same_all : ∀ n : Nat,(∀ (a : AValue) (b : AValue) {r : Bool},r11_Same n a b = some r → Con Tryz.prog 57 [.agg [cI a.Kind,cI a.N,cS a.S,.d (.sl (List.map AValue.cs a.L))],.agg [cI b.Kind,cI b.N,cS b.S,.d (.sl (List.map AValue.cs b.L))]] [] (.s (aB r)) []) ∧ (∀ (a : (List AValue)) (b : (List AValue)) {r : Bool},r11_SameValues n a b = some r → Con Tryz.prog 58 [.c (.d (.sl (List.map AValue.cs a))),.c (.d (.sl (List.map AValue.cs b)))] [] (.s (aB r)) []) ∧ True:=by
 intro n
 induction n with
 | zero=>exact ⟨(by intros;rename_i hr;cases hr),(by intros;rename_i hr;cases hr),trivial⟩
 | succ n ih=>exact ⟨(by intros;rename_i hr;exact r11_Same_B_c _ _ ih.1 ih.2.1 _ _ hr),(by intros;rename_i hr;exact r11_SameValues_B_c _ _ ih.1 ih.2.1 _ _ hr),trivial⟩
theorem r11_Same_c (n : Nat) (a : AValue) (b : AValue) {r : Bool} (hr : r11_Same n a b = some r) : Con Tryz.prog 57 [.agg [cI a.Kind,cI a.N,cS a.S,.d (.sl (List.map AValue.cs a.L))],.agg [cI b.Kind,cI b.N,cS b.S,.d (.sl (List.map AValue.cs b.L))]] [] (.s (aB r)) []:=(r11_Same_all n).1 a b hr
theorem r11_SameValues_c (n : Nat) (a : (List AValue)) (b : (List AValue)) {r : Bool} (hr : r11_SameValues n a b = some r) : Con Tryz.prog 58 [.c (.d (.sl (List.map AValue.cs a))),.c (.d (.sl (List.map AValue.cs b)))] [] (.s (aB r)) []:=(r11_Same_all n).2.1 a b hr
end Go.Proofs.YtcfegecdlbbeaaaGreatDoor
end
section
set_option maxRecDepth 100000
namespace Go.Proofs.YtcfegecdlbbeaaaGreatDoor
open Go Go.E2
theorem entry50 : Entry Tryz.prog 50:=⟨_,Tryz.func50,by kernel_rfl,by kernel_rfl⟩
theorem r14_validate_B_c (self0 : View → Int → Int → Option (Int × Int)) (hself0 : ∀ (v : View) (depth : Int) (met : Int) {r : Int × Int},self0 v depth met = some r → Con Tryz.prog 50 [.agg [cI v.Kind,cS v.Key,.d (.sl (List.map Attr.cs v.Attrs)),.d (.sl (List.map Action.cs v.Actions)),.d (.sl (List.map View.cs v.Kids))],aI depth,aI met] [] (.tup [aI r.1,aI r.2]) []) (v : View) (depth : Int) (met : Int) {r : Int × Int} (hr : r14_validate_B self0 v depth met = some r) : Con Tryz.prog 50 [.agg [cI v.Kind,cS v.Key,.d (.sl (List.map Attr.cs v.Attrs)),.d (.sl (List.map Action.cs v.Actions)),.d (.sl (List.map View.cs v.Kids))],aI depth,aI met] [] (.tup [aI r.1,aI r.2]) []:=by
 unfold r14_validate_B at hr
 refine Con.of_ok 230 0 [.tmp 6,.tmp 7] [(0,.s (.agg [cI v.Kind,cS v.Key,.d (.sl (List.map Attr.cs v.Attrs)),.d (.sl (List.map Action.cs v.Actions)),.d (.sl (List.map View.cs v.Kids))])),(1,.s (aI depth)),(2,.s (aI met))] Tryz.func50 rfl rfl rfl rfl rfl rfl rfl rfl fun w g M ρ _=>(Ok.seq (Ok.region (OkOps.m 0 (triBox (j:=0) (cs:=[cI v.Kind,cS v.Key,.d (.sl (List.map Attr.cs v.Attrs)),.d (.sl (List.map Action.cs v.Actions)),.d (.sl (List.map View.cs v.Kids))]) rfl rfl rfl rfl rfl) (OkOps.y (aI 0) (OkOps.y (aI 0) (OkOps.nil (Ok.seq (Ok.region (OkOps.y (aI met) (OkOps.y (aI (IntKind.i64.wrap (met + 1))) (OkOps.y (aI (IntKind.i64.wrap (met + 1))) (OkOps.nil (Ok.seq (Ok.seq (Ok.region ?_)))))))))))))))
 refine OkOps.y (aI depth) (OkOps.y (aB (decide (depth > 16))) (OkOps.nil ?_))
 refine Ok.cond (b:=decide (depth > 16)) rfl (fun h1=>?_) (fun h1=>?_)
 have hr:=selT h1 hr
 refine Ok.seq (Ok.region (OkOps.y (aI (IntKind.i64.wrap (met + 1))) (OkOps.y (aI (IntKind.i64.wrap (met + 1))) (OkOps.y (aI 8) (OkOps.nil (Ok.ret ?_))))))
 obtain rfl:=Option.some.inj hr
 exact ⟨_,rfl,.inl rfl,trivial⟩
 have hr:=selF h1 hr
 refine Ok.skip (Ok.seq (Ok.seq (Ok.region (OkOps.y (aI (IntKind.i64.wrap (met + 1))) (OkOps.y (aB (decide ((IntKind.i64.wrap (met + 1)) > 400))) (OkOps.nil ?_))))))
 refine Ok.cond (b:=decide ((IntKind.i64.wrap (met + 1)) > 400)) rfl (fun h2=>?_) (fun h2=>?_)
 have hr:=selT h2 hr
 refine Ok.seq (Ok.region (OkOps.y (aI (IntKind.i64.wrap (met + 1))) (OkOps.y (aI (IntKind.i64.wrap (met + 1))) (OkOps.y (aI 2) (OkOps.nil (Ok.ret ?_))))))
 obtain rfl:=Option.some.inj hr
 exact ⟨_,rfl,.inl rfl,trivial⟩
 have hr:=selF h2 hr
 refine Ok.skip (Ok.seq (Ok.seq (Ok.region (OkOps.y (.c (.loc 0 0)) (OkOps.y (aI v.Kind) (OkOps.y (aB (decide (v.Kind < 1))) (OkOps.y (aB (decide (v.Kind < 1))) (OkOps.q (triQG (x:=.c (.loc 0 0)) rfl rfl trivial rfl) (OkOps.q (triQG (x:=aI v.Kind) rfl rfl ⟨fun h=>h,trivial⟩ rfl) (OkOps.q (triQG (x:=aB (decide (v.Kind > 13))) rfl rfl ⟨fun h=>h,trivial⟩ rfl) ?_))))))))))
 refine OkOps.q (triOr rfl rfl (fun h=>by rw [h];rfl) rfl) ?_
 refine OkOps.nil ?_
 refine Ok.cond (b:=(decide (v.Kind < 1)) || (decide (v.Kind > 13))) rfl (fun h3=>?_) (fun h3=>?_)
 have hr:=selT h3 hr
 refine Ok.seq (Ok.region (OkOps.y (aI (IntKind.i64.wrap (met + 1))) (OkOps.y (aI (IntKind.i64.wrap (met + 1))) (OkOps.y (aI 9) (OkOps.nil (Ok.ret ?_))))))
 obtain rfl:=Option.some.inj hr
 exact ⟨_,rfl,.inl rfl,trivial⟩
 have hr:=selF h3 hr
 refine Ok.skip (Ok.seq (Ok.seq (Ok.region (OkOps.y (.c (.loc 0 1)) (OkOps.y (aS v.Key) ?_)))))
 obtain ⟨x4,hx4,hr⟩:=bind_some hr
 refine OkOps.q (triCl (tau []) (.s (aB x4)) [] (r14_Key_c _ hx4) rfl ⟨.inl rfl,trivial⟩ trivial entry62 trivial) (OkOps.y (aB (!x4)) (OkOps.nil ?_))
 refine Ok.cond (b:=!x4) rfl (fun h5=>?_) (fun h5=>?_)
 have hr:=selT h5 hr
 refine Ok.seq (Ok.region (OkOps.y (aI (IntKind.i64.wrap (met + 1))) (OkOps.y (aI (IntKind.i64.wrap (met + 1))) (OkOps.y (aI 4) (OkOps.nil (Ok.ret ?_))))))
 obtain rfl:=Option.some.inj hr
 exact ⟨_,rfl,.inl rfl,trivial⟩
 have hr:=selF h5 hr
 refine Ok.skip (Ok.seq (Ok.seq (Ok.region (OkOps.y (.c (.loc 0 2)) (OkOps.y (.c (.d (.sl (List.map Attr.cs v.Attrs)))) (OkOps.q (triLen (enc:=Attr.cs) v.Attrs rfl rfl trivial rfl) (OkOps.y (aB (decide ((v.Attrs.length : Int) > 24))) (OkOps.y (aB (decide ((v.Attrs.length : Int) > 24))) (OkOps.q (triQG (x:=.c (.loc 0 3)) rfl rfl trivial rfl) (OkOps.q (triQG (x:=.c (.d (.sl (List.map Action.cs v.Actions)))) rfl rfl ⟨fun h=>h,trivial⟩ rfl) (OkOps.q (triLenG (enc:=Action.cs) v.Actions rfl rfl rfl ⟨fun h=>h,trivial⟩ rfl) (OkOps.q (triQG (x:=aB (decide ((v.Actions.length : Int) > 24))) rfl rfl ⟨fun h=>h,trivial⟩ rfl) ?_))))))))))))
 refine OkOps.q (triOr rfl rfl (fun h=>by rw [h];rfl) rfl) ?_
 refine OkOps.y (aB ((decide ((v.Attrs.length : Int) > 24)) || (decide ((v.Actions.length : Int) > 24)))) (OkOps.q (triQG (x:=.c (.loc 0 4)) rfl rfl trivial rfl) (OkOps.q (triQG (x:=.c (.d (.sl (List.map View.cs v.Kids)))) rfl rfl ⟨fun h=>h,trivial⟩ rfl) (OkOps.q (triLenG (enc:=View.cs) v.Kids rfl rfl rfl ⟨fun h=>h,trivial⟩ rfl) (OkOps.q (triQG (x:=aB (decide ((v.Kids.length : Int) > 100))) rfl rfl ⟨fun h=>h,trivial⟩ rfl) ?_))))
 refine OkOps.q (triOr rfl rfl (fun h=>by rw [h];rfl) rfl) ?_
 refine OkOps.nil ?_
 refine Ok.cond (b:=((decide ((v.Attrs.length : Int) > 24)) || (decide ((v.Actions.length : Int) > 24))) || (decide ((v.Kids.length : Int) > 100))) rfl (fun h6=>?_) (fun h6=>?_)
 have hr:=selT h6 hr
 refine Ok.seq (Ok.region (OkOps.y (aI (IntKind.i64.wrap (met + 1))) (OkOps.y (aI (IntKind.i64.wrap (met + 1))) (OkOps.y (aI 2) (OkOps.nil (Ok.ret ?_))))))
 obtain rfl:=Option.some.inj hr
 exact ⟨_,rfl,.inl rfl,trivial⟩
 have hr:=selF h6 hr
 refine Ok.skip ?_
 obtain ⟨k8,hk8,hr⟩:=jn_some hr
 refine Ok.join (fun (s7 : Unit)=>⟨[(1,.s (aI depth)),(2,.s (aI (IntKind.i64.wrap (met + 1)))),(3,.s (.c (.loc 0 0)))],[(0,.blk [cI v.Kind,cS v.Key,.d (.sl (List.map Attr.cs v.Attrs)),.d (.sl (List.map Action.cs v.Actions)),.d (.sl (List.map View.cs v.Kids))] 46)],0⟩) k8 r (fun s7 hr=>?_) ?_
 rw [hk8] at hr
 obtain ⟨k10,hk10,hr⟩:=jn_some hr
 refine Ok.join (fun (s9 : Unit)=>⟨[(1,.s (aI depth)),(2,.s (aI (IntKind.i64.wrap (met + 1)))),(3,.s (.c (.loc 0 0)))],[(0,.blk [cI v.Kind,cS v.Key,.d (.sl (List.map Attr.cs v.Attrs)),.d (.sl (List.map Action.cs v.Actions)),.d (.sl (List.map View.cs v.Kids))] 46)],0⟩) k10 r (fun s9 hr=>?_) ?_
 rw [hk10] at hr
 obtain ⟨k12,hk12,hr⟩:=jn_some hr
 refine Ok.join (fun (s11 : Unit)=>⟨[(1,.s (aI depth)),(2,.s (aI (IntKind.i64.wrap (met + 1)))),(3,.s (.c (.loc 0 0)))],[(0,.blk [cI v.Kind,cS v.Key,.d (.sl (List.map Attr.cs v.Attrs)),.d (.sl (List.map Action.cs v.Actions)),.d (.sl (List.map View.cs v.Kids))] 46)],0⟩) k12 r (fun s11 hr=>?_) ?_
 rw [hk12] at hr
 obtain ⟨k14,hk14,hr⟩:=jn_some hr
 refine Ok.join (fun (s13 : Int)=>⟨[(2,.s (aI s13))],[],0⟩) k14 r (fun s13 hr=>?_) ?_
 rw [hk14] at hr
 refine Ok.seq (Ok.region (OkOps.y (aI s13) (OkOps.y (aI s13) (OkOps.y (aI 0) (OkOps.nil (Ok.ret ?_))))))
 obtain rfl:=Option.some.inj hr
 exact ⟨_,rfl,.inl rfl,trivial⟩
 clear hk14
 refine Ok.seq (Ok.region (OkOps.y (aI 0) (OkOps.nil (Ok.block (Ok.loopK (fun (s15 : Int × Int)=>⟨[(1,.s (aI depth)),(2,.s (aI s15.1)),(3,.s (.c (.loc 0 0))),(16,.s (aI s15.2))],[(0,.blk [cI v.Kind,cS v.Key,.d (.sl (List.map Attr.cs v.Attrs)),.d (.sl (List.map Action.cs v.Actions)),.d (.sl (List.map View.cs v.Kids))] 46)],0⟩) hr (Conv.mk (tau []) ⟨⟨_,rfl,.inl rfl⟩,⟨_,rfl,.inl rfl⟩,⟨_,rfl,.inl rfl⟩,⟨_,rfl,.inl rfl⟩,trivial⟩ ⟨rfl,trivial⟩ rfl rfl rfl rfl) ?_)))))
 clear hr
 intro again16 s15 hr
 unfold r14_validate_L1 at hr
 refine Ok.seq (Ok.seq (Ok.region (OkOps.y (aI s15.2) (OkOps.y (.c (.loc 0 4)) (OkOps.y (.c (.d (.sl (List.map View.cs v.Kids)))) (OkOps.q (triLen (enc:=View.cs) v.Kids rfl rfl trivial rfl) (OkOps.y (aB (decide (s15.2 < (v.Kids.length : Int)))) (OkOps.nil ?_))))))))
 refine Ok.cond (b:=decide (s15.2 < (v.Kids.length : Int))) rfl (fun h17=>?_) (fun h17=>?_)
 have hr:=selT h17 hr
 refine Ok.skip (Ok.seq (Ok.block (Ok.seq (Ok.region (OkOps.y (.c (.loc 0 4)) (OkOps.y (.c (.d (.sl (List.map View.cs v.Kids)))) (OkOps.y (aI s15.2) ?_)))))))
 obtain ⟨x18,hx18,hr⟩:=bind_some hr
 refine OkOps.q (triIdx (enc:=View.cs) (L:=v.Kids) (row:=[dI x18.Kind,dS x18.Key,.sl (List.map Attr.cs x18.Attrs),.sl (List.map Action.cs x18.Actions),.sl (List.map View.cs x18.Kids)]) hx18 (View.cs_eq _) rfl rfl rfl (fun x=>by rw [View.cs_eq];rfl) trivial rfl) ?_
 refine OkOps.y (.agg [cI x18.Kind,cS x18.Key,.d (.sl (List.map Attr.cs x18.Attrs)),.d (.sl (List.map Action.cs x18.Actions)),.d (.sl (List.map View.cs x18.Kids))]) (OkOps.y (aI depth) (OkOps.y (aI (IntKind.i64.wrap (depth + 1))) (OkOps.y (aI s15.1) ?_)))
 obtain ⟨x19,hx19,hr⟩:=bind_some hr
 refine OkOps.q (triCl (tau []) (.tup [aI x19.1,aI x19.2]) [] (hself0 _ _ _ hx19) rfl ⟨.inl rfl,.inl rfl,.inl rfl,trivial⟩ trivial entry50 trivial) (OkOps.q (triMv (v:=.tup [aI x19.1,aI x19.2]) rfl rfl) (OkOps.y (aI x19.1) (OkOps.y (aI x19.2) (OkOps.y (aI x19.1) (OkOps.y (aI x19.2) (OkOps.nil (Ok.seq (Ok.region (OkOps.y (aI x19.1) (OkOps.y (aI x19.1) (OkOps.nil (Ok.seq (Ok.region (OkOps.y (aI x19.2) (OkOps.y (aB (x19.2 != 0)) ?_)))))))))))))))
 refine OkOps.nil ?_
 refine Ok.cond (b:=x19.2 != 0) rfl (fun h20=>?_) (fun h20=>?_)
 have hr:=selT h20 hr
 refine Ok.seq (Ok.region (OkOps.y (aI x19.1) (OkOps.y (aI x19.2) (OkOps.y (aI x19.1) (OkOps.y (aI x19.2) (OkOps.nil (Ok.ret ?_)))))))
 obtain rfl:=Option.some.inj hr
 exact ⟨_,rfl,.inl rfl,trivial⟩
 have hr:=selF h20 hr
 refine Ok.skip (Ok.region (OkOps.y (aI s15.2) (OkOps.y (aI (IntKind.i64.wrap (s15.2 + 1))) (OkOps.y (aI (IntKind.i64.wrap (s15.2 + 1))) (OkOps.nil ?_)))))
 exact ⟨(x19.1,IntKind.i64.wrap (s15.2 + 1)),hr,(Conv.mk (tau []) ⟨⟨_,rfl,.inl rfl⟩,⟨_,rfl,.inl rfl⟩,⟨_,rfl,.inl rfl⟩,⟨_,rfl,.inl rfl⟩,trivial⟩ ⟨rfl,trivial⟩ rfl rfl rfl rfl)⟩
 have hr:=selF h17 hr
 refine Ok.exit ?_
 exact ⟨s15.1,hr,(Conv.mk (tau []) ⟨⟨_,rfl,.inl rfl⟩,trivial⟩ trivial rfl rfl rfl rfl)⟩
 clear hk12
 refine Ok.seq (Ok.region (OkOps.y (aI 0) (OkOps.nil (Ok.block (Ok.loopK (fun (s21 : Int)=>⟨[(1,.s (aI depth)),(2,.s (aI (IntKind.i64.wrap (met + 1)))),(3,.s (.c (.loc 0 0))),(14,.s (aI s21))],[(0,.blk [cI v.Kind,cS v.Key,.d (.sl (List.map Attr.cs v.Attrs)),.d (.sl (List.map Action.cs v.Actions)),.d (.sl (List.map View.cs v.Kids))] 46)],0⟩) hr (Conv.mk (tau []) ⟨⟨_,rfl,.inl rfl⟩,⟨_,rfl,.inl rfl⟩,⟨_,rfl,.inl rfl⟩,⟨_,rfl,.inl rfl⟩,trivial⟩ ⟨rfl,trivial⟩ rfl rfl rfl rfl) ?_)))))
 clear hr
 intro again22 s21 hr
 unfold r14_validate_L3 at hr
 refine Ok.seq (Ok.seq (Ok.region (OkOps.y (aI s21) (OkOps.y (.c (.loc 0 4)) (OkOps.y (.c (.d (.sl (List.map View.cs v.Kids)))) (OkOps.q (triLen (enc:=View.cs) v.Kids rfl rfl trivial rfl) (OkOps.y (aB (decide (s21 < (v.Kids.length : Int)))) (OkOps.nil ?_))))))))
 refine Ok.cond (b:=decide (s21 < (v.Kids.length : Int))) rfl (fun h23=>?_) (fun h23=>?_)
 have hr:=selT h23 hr
 refine Ok.skip ?_
 obtain ⟨k25,hk25,hr⟩:=jn_some hr
 refine Ok.join (fun (s24 : Unit)=>⟨[(1,.s (aI depth)),(2,.s (aI (IntKind.i64.wrap (met + 1)))),(3,.s (.c (.loc 0 0))),(14,.s (aI s21))],[(0,.blk [cI v.Kind,cS v.Key,.d (.sl (List.map Attr.cs v.Attrs)),.d (.sl (List.map Action.cs v.Actions)),.d (.sl (List.map View.cs v.Kids))] 46)],0⟩) k25 r (fun s24 hr=>?_) ?_
 rw [hk25] at hr
 refine Ok.region (OkOps.y (aI s21) (OkOps.y (aI (IntKind.i64.wrap (s21 + 1))) (OkOps.y (aI (IntKind.i64.wrap (s21 + 1))) (OkOps.nil ?_))))
 exact ⟨IntKind.i64.wrap (s21 + 1),hr,(Conv.mk (tau []) ⟨⟨_,rfl,.inl rfl⟩,⟨_,rfl,.inl rfl⟩,⟨_,rfl,.inl rfl⟩,⟨_,rfl,.inl rfl⟩,trivial⟩ ⟨rfl,trivial⟩ rfl rfl rfl rfl)⟩
 clear hk25
 refine Ok.block (Ok.seq (Ok.region (OkOps.y (aI 0) (OkOps.nil ?_))))
 obtain ⟨k27,hk27,hr⟩:=jn_some hr
 refine Ok.joinEnd (fun (s26 : Unit)=>⟨[(1,.s (aI depth)),(2,.s (aI (IntKind.i64.wrap (met + 1)))),(3,.s (.c (.loc 0 0))),(14,.s (aI s21))],[(0,.blk [cI v.Kind,cS v.Key,.d (.sl (List.map Attr.cs v.Attrs)),.d (.sl (List.map Action.cs v.Actions)),.d (.sl (List.map View.cs v.Kids))] 46)],0⟩) k27 r (fun s26 hr=>?_) ?_
 rw [hk27] at hr
 exact ⟨(),hr,(Conv.mk (tau []) ⟨⟨_,rfl,.inl rfl⟩,⟨_,rfl,.inl rfl⟩,⟨_,rfl,.inl rfl⟩,⟨_,rfl,.inl rfl⟩,trivial⟩ ⟨rfl,trivial⟩ rfl rfl rfl rfl)⟩
 clear hk27
 refine Ok.block (Ok.loopK (fun (s28 : Int)=>⟨[(1,.s (aI depth)),(2,.s (aI (IntKind.i64.wrap (met + 1)))),(3,.s (.c (.loc 0 0))),(14,.s (aI s21)),(15,.s (aI s28))],[(0,.blk [cI v.Kind,cS v.Key,.d (.sl (List.map Attr.cs v.Attrs)),.d (.sl (List.map Action.cs v.Actions)),.d (.sl (List.map View.cs v.Kids))] 46)],0⟩) hr (Conv.mk (tau []) ⟨⟨_,rfl,.inl rfl⟩,⟨_,rfl,.inl rfl⟩,⟨_,rfl,.inl rfl⟩,⟨_,rfl,.inl rfl⟩,⟨_,rfl,.inl rfl⟩,trivial⟩ ⟨rfl,trivial⟩ rfl rfl rfl rfl) ?_)
 clear hr
 intro again29 s28 hr
 unfold r14_validate_L2 at hr
 refine Ok.seq (Ok.seq (Ok.region (OkOps.y (aI s28) (OkOps.y (aI s21) (OkOps.y (aB (decide (s28 < s21))) (OkOps.nil ?_))))))
 refine Ok.cond (b:=decide (s28 < s21)) rfl (fun h30=>?_) (fun h30=>?_)
 have hr:=selT h30 hr
 refine Ok.skip (Ok.seq (Ok.block (Ok.seq (Ok.regionD (by kernel_rfl) (OkD.x (.c (.loc 0 4)) rfl trivial rfl (OkD.x (.c (.d (.sl (List.map View.cs v.Kids)))) rfl trivial rfl (OkD.x (aI s21) rfl trivial rfl ?_)))))))
 obtain ⟨x31,hx31,hr⟩:=bind_some hr
 refine OkD.q (triIdx (enc:=View.cs) (L:=v.Kids) (row:=[dI x31.Kind,dS x31.Key,.sl (List.map Attr.cs x31.Attrs),.sl (List.map Action.cs x31.Actions),.sl (List.map View.cs x31.Kids)]) hx31 (View.cs_eq _) rfl rfl rfl (fun x=>by rw [View.cs_eq];rfl) trivial rfl) ?_
 refine OkD.x (.c (.pt [dS x31.Key,.sl (List.map Attr.cs x31.Attrs),.sl (List.map Action.cs x31.Actions),.sl (List.map View.cs x31.Kids)])) rfl trivial rfl (OkD.x (aS x31.Key) rfl trivial rfl (OkD.x (aB (!(x31.Key.toList == (ByteArray.mk #[]).toList))) rfl trivial rfl (OkD.x (aB (!(x31.Key.toList == (ByteArray.mk #[]).toList))) rfl trivial rfl (OkD.q (triQG (x:=.c (.loc 0 4)) rfl rfl trivial rfl) (OkD.q (triQG (x:=.c (.d (.sl (List.map View.cs v.Kids)))) rfl rfl ⟨fun h=>h,trivial⟩ rfl) (OkD.q (triQG (x:=aI s21) rfl rfl trivial rfl) ?_))))))
 obtain ⟨x32,hx32,hr⟩:=bind_some hr
 refine OkD.q (triIdxG (enc:=View.cs) (L:=v.Kids) (row:=[dI x32.Kind,dS x32.Key,.sl (List.map Attr.cs x32.Attrs),.sl (List.map Action.cs x32.Actions),.sl (List.map View.cs x32.Kids)]) (gO_t hx32) (View.cs_eq _) rfl rfl rfl rfl (fun x=>by rw [View.cs_eq];rfl) ⟨fun h=>h,⟨fun h=>h,trivial⟩⟩ rfl) ?_
 refine OkD.q (triQG (x:=.c (.pt [dS x32.Key,.sl (List.map Attr.cs x32.Attrs),.sl (List.map Action.cs x32.Actions),.sl (List.map View.cs x32.Kids)])) rfl rfl ⟨fun h=>h,trivial⟩ rfl) (OkD.q (triQG (x:=aS x32.Key) rfl rfl ⟨fun h=>h,trivial⟩ rfl) (OkD.q (triQG (x:=.c (.loc 0 4)) rfl rfl trivial rfl) (OkD.q (triQG (x:=.c (.d (.sl (List.map View.cs v.Kids)))) rfl rfl ⟨fun h=>h,trivial⟩ rfl) (OkD.q (triQG (x:=aI s28) rfl rfl trivial rfl) ?_))))
 obtain ⟨x33,hx33,hr⟩:=bind_some hr
 refine OkD.q (triIdxG (enc:=View.cs) (L:=v.Kids) (row:=[dI x33.Kind,dS x33.Key,.sl (List.map Attr.cs x33.Attrs),.sl (List.map Action.cs x33.Actions),.sl (List.map View.cs x33.Kids)]) (gO_t hx33) (View.cs_eq _) rfl rfl rfl rfl (fun x=>by rw [View.cs_eq];rfl) ⟨fun h=>h,⟨fun h=>h,trivial⟩⟩ rfl) ?_
 refine OkD.q (triQG (x:=.c (.pt [dS x33.Key,.sl (List.map Attr.cs x33.Attrs),.sl (List.map Action.cs x33.Actions),.sl (List.map View.cs x33.Kids)])) rfl rfl ⟨fun h=>h,trivial⟩ rfl) (OkD.q (triQG (x:=aS x33.Key) rfl rfl ⟨fun h=>h,trivial⟩ rfl) (OkD.q (triQG (x:=aB (x32.Key.toList == x33.Key.toList)) rfl rfl ⟨fun h=>h,⟨fun h=>h,trivial⟩⟩ rfl) (OkD.q (triAnd rfl rfl (fun h=>h) rfl) (OkD.nil (by kernel_rfl) ?_))))
 refine Ok.cond (b:=(!(x31.Key.toList == (ByteArray.mk #[]).toList)) && (x32.Key.toList == x33.Key.toList)) rfl (fun h34=>?_) (fun h34=>?_)
 have hr:=selT h34 hr
 refine Ok.seq (Ok.region (OkOps.y (aI (IntKind.i64.wrap (met + 1))) (OkOps.y (aI (IntKind.i64.wrap (met + 1))) (OkOps.y (aI 6) (OkOps.nil (Ok.ret ?_))))))
 obtain rfl:=Option.some.inj hr
 exact ⟨_,rfl,.inl rfl,trivial⟩
 have hr:=selF h34 hr
 refine Ok.skip (Ok.region (OkOps.y (aI s28) (OkOps.y (aI (IntKind.i64.wrap (s28 + 1))) (OkOps.y (aI (IntKind.i64.wrap (s28 + 1))) (OkOps.nil ?_)))))
 exact ⟨IntKind.i64.wrap (s28 + 1),hr,(Conv.mk (tau []) ⟨⟨_,rfl,.inl rfl⟩,⟨_,rfl,.inl rfl⟩,⟨_,rfl,.inl rfl⟩,⟨_,rfl,.inl rfl⟩,⟨_,rfl,.inl rfl⟩,trivial⟩ ⟨rfl,trivial⟩ rfl rfl rfl rfl)⟩
 have hr:=selF h30 hr
 refine Ok.exit ?_
 exact ⟨(),hr,(Conv.mk (tau []) ⟨⟨_,rfl,.inl rfl⟩,⟨_,rfl,.inl rfl⟩,⟨_,rfl,.inl rfl⟩,⟨_,rfl,.inl rfl⟩,trivial⟩ ⟨rfl,trivial⟩ rfl rfl rfl rfl)⟩
 have hr:=selF h23 hr
 refine Ok.exit ?_
 exact ⟨(),hr,(Conv.mk (tau []) ⟨⟨_,rfl,.inl rfl⟩,⟨_,rfl,.inl rfl⟩,⟨_,rfl,.inl rfl⟩,trivial⟩ ⟨rfl,trivial⟩ rfl rfl rfl rfl)⟩
 clear hk10
 refine Ok.seq (Ok.region (OkOps.y (aI 0) (OkOps.nil (Ok.block (Ok.loopK (fun (s35 : Int)=>⟨[(1,.s (aI depth)),(2,.s (aI (IntKind.i64.wrap (met + 1)))),(3,.s (.c (.loc 0 0))),(10,.s (aI s35))],[(0,.blk [cI v.Kind,cS v.Key,.d (.sl (List.map Attr.cs v.Attrs)),.d (.sl (List.map Action.cs v.Actions)),.d (.sl (List.map View.cs v.Kids))] 46)],0⟩) hr (Conv.mk (tau []) ⟨⟨_,rfl,.inl rfl⟩,⟨_,rfl,.inl rfl⟩,⟨_,rfl,.inl rfl⟩,⟨_,rfl,.inl rfl⟩,trivial⟩ ⟨rfl,trivial⟩ rfl rfl rfl rfl) ?_)))))
 clear hr
 intro again36 s35 hr
 unfold r14_validate_L5 at hr
 refine Ok.seq (Ok.seq (Ok.region (OkOps.y (aI s35) (OkOps.y (.c (.loc 0 3)) (OkOps.y (.c (.d (.sl (List.map Action.cs v.Actions)))) (OkOps.q (triLen (enc:=Action.cs) v.Actions rfl rfl trivial rfl) (OkOps.y (aB (decide (s35 < (v.Actions.length : Int)))) (OkOps.nil ?_))))))))
 refine Ok.cond (b:=decide (s35 < (v.Actions.length : Int))) rfl (fun h37=>?_) (fun h37=>?_)
 have hr:=selT h37 hr
 refine Ok.skip ?_
 obtain ⟨k39,hk39,hr⟩:=jn_some hr
 refine Ok.join (fun (s38 : Unit)=>⟨[(1,.s (aI depth)),(2,.s (aI (IntKind.i64.wrap (met + 1)))),(3,.s (.c (.loc 0 0))),(10,.s (aI s35))],[(0,.blk [cI v.Kind,cS v.Key,.d (.sl (List.map Attr.cs v.Attrs)),.d (.sl (List.map Action.cs v.Actions)),.d (.sl (List.map View.cs v.Kids))] 46)],0⟩) k39 r (fun s38 hr=>?_) ?_
 rw [hk39] at hr
 refine Ok.region (OkOps.y (aI s35) (OkOps.y (aI (IntKind.i64.wrap (s35 + 1))) (OkOps.y (aI (IntKind.i64.wrap (s35 + 1))) (OkOps.nil ?_))))
 exact ⟨IntKind.i64.wrap (s35 + 1),hr,(Conv.mk (tau []) ⟨⟨_,rfl,.inl rfl⟩,⟨_,rfl,.inl rfl⟩,⟨_,rfl,.inl rfl⟩,⟨_,rfl,.inl rfl⟩,trivial⟩ ⟨rfl,trivial⟩ rfl rfl rfl rfl)⟩
 clear hk39
 refine Ok.block (Ok.seq (Ok.region (OkOps.y (.c (.loc 0 3)) (OkOps.y (.c (.d (.sl (List.map Action.cs v.Actions)))) (OkOps.y (aI s35) ?_)))))
 obtain ⟨x40,hx40,hr⟩:=bind_some hr
 refine OkOps.q (triIdx (enc:=Action.cs) (L:=v.Actions) (row:=[dS x40.Event,dS x40.Instance,dS x40.Handler,.sl (List.map AValue.cs x40.Args)]) hx40 rfl rfl rfl rfl (fun _=>rfl) trivial rfl) (OkOps.y (.agg [cS x40.Event,cS x40.Instance,cS x40.Handler,.d (.sl (List.map AValue.cs x40.Args))]) (OkOps.m 0 (triAlloc (j:=1) (cs:=[cS ByteArray.empty,cS ByteArray.empty,cS ByteArray.empty,.d (.v (.slice none 0 0))]) rfl rfl rfl rfl) (OkOps.w (triStore (cs':=[cS x40.Event,cS x40.Instance,cS x40.Handler,.d (.sl (List.map AValue.cs x40.Args))]) rfl rfl rfl rfl rfl rfl rfl rfl rfl) (OkOps.nil (Ok.seq (Ok.seq (Ok.region (OkOps.y (.c (.loc 1 0)) (OkOps.y (aS x40.Event) ?_)))))))))
 obtain ⟨x41,hx41,hr⟩:=bind_some hr
 refine OkOps.q (triCl (tau []) (.s (aB x41)) [] (r11_Name_c _ hx41) rfl ⟨.inl rfl,trivial⟩ trivial entry63 trivial) (OkOps.y (aB (!x41)) (OkOps.y (aB (!x41)) (OkOps.q (triQG (x:=.c (.loc 1 2)) rfl rfl trivial rfl) (OkOps.q (triQG (x:=aS x40.Handler) rfl rfl ⟨fun h=>h,trivial⟩ rfl) ?_))))
 obtain ⟨x42,hx42,hr⟩:=bind_some hr
 refine OkOps.q (triCallG (x:=aB x42) (fun hg=>r11_Name_c _ (gO_t hx42 hg)) rfl rfl ⟨.inl rfl,trivial⟩ ⟨fun h=>h,trivial⟩ entry63 rfl rfl rfl) (OkOps.q (triQG (x:=aB (!x42)) rfl rfl ⟨fun h=>h,trivial⟩ rfl) ?_)
 refine OkOps.q (triOr rfl rfl (fun h=>by rw [h];rfl) rfl) ?_
 refine OkOps.nil ?_
 refine Ok.cond (b:=(!x41) || (!x42)) rfl (fun h43=>?_) (fun h43=>?_)
 have hr:=selT h43 hr
 refine Ok.seq (Ok.region (OkOps.y (aI (IntKind.i64.wrap (met + 1))) (OkOps.y (aI (IntKind.i64.wrap (met + 1))) (OkOps.y (aI 4) (OkOps.nil (Ok.ret ?_))))))
 obtain rfl:=Option.some.inj hr
 exact ⟨_,rfl,.inl rfl,trivial⟩
 have hr:=selF h43 hr
 refine Ok.skip (Ok.seq (Ok.seq (Ok.regionD (by kernel_rfl) (OkD.x (aI s35) rfl trivial rfl (OkD.x (aB (decide (s35 > 0))) rfl trivial rfl (OkD.x (aB (decide (s35 > 0))) rfl trivial rfl (OkD.q (triQG (x:=.c (.loc 1 0)) rfl rfl trivial rfl) (OkD.q (triQG (x:=aS x40.Event) rfl rfl ⟨fun h=>h,trivial⟩ rfl) (OkD.q (triQG (x:=.c (.loc 0 3)) rfl rfl trivial rfl) (OkD.q (triQG (x:=.c (.d (.sl (List.map Action.cs v.Actions)))) rfl rfl ⟨fun h=>h,trivial⟩ rfl) (OkD.q (triQG (x:=aI s35) rfl rfl trivial rfl) (OkD.q (triQG (x:=aI (IntKind.i64.wrap (s35 - 1))) rfl rfl ⟨fun h=>h,trivial⟩ rfl) ?_))))))))))))
 obtain ⟨x44,hx44,hr⟩:=bind_some hr
 refine OkD.q (triIdxG (enc:=Action.cs) (L:=v.Actions) (row:=[dS x44.Event,dS x44.Instance,dS x44.Handler,.sl (List.map AValue.cs x44.Args)]) (gO_t hx44) rfl rfl rfl rfl rfl (fun _=>rfl) ⟨fun h=>h,⟨fun h=>h,trivial⟩⟩ rfl) (OkD.q (triQG (x:=.c (.pt [dS x44.Event,dS x44.Instance,dS x44.Handler,.sl (List.map AValue.cs x44.Args)])) rfl rfl ⟨fun h=>h,trivial⟩ rfl) (OkD.q (triQG (x:=aS x44.Event) rfl rfl ⟨fun h=>h,trivial⟩ rfl) (OkD.q (triQG (x:=aB (Op.bytesLess x40.Event.toList x44.Event.toList || x40.Event.toList == x44.Event.toList)) rfl rfl ⟨fun h=>h,⟨fun h=>h,trivial⟩⟩ rfl) (OkD.q (triAnd rfl rfl (fun h=>h) rfl) (OkD.nil (by kernel_rfl) ?_)))))
 refine Ok.cond (b:=(decide (s35 > 0)) && (Op.bytesLess x40.Event.toList x44.Event.toList || x40.Event.toList == x44.Event.toList)) rfl (fun h45=>?_) (fun h45=>?_)
 have hr:=selT h45 hr
 refine Ok.seq (Ok.region (OkOps.y (aI (IntKind.i64.wrap (met + 1))) (OkOps.y (aI (IntKind.i64.wrap (met + 1))) (OkOps.y (aI 10) (OkOps.nil (Ok.ret ?_))))))
 obtain rfl:=Option.some.inj hr
 exact ⟨_,rfl,.inl rfl,trivial⟩
 have hr:=selF h45 hr
 refine Ok.skip (Ok.seq (Ok.seq (Ok.region (OkOps.y (.c (.loc 1 1)) (OkOps.y (aS x40.Instance) (OkOps.y (aI (x40.Instance.size : Int)) (OkOps.y (aB (decide ((x40.Instance.size : Int) > 400))) (OkOps.y (aB (decide ((x40.Instance.size : Int) > 400))) (OkOps.q (triQG (x:=.c (.loc 1 3)) rfl rfl trivial rfl) (OkOps.q (triQG (x:=.c (.d (.sl (List.map AValue.cs x40.Args)))) rfl rfl ⟨fun h=>h,trivial⟩ rfl) (OkOps.q (triLenG (enc:=AValue.cs) x40.Args rfl rfl rfl ⟨fun h=>h,trivial⟩ rfl) (OkOps.q (triQG (x:=aB (decide ((x40.Args.length : Int) > 100))) rfl rfl ⟨fun h=>h,trivial⟩ rfl) ?_))))))))))))
 refine OkOps.q (triOr rfl rfl (fun h=>by rw [h];rfl) rfl) ?_
 refine OkOps.nil ?_
 refine Ok.cond (b:=(decide ((x40.Instance.size : Int) > 400)) || (decide ((x40.Args.length : Int) > 100))) rfl (fun h46=>?_) (fun h46=>?_)
 have hr:=selT h46 hr
 refine Ok.seq (Ok.region (OkOps.y (aI (IntKind.i64.wrap (met + 1))) (OkOps.y (aI (IntKind.i64.wrap (met + 1))) (OkOps.y (aI 2) (OkOps.nil (Ok.ret ?_))))))
 obtain rfl:=Option.some.inj hr
 exact ⟨_,rfl,.inl rfl,trivial⟩
 have hr:=selF h46 hr
 refine Ok.skip (Ok.seq (Ok.region (OkOps.y (aI 0) (OkOps.nil ?_))))
 obtain ⟨k48,hk48,hr⟩:=jn_some hr
 refine Ok.joinEnd (fun (s47 : Unit)=>⟨[(1,.s (aI depth)),(2,.s (aI (IntKind.i64.wrap (met + 1)))),(3,.s (.c (.loc 0 0))),(10,.s (aI s35))],[(0,.blk [cI v.Kind,cS v.Key,.d (.sl (List.map Attr.cs v.Attrs)),.d (.sl (List.map Action.cs v.Actions)),.d (.sl (List.map View.cs v.Kids))] 46)],0⟩) k48 r (fun s47 hr=>?_) ?_
 rw [hk48] at hr
 exact ⟨(),hr,(Conv.mk (tau []) ⟨⟨_,rfl,.inl rfl⟩,⟨_,rfl,.inl rfl⟩,⟨_,rfl,.inl rfl⟩,⟨_,rfl,.inl rfl⟩,trivial⟩ ⟨rfl,trivial⟩ rfl rfl rfl rfl)⟩
 clear hk48
 refine Ok.block (Ok.loopK (fun (s49 : Int)=>⟨[(1,.s (aI depth)),(2,.s (aI (IntKind.i64.wrap (met + 1)))),(3,.s (.c (.loc 0 0))),(10,.s (aI s35)),(11,.s (.c (.loc 1 0))),(12,.s (aI s49))],[(0,.blk [cI v.Kind,cS v.Key,.d (.sl (List.map Attr.cs v.Attrs)),.d (.sl (List.map Action.cs v.Actions)),.d (.sl (List.map View.cs v.Kids))] 46),(1,.blk [cS x40.Event,cS x40.Instance,cS x40.Handler,.d (.sl (List.map AValue.cs x40.Args))] 88)],0⟩) hr (Conv.mk (tau []) ⟨⟨_,rfl,.inl rfl⟩,⟨_,rfl,.inl rfl⟩,⟨_,rfl,.inl rfl⟩,⟨_,rfl,.inl rfl⟩,⟨_,rfl,.inl rfl⟩,⟨_,rfl,.inl rfl⟩,trivial⟩ ⟨rfl,rfl,trivial⟩ rfl rfl rfl rfl) ?_)
 clear hr
 intro again50 s49 hr
 unfold r14_validate_L4 at hr
 refine Ok.seq (Ok.seq (Ok.region (OkOps.y (aI s49) (OkOps.y (.c (.loc 1 3)) (OkOps.y (.c (.d (.sl (List.map AValue.cs x40.Args)))) (OkOps.q (triLen (enc:=AValue.cs) x40.Args rfl rfl trivial rfl) (OkOps.y (aB (decide (s49 < (x40.Args.length : Int)))) (OkOps.nil ?_))))))))
 refine Ok.cond (b:=decide (s49 < (x40.Args.length : Int))) rfl (fun h51=>?_) (fun h51=>?_)
 have hr:=selT h51 hr
 refine Ok.skip (Ok.seq (Ok.block (Ok.seq (Ok.region (OkOps.y (.c (.loc 1 3)) (OkOps.y (.c (.d (.sl (List.map AValue.cs x40.Args)))) (OkOps.y (aI s49) ?_)))))))
 obtain ⟨x52,hx52,hr⟩:=bind_some hr
 refine OkOps.q (triIdx (enc:=AValue.cs) (L:=x40.Args) (row:=[dI x52.Kind,dI x52.N,dS x52.S,.sl (List.map AValue.cs x52.L)]) hx52 (AValue.cs_eq _) rfl rfl rfl (fun x=>by rw [AValue.cs_eq];rfl) trivial rfl) ?_
 refine OkOps.y (.agg [cI x52.Kind,cI x52.N,cS x52.S,.d (.sl (List.map AValue.cs x52.L))]) ?_
 obtain ⟨x53,hx53,hr⟩:=bind_some hr
 refine OkOps.q (triCl (tau []) (.s (aI x53)) [] (r11_Check_c _ hx53) rfl ⟨.inl rfl,trivial⟩ trivial entry64 trivial) (OkOps.y (aI x53) (OkOps.nil (Ok.seq (Ok.region (OkOps.y (aI x53) (OkOps.y (aB (x53 != 0)) (OkOps.nil ?_)))))))
 refine Ok.cond (b:=x53 != 0) rfl (fun h54=>?_) (fun h54=>?_)
 have hr:=selT h54 hr
 refine Ok.seq (Ok.region (OkOps.y (aI (IntKind.i64.wrap (met + 1))) (OkOps.y (aI x53) (OkOps.y (aI (IntKind.i64.wrap (met + 1))) (OkOps.y (aI x53) (OkOps.nil (Ok.ret ?_)))))))
 obtain rfl:=Option.some.inj hr
 exact ⟨_,rfl,.inl rfl,trivial⟩
 have hr:=selF h54 hr
 refine Ok.skip (Ok.region (OkOps.y (aI s49) (OkOps.y (aI (IntKind.i64.wrap (s49 + 1))) (OkOps.y (aI (IntKind.i64.wrap (s49 + 1))) (OkOps.nil ?_)))))
 exact ⟨IntKind.i64.wrap (s49 + 1),hr,(Conv.mk (tau []) ⟨⟨_,rfl,.inl rfl⟩,⟨_,rfl,.inl rfl⟩,⟨_,rfl,.inl rfl⟩,⟨_,rfl,.inl rfl⟩,⟨_,rfl,.inl rfl⟩,⟨_,rfl,.inl rfl⟩,trivial⟩ ⟨rfl,rfl,trivial⟩ rfl rfl rfl rfl)⟩
 have hr:=selF h51 hr
 refine Ok.exit ?_
 exact ⟨(),hr,(Conv.mk (tau []) ⟨⟨_,rfl,.inl rfl⟩,⟨_,rfl,.inl rfl⟩,⟨_,rfl,.inl rfl⟩,⟨_,rfl,.inl rfl⟩,trivial⟩ ⟨rfl,trivial⟩ rfl rfl rfl rfl)⟩
 have hr:=selF h37 hr
 refine Ok.exit ?_
 exact ⟨(),hr,(Conv.mk (tau []) ⟨⟨_,rfl,.inl rfl⟩,⟨_,rfl,.inl rfl⟩,⟨_,rfl,.inl rfl⟩,trivial⟩ ⟨rfl,trivial⟩ rfl rfl rfl rfl)⟩
 clear hk8
 refine Ok.seq (Ok.region (OkOps.y (aI 0) (OkOps.nil (Ok.block (Ok.loopK (fun (s55 : Int)=>⟨[(1,.s (aI depth)),(2,.s (aI (IntKind.i64.wrap (met + 1)))),(3,.s (.c (.loc 0 0))),(8,.s (aI s55))],[(0,.blk [cI v.Kind,cS v.Key,.d (.sl (List.map Attr.cs v.Attrs)),.d (.sl (List.map Action.cs v.Actions)),.d (.sl (List.map View.cs v.Kids))] 46)],0⟩) hr (Conv.mk (tau []) ⟨⟨_,rfl,.inl rfl⟩,⟨_,rfl,.inl rfl⟩,⟨_,rfl,.inl rfl⟩,⟨_,rfl,.inl rfl⟩,trivial⟩ ⟨rfl,trivial⟩ rfl rfl rfl rfl) ?_)))))
 clear hr
 intro again56 s55 hr
 unfold r14_validate_L6 at hr
 refine Ok.seq (Ok.seq (Ok.region (OkOps.y (aI s55) (OkOps.y (.c (.loc 0 2)) (OkOps.y (.c (.d (.sl (List.map Attr.cs v.Attrs)))) (OkOps.q (triLen (enc:=Attr.cs) v.Attrs rfl rfl trivial rfl) (OkOps.y (aB (decide (s55 < (v.Attrs.length : Int)))) (OkOps.nil ?_))))))))
 refine Ok.cond (b:=decide (s55 < (v.Attrs.length : Int))) rfl (fun h57=>?_) (fun h57=>?_)
 have hr:=selT h57 hr
 refine Ok.skip (Ok.seq (Ok.block (Ok.seq (Ok.seq (Ok.region (OkOps.y (.c (.loc 0 2)) (OkOps.y (.c (.d (.sl (List.map Attr.cs v.Attrs)))) (OkOps.y (aI s55) ?_))))))))
 obtain ⟨x58,hx58,hr⟩:=bind_some hr
 refine OkOps.q (triIdx (enc:=Attr.cs) (L:=v.Attrs) (row:=[dS x58.Name,dI x58.Value.Kind,dI x58.Value.N,dS x58.Value.S,.sl (List.map AValue.cs x58.Value.L)]) hx58 rfl rfl rfl rfl (fun _=>rfl) trivial rfl) (OkOps.y (.c (.pt [dS x58.Name,dI x58.Value.Kind,dI x58.Value.N,dS x58.Value.S,.sl (List.map AValue.cs x58.Value.L)])) (OkOps.y (aS x58.Name) ?_))
 obtain ⟨x59,hx59,hr⟩:=bind_some hr
 refine OkOps.q (triCl (tau []) (.s (aB x59)) [] (r11_Name_c _ hx59) rfl ⟨.inl rfl,trivial⟩ trivial entry63 trivial) (OkOps.y (aB (!x59)) (OkOps.nil ?_))
 refine Ok.cond (b:=!x59) rfl (fun h60=>?_) (fun h60=>?_)
 have hr:=selT h60 hr
 refine Ok.seq (Ok.region (OkOps.y (aI (IntKind.i64.wrap (met + 1))) (OkOps.y (aI (IntKind.i64.wrap (met + 1))) (OkOps.y (aI 4) (OkOps.nil (Ok.ret ?_))))))
 obtain rfl:=Option.some.inj hr
 exact ⟨_,rfl,.inl rfl,trivial⟩
 have hr:=selF h60 hr
 refine Ok.skip (Ok.seq (Ok.seq (Ok.regionD (by kernel_rfl) (OkD.x (aI s55) rfl trivial rfl (OkD.x (aB (decide (s55 > 0))) rfl trivial rfl (OkD.x (aB (decide (s55 > 0))) rfl trivial rfl (OkD.q (triQG (x:=.c (.loc 0 2)) rfl rfl trivial rfl) (OkD.q (triQG (x:=.c (.d (.sl (List.map Attr.cs v.Attrs)))) rfl rfl ⟨fun h=>h,trivial⟩ rfl) (OkD.q (triQG (x:=aI s55) rfl rfl trivial rfl) ?_)))))))))
 obtain ⟨x61,hx61,hr⟩:=bind_some hr
 refine OkD.q (triIdxG (enc:=Attr.cs) (L:=v.Attrs) (row:=[dS x61.Name,dI x61.Value.Kind,dI x61.Value.N,dS x61.Value.S,.sl (List.map AValue.cs x61.Value.L)]) (gO_t hx61) rfl rfl rfl rfl rfl (fun _=>rfl) ⟨fun h=>h,⟨fun h=>h,trivial⟩⟩ rfl) (OkD.q (triQG (x:=.c (.pt [dS x61.Name,dI x61.Value.Kind,dI x61.Value.N,dS x61.Value.S,.sl (List.map AValue.cs x61.Value.L)])) rfl rfl ⟨fun h=>h,trivial⟩ rfl) (OkD.q (triQG (x:=aS x61.Name) rfl rfl ⟨fun h=>h,trivial⟩ rfl) (OkD.q (triQG (x:=.c (.loc 0 2)) rfl rfl trivial rfl) (OkD.q (triQG (x:=.c (.d (.sl (List.map Attr.cs v.Attrs)))) rfl rfl ⟨fun h=>h,trivial⟩ rfl) (OkD.q (triQG (x:=aI s55) rfl rfl trivial rfl) (OkD.q (triQG (x:=aI (IntKind.i64.wrap (s55 - 1))) rfl rfl ⟨fun h=>h,trivial⟩ rfl) ?_))))))
 obtain ⟨x62,hx62,hr⟩:=bind_some hr
 refine OkD.q (triIdxG (enc:=Attr.cs) (L:=v.Attrs) (row:=[dS x62.Name,dI x62.Value.Kind,dI x62.Value.N,dS x62.Value.S,.sl (List.map AValue.cs x62.Value.L)]) (gO_t hx62) rfl rfl rfl rfl rfl (fun _=>rfl) ⟨fun h=>h,⟨fun h=>h,trivial⟩⟩ rfl) (OkD.q (triQG (x:=.c (.pt [dS x62.Name,dI x62.Value.Kind,dI x62.Value.N,dS x62.Value.S,.sl (List.map AValue.cs x62.Value.L)])) rfl rfl ⟨fun h=>h,trivial⟩ rfl) (OkD.q (triQG (x:=aS x62.Name) rfl rfl ⟨fun h=>h,trivial⟩ rfl) (OkD.q (triQG (x:=aB (Op.bytesLess x61.Name.toList x62.Name.toList || x61.Name.toList == x62.Name.toList)) rfl rfl ⟨fun h=>h,⟨fun h=>h,trivial⟩⟩ rfl) (OkD.q (triAnd rfl rfl (fun h=>h) rfl) (OkD.nil (by kernel_rfl) ?_)))))
 refine Ok.cond (b:=(decide (s55 > 0)) && (Op.bytesLess x61.Name.toList x62.Name.toList || x61.Name.toList == x62.Name.toList)) rfl (fun h63=>?_) (fun h63=>?_)
 have hr:=selT h63 hr
 refine Ok.seq (Ok.region (OkOps.y (aI (IntKind.i64.wrap (met + 1))) (OkOps.y (aI (IntKind.i64.wrap (met + 1))) (OkOps.y (aI 10) (OkOps.nil (Ok.ret ?_))))))
 obtain rfl:=Option.some.inj hr
 exact ⟨_,rfl,.inl rfl,trivial⟩
 have hr:=selF h63 hr
 refine Ok.skip (Ok.seq (Ok.region (OkOps.y (.c (.loc 0 2)) (OkOps.y (.c (.d (.sl (List.map Attr.cs v.Attrs)))) (OkOps.y (aI s55) ?_)))))
 obtain ⟨x64,hx64,hr⟩:=bind_some hr
 refine OkOps.q (triIdx (enc:=Attr.cs) (L:=v.Attrs) (row:=[dS x64.Name,dI x64.Value.Kind,dI x64.Value.N,dS x64.Value.S,.sl (List.map AValue.cs x64.Value.L)]) hx64 rfl rfl rfl rfl (fun _=>rfl) trivial rfl) (OkOps.y (.c (.pt [dI x64.Value.Kind,dI x64.Value.N,dS x64.Value.S,.sl (List.map AValue.cs x64.Value.L)])) (OkOps.y (.agg [cI x64.Value.Kind,cI x64.Value.N,cS x64.Value.S,.d (.sl (List.map AValue.cs x64.Value.L))]) ?_))
 obtain ⟨x65,hx65,hr⟩:=bind_some hr
 refine OkOps.q (triCl (tau []) (.s (aI x65)) [] (r11_Check_c _ hx65) rfl ⟨.inl rfl,trivial⟩ trivial entry64 trivial) (OkOps.y (aI x65) (OkOps.nil (Ok.seq (Ok.region (OkOps.y (aI x65) (OkOps.y (aB (x65 != 0)) (OkOps.nil ?_)))))))
 refine Ok.cond (b:=x65 != 0) rfl (fun h66=>?_) (fun h66=>?_)
 have hr:=selT h66 hr
 refine Ok.seq (Ok.region (OkOps.y (aI (IntKind.i64.wrap (met + 1))) (OkOps.y (aI x65) (OkOps.y (aI (IntKind.i64.wrap (met + 1))) (OkOps.y (aI x65) (OkOps.nil (Ok.ret ?_)))))))
 obtain rfl:=Option.some.inj hr
 exact ⟨_,rfl,.inl rfl,trivial⟩
 have hr:=selF h66 hr
 refine Ok.skip (Ok.region (OkOps.y (aI s55) (OkOps.y (aI (IntKind.i64.wrap (s55 + 1))) (OkOps.y (aI (IntKind.i64.wrap (s55 + 1))) (OkOps.nil ?_)))))
 exact ⟨IntKind.i64.wrap (s55 + 1),hr,(Conv.mk (tau []) ⟨⟨_,rfl,.inl rfl⟩,⟨_,rfl,.inl rfl⟩,⟨_,rfl,.inl rfl⟩,⟨_,rfl,.inl rfl⟩,trivial⟩ ⟨rfl,trivial⟩ rfl rfl rfl rfl)⟩
 have hr:=selF h57 hr
 refine Ok.exit ?_
 exact ⟨(),hr,(Conv.mk (tau []) ⟨⟨_,rfl,.inl rfl⟩,⟨_,rfl,.inl rfl⟩,⟨_,rfl,.inl rfl⟩,trivial⟩ ⟨rfl,trivial⟩ rfl rfl rfl rfl)⟩
theorem r14_validate_all : ∀ n : Nat,(∀ (v : View) (depth : Int) (met : Int) {r : Int × Int},r14_validate n v depth met = some r → Con Tryz.prog 50 [.agg [cI v.Kind,cS v.Key,.d (.sl (List.map Attr.cs v.Attrs)),.d (.sl (List.map Action.cs v.Actions)),.d (.sl (List.map View.cs v.Kids))],aI depth,aI met] [] (.tup [aI r.1,aI r.2]) []) ∧ True:=by
 intro n
 induction n with
 | zero=>exact ⟨(by intros;rename_i hr;cases hr),trivial⟩
 | succ n ih=>exact ⟨(by intros;rename_i hr;exact r14_validate_B_c _ ih.1 _ _ _ hr),trivial⟩
theorem r14_validate_c (n : Nat) (v : View) (depth : Int) (met : Int) {r : Int × Int} (hr : r14_validate n v depth met = some r) : Con Tryz.prog 50 [.agg [cI v.Kind,cS v.Key,.d (.sl (List.map Attr.cs v.Attrs)),.d (.sl (List.map Action.cs v.Actions)),.d (.sl (List.map View.cs v.Kids))],aI depth,aI met] [] (.tup [aI r.1,aI r.2]) []:=(r14_validate_all n).1 v depth met hr
theorem r14_Validate_c (v : View) {r : Int} (hr : r14_Validate v = some r) : Con Tryz.prog 29 [.agg [cI v.Kind,cS v.Key,.d (.sl (List.map Attr.cs v.Attrs)),.d (.sl (List.map Action.cs v.Actions)),.d (.sl (List.map View.cs v.Kids))]] [] (.s (aI r)) []:=by
 unfold r14_Validate at hr
 refine Con.of_ok 11 0 [.tmp 2] [(0,.s (.agg [cI v.Kind,cS v.Key,.d (.sl (List.map Attr.cs v.Attrs)),.d (.sl (List.map Action.cs v.Actions)),.d (.sl (List.map View.cs v.Kids))]))] Tryz.func29 rfl rfl rfl rfl rfl rfl rfl rfl fun w g M ρ _=>(Ok.seq (Ok.region (OkOps.m 0 (triBox (j:=0) (cs:=[cI v.Kind,cS v.Key,.d (.sl (List.map Attr.cs v.Attrs)),.d (.sl (List.map Action.cs v.Actions)),.d (.sl (List.map View.cs v.Kids))]) rfl rfl rfl rfl rfl) (OkOps.y (aI 0) (OkOps.nil (Ok.seq (Ok.region (OkOps.y (.agg [cI v.Kind,cS v.Key,.d (.sl (List.map Attr.cs v.Attrs)),.d (.sl (List.map Action.cs v.Actions)),.d (.sl (List.map View.cs v.Kids))]) ?_))))))))
 obtain ⟨x1,hx1,hr⟩:=bind_some hr
 refine OkOps.q (triCl (tau []) (.tup [aI x1.1,aI x1.2]) [] (r14_validate_c _ _ _ _ hx1) rfl ⟨.inl rfl,.inl rfl,.inl rfl,trivial⟩ trivial entry50 trivial) (OkOps.q (triMv (v:=.tup [aI x1.1,aI x1.2]) rfl rfl) (OkOps.y (aI x1.1) (OkOps.y (aI x1.2) (OkOps.y (aI x1.1) (OkOps.y (aI x1.2) (OkOps.nil (Ok.seq (Ok.region (OkOps.y (aI x1.2) (OkOps.y (aI x1.2) (OkOps.nil (Ok.ret ?_))))))))))))
 obtain rfl:=Option.some.inj hr
 exact ⟨_,rfl,.inl rfl,trivial⟩
theorem entry29 : Entry Tryz.prog 29:=⟨_,Tryz.func29,by kernel_rfl,by kernel_rfl⟩
theorem r14_SameAttrs_c (a : (List Attr)) (b : (List Attr)) {r : Bool} (hr : r14_SameAttrs a b = some r) : Con Tryz.prog 38 [.c (.d (.sl (List.map Attr.cs a))),.c (.d (.sl (List.map Attr.cs b)))] [] (.s (aB r)) []:=by
 unfold r14_SameAttrs at hr
 refine Con.of_ok 42 0 [.tmp 4] [(0,.s (.c (.d (.sl (List.map Attr.cs a))))),(1,.s (.c (.d (.sl (List.map Attr.cs b)))))] Tryz.func38 rfl rfl rfl rfl rfl rfl rfl rfl fun w g M ρ _=>(Ok.seq (Ok.region (OkOps.y (aB false) (OkOps.nil (Ok.seq (Ok.seq (Ok.region (OkOps.y (.c (.d (.sl (List.map Attr.cs a)))) (OkOps.q (triLen (enc:=Attr.cs) a rfl rfl trivial rfl) (OkOps.y (.c (.d (.sl (List.map Attr.cs b)))) (OkOps.q (triLen (enc:=Attr.cs) b rfl rfl trivial rfl) (OkOps.y (aB ((a.length : Int) != (b.length : Int))) (OkOps.nil ?_)))))))))))))
 refine Ok.cond (b:=(a.length : Int) != (b.length : Int)) rfl (fun h1=>?_) (fun h1=>?_)
 have hr:=selT h1 hr
 refine Ok.seq (Ok.region (OkOps.y (aB false) (OkOps.nil (Ok.ret ?_))))
 obtain rfl:=Option.some.inj hr
 exact ⟨_,rfl,.inl rfl,trivial⟩
 have hr:=selF h1 hr
 refine Ok.skip ?_
 obtain ⟨k3,hk3,hr⟩:=jn_some hr
 refine Ok.join (fun (s2 : Unit)=>⟨[],[],0⟩) k3 r (fun s2 hr=>?_) ?_
 rw [hk3] at hr
 refine Ok.seq (Ok.region (OkOps.y (aB true) (OkOps.nil (Ok.ret ?_))))
 obtain rfl:=Option.some.inj hr
 exact ⟨_,rfl,.inl rfl,trivial⟩
 clear hk3
 refine Ok.seq (Ok.region (OkOps.y (aI 0) (OkOps.nil (Ok.block (Ok.loopK (fun (s4 : Int)=>⟨[(0,.s (.c (.d (.sl (List.map Attr.cs a))))),(1,.s (.c (.d (.sl (List.map Attr.cs b))))),(5,.s (aI s4))],[],0⟩) hr (Conv.mk (tau []) ⟨⟨_,rfl,.inl rfl⟩,⟨_,rfl,.inl rfl⟩,⟨_,rfl,.inl rfl⟩,trivial⟩ trivial rfl rfl rfl rfl) ?_)))))
 clear hr
 intro again5 s4 hr
 unfold r14_SameAttrs_L1 at hr
 refine Ok.seq (Ok.seq (Ok.region (OkOps.y (aI s4) (OkOps.y (.c (.d (.sl (List.map Attr.cs a)))) (OkOps.q (triLen (enc:=Attr.cs) a rfl rfl trivial rfl) (OkOps.y (aB (decide (s4 < (a.length : Int)))) (OkOps.nil ?_)))))))
 refine Ok.cond (b:=decide (s4 < (a.length : Int))) rfl (fun h6=>?_) (fun h6=>?_)
 have hr:=selT h6 hr
 refine Ok.skip (Ok.seq (Ok.block (Ok.seq (Ok.regionD (by kernel_rfl) (OkD.x (.c (.d (.sl (List.map Attr.cs a)))) rfl trivial rfl (OkD.x (aI s4) rfl trivial rfl ?_))))))
 obtain ⟨x7,hx7,hr⟩:=bind_some hr
 refine OkD.q (triIdx (enc:=Attr.cs) (L:=a) (row:=[dS x7.Name,dI x7.Value.Kind,dI x7.Value.N,dS x7.Value.S,.sl (List.map AValue.cs x7.Value.L)]) hx7 rfl rfl rfl rfl (fun _=>rfl) trivial rfl) (OkD.x (.c (.pt [dS x7.Name,dI x7.Value.Kind,dI x7.Value.N,dS x7.Value.S,.sl (List.map AValue.cs x7.Value.L)])) rfl trivial rfl (OkD.x (aS x7.Name) rfl trivial rfl (OkD.x (.c (.d (.sl (List.map Attr.cs b)))) rfl trivial rfl (OkD.x (aI s4) rfl trivial rfl ?_))))
 obtain ⟨x8,hx8,hr⟩:=bind_some hr
 refine OkD.q (triIdx (enc:=Attr.cs) (L:=b) (row:=[dS x8.Name,dI x8.Value.Kind,dI x8.Value.N,dS x8.Value.S,.sl (List.map AValue.cs x8.Value.L)]) hx8 rfl rfl rfl rfl (fun _=>rfl) trivial rfl) (OkD.x (.c (.pt [dS x8.Name,dI x8.Value.Kind,dI x8.Value.N,dS x8.Value.S,.sl (List.map AValue.cs x8.Value.L)])) rfl trivial rfl (OkD.x (aS x8.Name) rfl trivial rfl (OkD.x (aB (!(x7.Name.toList == x8.Name.toList))) rfl trivial rfl (OkD.x (aB (!(x7.Name.toList == x8.Name.toList))) rfl trivial rfl (OkD.q (triQG (x:=.c (.d (.sl (List.map Attr.cs a)))) rfl rfl trivial rfl) (OkD.q (triQG (x:=aI s4) rfl rfl trivial rfl) ?_))))))
 obtain ⟨x9,hx9,hr⟩:=bind_some hr
 refine OkD.q (triIdxG (enc:=Attr.cs) (L:=a) (row:=[dS x9.Name,dI x9.Value.Kind,dI x9.Value.N,dS x9.Value.S,.sl (List.map AValue.cs x9.Value.L)]) (gO_t hx9) rfl rfl rfl rfl rfl (fun _=>rfl) ⟨fun h=>h,⟨fun h=>h,trivial⟩⟩ rfl) (OkD.q (triQG (x:=.c (.pt [dI x9.Value.Kind,dI x9.Value.N,dS x9.Value.S,.sl (List.map AValue.cs x9.Value.L)])) rfl rfl ⟨fun h=>h,trivial⟩ rfl) (OkD.q (triQG (x:=.agg [cI x9.Value.Kind,cI x9.Value.N,cS x9.Value.S,.d (.sl (List.map AValue.cs x9.Value.L))]) rfl rfl ⟨fun h=>h,trivial⟩ rfl) (OkD.q (triQG (x:=.c (.d (.sl (List.map Attr.cs b)))) rfl rfl trivial rfl) (OkD.q (triQG (x:=aI s4) rfl rfl trivial rfl) ?_))))
 obtain ⟨x10,hx10,hr⟩:=bind_some hr
 refine OkD.q (triIdxG (enc:=Attr.cs) (L:=b) (row:=[dS x10.Name,dI x10.Value.Kind,dI x10.Value.N,dS x10.Value.S,.sl (List.map AValue.cs x10.Value.L)]) (gO_t hx10) rfl rfl rfl rfl rfl (fun _=>rfl) ⟨fun h=>h,⟨fun h=>h,trivial⟩⟩ rfl) (OkD.q (triQG (x:=.c (.pt [dI x10.Value.Kind,dI x10.Value.N,dS x10.Value.S,.sl (List.map AValue.cs x10.Value.L)])) rfl rfl ⟨fun h=>h,trivial⟩ rfl) (OkD.q (triQG (x:=.agg [cI x10.Value.Kind,cI x10.Value.N,cS x10.Value.S,.d (.sl (List.map AValue.cs x10.Value.L))]) rfl rfl ⟨fun h=>h,trivial⟩ rfl) ?_))
 obtain ⟨x11,hx11,hr⟩:=bind_some hr
 refine OkD.q (triCallG (x:=aB x11) (fun hg=>r11_Same_c _ _ _ (gO_t hx11 hg)) rfl rfl ⟨.inl rfl,.inl rfl,trivial⟩ ⟨fun h=>h,⟨fun h=>h,trivial⟩⟩ entry57 rfl rfl rfl) (OkD.q (triQG (x:=aB (!x11)) rfl rfl ⟨fun h=>h,trivial⟩ rfl) ?_)
 refine OkD.q (triOr rfl rfl (fun h=>by rw [h];rfl) rfl) ?_
 refine OkD.nil (by kernel_rfl) ?_
 refine Ok.cond (b:=(!(x7.Name.toList == x8.Name.toList)) || (!x11)) rfl (fun h12=>?_) (fun h12=>?_)
 have hr:=selT h12 hr
 refine Ok.seq (Ok.region (OkOps.y (aB false) (OkOps.nil (Ok.ret ?_))))
 obtain rfl:=Option.some.inj hr
 exact ⟨_,rfl,.inl rfl,trivial⟩
 have hr:=selF h12 hr
 refine Ok.skip (Ok.region (OkOps.y (aI s4) (OkOps.y (aI (IntKind.i64.wrap (s4 + 1))) (OkOps.y (aI (IntKind.i64.wrap (s4 + 1))) (OkOps.nil ?_)))))
 exact ⟨IntKind.i64.wrap (s4 + 1),hr,(Conv.mk (tau []) ⟨⟨_,rfl,.inl rfl⟩,⟨_,rfl,.inl rfl⟩,⟨_,rfl,.inl rfl⟩,trivial⟩ trivial rfl rfl rfl rfl)⟩
 have hr:=selF h6 hr
 refine Ok.exit ?_
 exact ⟨(),hr,(Conv.mk (tau []) trivial trivial rfl rfl rfl rfl)⟩
theorem entry38 : Entry Tryz.prog 38:=⟨_,Tryz.func38,by kernel_rfl,by kernel_rfl⟩
theorem r14_SameActions_c (a : (List Action)) (b : (List Action)) {r : Bool} (hr : r14_SameActions a b = some r) : Con Tryz.prog 39 [.c (.d (.sl (List.map Action.cs a))),.c (.d (.sl (List.map Action.cs b)))] [] (.s (aB r)) []:=by
 unfold r14_SameActions at hr
 refine Con.of_ok 68 0 [.tmp 4] [(0,.s (.c (.d (.sl (List.map Action.cs a))))),(1,.s (.c (.d (.sl (List.map Action.cs b)))))] Tryz.func39 rfl rfl rfl rfl rfl rfl rfl rfl fun w g M ρ _=>(Ok.seq (Ok.region (OkOps.y (aB false) (OkOps.nil (Ok.seq (Ok.seq (Ok.region (OkOps.y (.c (.d (.sl (List.map Action.cs a)))) (OkOps.q (triLen (enc:=Action.cs) a rfl rfl trivial rfl) (OkOps.y (.c (.d (.sl (List.map Action.cs b)))) (OkOps.q (triLen (enc:=Action.cs) b rfl rfl trivial rfl) (OkOps.y (aB ((a.length : Int) != (b.length : Int))) (OkOps.nil ?_)))))))))))))
 refine Ok.cond (b:=(a.length : Int) != (b.length : Int)) rfl (fun h1=>?_) (fun h1=>?_)
 have hr:=selT h1 hr
 refine Ok.seq (Ok.region (OkOps.y (aB false) (OkOps.nil (Ok.ret ?_))))
 obtain rfl:=Option.some.inj hr
 exact ⟨_,rfl,.inl rfl,trivial⟩
 have hr:=selF h1 hr
 refine Ok.skip ?_
 obtain ⟨k3,hk3,hr⟩:=jn_some hr
 refine Ok.join (fun (s2 : Unit)=>⟨[],[],0⟩) k3 r (fun s2 hr=>?_) ?_
 rw [hk3] at hr
 refine Ok.seq (Ok.region (OkOps.y (aB true) (OkOps.nil (Ok.ret ?_))))
 obtain rfl:=Option.some.inj hr
 exact ⟨_,rfl,.inl rfl,trivial⟩
 clear hk3
 refine Ok.seq (Ok.region (OkOps.y (aI 0) (OkOps.nil (Ok.block (Ok.loopK (fun (s4 : Int)=>⟨[(0,.s (.c (.d (.sl (List.map Action.cs a))))),(1,.s (.c (.d (.sl (List.map Action.cs b))))),(5,.s (aI s4))],[],0⟩) hr (Conv.mk (tau []) ⟨⟨_,rfl,.inl rfl⟩,⟨_,rfl,.inl rfl⟩,⟨_,rfl,.inl rfl⟩,trivial⟩ trivial rfl rfl rfl rfl) ?_)))))
 clear hr
 intro again5 s4 hr
 unfold r14_SameActions_L1 at hr
 refine Ok.seq (Ok.seq (Ok.region (OkOps.y (aI s4) (OkOps.y (.c (.d (.sl (List.map Action.cs a)))) (OkOps.q (triLen (enc:=Action.cs) a rfl rfl trivial rfl) (OkOps.y (aB (decide (s4 < (a.length : Int)))) (OkOps.nil ?_)))))))
 refine Ok.cond (b:=decide (s4 < (a.length : Int))) rfl (fun h6=>?_) (fun h6=>?_)
 have hr:=selT h6 hr
 refine Ok.skip (Ok.seq (Ok.block (Ok.seq (Ok.regionD (by kernel_rfl) (OkD.x (.c (.d (.sl (List.map Action.cs a)))) rfl trivial rfl (OkD.x (aI s4) rfl trivial rfl ?_))))))
 obtain ⟨x7,hx7,hr⟩:=bind_some hr
 refine OkD.q (triIdx (enc:=Action.cs) (L:=a) (row:=[dS x7.Event,dS x7.Instance,dS x7.Handler,.sl (List.map AValue.cs x7.Args)]) hx7 rfl rfl rfl rfl (fun _=>rfl) trivial rfl) (OkD.x (.c (.pt [dS x7.Event,dS x7.Instance,dS x7.Handler,.sl (List.map AValue.cs x7.Args)])) rfl trivial rfl (OkD.x (aS x7.Event) rfl trivial rfl (OkD.x (.c (.d (.sl (List.map Action.cs b)))) rfl trivial rfl (OkD.x (aI s4) rfl trivial rfl ?_))))
 obtain ⟨x8,hx8,hr⟩:=bind_some hr
 refine OkD.q (triIdx (enc:=Action.cs) (L:=b) (row:=[dS x8.Event,dS x8.Instance,dS x8.Handler,.sl (List.map AValue.cs x8.Args)]) hx8 rfl rfl rfl rfl (fun _=>rfl) trivial rfl) (OkD.x (.c (.pt [dS x8.Event,dS x8.Instance,dS x8.Handler,.sl (List.map AValue.cs x8.Args)])) rfl trivial rfl (OkD.x (aS x8.Event) rfl trivial rfl (OkD.x (aB (!(x7.Event.toList == x8.Event.toList))) rfl trivial rfl (OkD.x (aB (!(x7.Event.toList == x8.Event.toList))) rfl trivial rfl (OkD.q (triQG (x:=.c (.d (.sl (List.map Action.cs a)))) rfl rfl trivial rfl) (OkD.q (triQG (x:=aI s4) rfl rfl trivial rfl) ?_))))))
 obtain ⟨x9,hx9,hr⟩:=bind_some hr
 refine OkD.q (triIdxG (enc:=Action.cs) (L:=a) (row:=[dS x9.Event,dS x9.Instance,dS x9.Handler,.sl (List.map AValue.cs x9.Args)]) (gO_t hx9) rfl rfl rfl rfl rfl (fun _=>rfl) ⟨fun h=>h,⟨fun h=>h,trivial⟩⟩ rfl) (OkD.q (triQG (x:=.c (.pt [dS x9.Instance,dS x9.Handler,.sl (List.map AValue.cs x9.Args)])) rfl rfl ⟨fun h=>h,trivial⟩ rfl) (OkD.q (triQG (x:=aS x9.Instance) rfl rfl ⟨fun h=>h,trivial⟩ rfl) (OkD.q (triQG (x:=.c (.d (.sl (List.map Action.cs b)))) rfl rfl trivial rfl) (OkD.q (triQG (x:=aI s4) rfl rfl trivial rfl) ?_))))
 obtain ⟨x10,hx10,hr⟩:=bind_some hr
 refine OkD.q (triIdxG (enc:=Action.cs) (L:=b) (row:=[dS x10.Event,dS x10.Instance,dS x10.Handler,.sl (List.map AValue.cs x10.Args)]) (gO_t hx10) rfl rfl rfl rfl rfl (fun _=>rfl) ⟨fun h=>h,⟨fun h=>h,trivial⟩⟩ rfl) (OkD.q (triQG (x:=.c (.pt [dS x10.Instance,dS x10.Handler,.sl (List.map AValue.cs x10.Args)])) rfl rfl ⟨fun h=>h,trivial⟩ rfl) (OkD.q (triQG (x:=aS x10.Instance) rfl rfl ⟨fun h=>h,trivial⟩ rfl) (OkD.q (triQG (x:=aB (!(x9.Instance.toList == x10.Instance.toList))) rfl rfl ⟨fun h=>h,⟨fun h=>h,trivial⟩⟩ rfl) ?_)))
 refine OkD.q (triOr rfl rfl (fun h=>by rw [h];rfl) rfl) ?_
 refine OkD.x (aB ((!(x7.Event.toList == x8.Event.toList)) || (!(x9.Instance.toList == x10.Instance.toList)))) rfl trivial rfl (OkD.q (triQG (x:=.c (.d (.sl (List.map Action.cs a)))) rfl rfl trivial rfl) (OkD.q (triQG (x:=aI s4) rfl rfl trivial rfl) ?_))
 obtain ⟨x11,hx11,hr⟩:=bind_some hr
 refine OkD.q (triIdxG (enc:=Action.cs) (L:=a) (row:=[dS x11.Event,dS x11.Instance,dS x11.Handler,.sl (List.map AValue.cs x11.Args)]) (gO_t hx11) rfl rfl rfl rfl rfl (fun _=>rfl) ⟨fun h=>h,⟨fun h=>h,trivial⟩⟩ rfl) (OkD.q (triQG (x:=.c (.pt [dS x11.Handler,.sl (List.map AValue.cs x11.Args)])) rfl rfl ⟨fun h=>h,trivial⟩ rfl) (OkD.q (triQG (x:=aS x11.Handler) rfl rfl ⟨fun h=>h,trivial⟩ rfl) (OkD.q (triQG (x:=.c (.d (.sl (List.map Action.cs b)))) rfl rfl trivial rfl) (OkD.q (triQG (x:=aI s4) rfl rfl trivial rfl) ?_))))
 obtain ⟨x12,hx12,hr⟩:=bind_some hr
 refine OkD.q (triIdxG (enc:=Action.cs) (L:=b) (row:=[dS x12.Event,dS x12.Instance,dS x12.Handler,.sl (List.map AValue.cs x12.Args)]) (gO_t hx12) rfl rfl rfl rfl rfl (fun _=>rfl) ⟨fun h=>h,⟨fun h=>h,trivial⟩⟩ rfl) (OkD.q (triQG (x:=.c (.pt [dS x12.Handler,.sl (List.map AValue.cs x12.Args)])) rfl rfl ⟨fun h=>h,trivial⟩ rfl) (OkD.q (triQG (x:=aS x12.Handler) rfl rfl ⟨fun h=>h,trivial⟩ rfl) (OkD.q (triQG (x:=aB (!(x11.Handler.toList == x12.Handler.toList))) rfl rfl ⟨fun h=>h,⟨fun h=>h,trivial⟩⟩ rfl) ?_)))
 refine OkD.q (triOr rfl rfl (fun h=>by rw [h];rfl) rfl) ?_
 refine OkD.x (aB (((!(x7.Event.toList == x8.Event.toList)) || (!(x9.Instance.toList == x10.Instance.toList))) || (!(x11.Handler.toList == x12.Handler.toList)))) rfl trivial rfl (OkD.q (triQG (x:=.c (.d (.sl (List.map Action.cs a)))) rfl rfl trivial rfl) (OkD.q (triQG (x:=aI s4) rfl rfl trivial rfl) ?_))
 obtain ⟨x13,hx13,hr⟩:=bind_some hr
 refine OkD.q (triIdxG (enc:=Action.cs) (L:=a) (row:=[dS x13.Event,dS x13.Instance,dS x13.Handler,.sl (List.map AValue.cs x13.Args)]) (gO_t hx13) rfl rfl rfl rfl rfl (fun _=>rfl) ⟨fun h=>h,⟨fun h=>h,trivial⟩⟩ rfl) (OkD.q (triQG (x:=.c (.pt [.sl (List.map AValue.cs x13.Args)])) rfl rfl ⟨fun h=>h,trivial⟩ rfl) (OkD.q (triQG (x:=.c (.d (.sl (List.map AValue.cs x13.Args)))) rfl rfl ⟨fun h=>h,trivial⟩ rfl) (OkD.q (triQG (x:=.c (.d (.sl (List.map Action.cs b)))) rfl rfl trivial rfl) (OkD.q (triQG (x:=aI s4) rfl rfl trivial rfl) ?_))))
 obtain ⟨x14,hx14,hr⟩:=bind_some hr
 refine OkD.q (triIdxG (enc:=Action.cs) (L:=b) (row:=[dS x14.Event,dS x14.Instance,dS x14.Handler,.sl (List.map AValue.cs x14.Args)]) (gO_t hx14) rfl rfl rfl rfl rfl (fun _=>rfl) ⟨fun h=>h,⟨fun h=>h,trivial⟩⟩ rfl) (OkD.q (triQG (x:=.c (.pt [.sl (List.map AValue.cs x14.Args)])) rfl rfl ⟨fun h=>h,trivial⟩ rfl) (OkD.q (triQG (x:=.c (.d (.sl (List.map AValue.cs x14.Args)))) rfl rfl ⟨fun h=>h,trivial⟩ rfl) ?_))
 obtain ⟨x15,hx15,hr⟩:=bind_some hr
 refine OkD.q (triCallG (x:=aB x15) (fun hg=>r11_SameValues_c _ _ _ (gO_t hx15 hg)) rfl rfl ⟨.inl rfl,.inl rfl,trivial⟩ ⟨fun h=>h,⟨fun h=>h,trivial⟩⟩ entry58 rfl rfl rfl) (OkD.q (triQG (x:=aB (!x15)) rfl rfl ⟨fun h=>h,trivial⟩ rfl) ?_)
 refine OkD.q (triOr rfl rfl (fun h=>by rw [h];rfl) rfl) ?_
 refine OkD.nil (by kernel_rfl) ?_
 refine Ok.cond (b:=(((!(x7.Event.toList == x8.Event.toList)) || (!(x9.Instance.toList == x10.Instance.toList))) || (!(x11.Handler.toList == x12.Handler.toList))) || (!x15)) rfl (fun h16=>?_) (fun h16=>?_)
 have hr:=selT h16 hr
 refine Ok.seq (Ok.region (OkOps.y (aB false) (OkOps.nil (Ok.ret ?_))))
 obtain rfl:=Option.some.inj hr
 exact ⟨_,rfl,.inl rfl,trivial⟩
 have hr:=selF h16 hr
 refine Ok.skip (Ok.region (OkOps.y (aI s4) (OkOps.y (aI (IntKind.i64.wrap (s4 + 1))) (OkOps.y (aI (IntKind.i64.wrap (s4 + 1))) (OkOps.nil ?_)))))
 exact ⟨IntKind.i64.wrap (s4 + 1),hr,(Conv.mk (tau []) ⟨⟨_,rfl,.inl rfl⟩,⟨_,rfl,.inl rfl⟩,⟨_,rfl,.inl rfl⟩,trivial⟩ trivial rfl rfl rfl rfl)⟩
 have hr:=selF h6 hr
 refine Ok.exit ?_
 exact ⟨(),hr,(Conv.mk (tau []) trivial trivial rfl rfl rfl rfl)⟩
theorem entry39 : Entry Tryz.prog 39:=⟨_,Tryz.func39,by kernel_rfl,by kernel_rfl⟩
theorem entry18 : Entry Tryz.prog 18:=⟨_,Tryz.func18,by kernel_rfl,by kernel_rfl⟩
theorem r14_Same_B_c (self0 : View → View → Option Bool) (hself0 : ∀ (a : View) (b : View) {r : Bool},self0 a b = some r → Con Tryz.prog 18 [.agg [cI a.Kind,cS a.Key,.d (.sl (List.map Attr.cs a.Attrs)),.d (.sl (List.map Action.cs a.Actions)),.d (.sl (List.map View.cs a.Kids))],.agg [cI b.Kind,cS b.Key,.d (.sl (List.map Attr.cs b.Attrs)),.d (.sl (List.map Action.cs b.Actions)),.d (.sl (List.map View.cs b.Kids))]] [] (.s (aB r)) []) (a : View) (b : View) {r : Bool} (hr : r14_Same_B self0 a b = some r) : Con Tryz.prog 18 [.agg [cI a.Kind,cS a.Key,.d (.sl (List.map Attr.cs a.Attrs)),.d (.sl (List.map Action.cs a.Actions)),.d (.sl (List.map View.cs a.Kids))],.agg [cI b.Kind,cS b.Key,.d (.sl (List.map Attr.cs b.Attrs)),.d (.sl (List.map Action.cs b.Actions)),.d (.sl (List.map View.cs b.Kids))]] [] (.s (aB r)) []:=by
 unfold r14_Same_B at hr
 refine Con.of_ok 62 0 [.tmp 4] [(0,.s (.agg [cI a.Kind,cS a.Key,.d (.sl (List.map Attr.cs a.Attrs)),.d (.sl (List.map Action.cs a.Actions)),.d (.sl (List.map View.cs a.Kids))])),(1,.s (.agg [cI b.Kind,cS b.Key,.d (.sl (List.map Attr.cs b.Attrs)),.d (.sl (List.map Action.cs b.Actions)),.d (.sl (List.map View.cs b.Kids))]))] Tryz.func18 rfl rfl rfl rfl rfl rfl rfl rfl fun w g M ρ _=>(Ok.seq (Ok.region (OkOps.m 0 (triBox (j:=0) (cs:=[cI a.Kind,cS a.Key,.d (.sl (List.map Attr.cs a.Attrs)),.d (.sl (List.map Action.cs a.Actions)),.d (.sl (List.map View.cs a.Kids))]) rfl rfl rfl rfl rfl) (OkOps.m 0 (triBox (j:=1) (cs:=[cI b.Kind,cS b.Key,.d (.sl (List.map Attr.cs b.Attrs)),.d (.sl (List.map Action.cs b.Actions)),.d (.sl (List.map View.cs b.Kids))]) rfl rfl rfl rfl rfl) (OkOps.y (aB false) (OkOps.nil (Ok.seq (Ok.seq (Ok.region (OkOps.y (.c (.loc 0 0)) (OkOps.y (aI a.Kind) (OkOps.y (.c (.loc 1 0)) (OkOps.y (aI b.Kind) (OkOps.y (aB (a.Kind != b.Kind)) (OkOps.y (aB (a.Kind != b.Kind)) ?_)))))))))))))))
 refine OkOps.q (triQG (x:=.c (.loc 0 1)) rfl rfl trivial rfl) (OkOps.q (triQG (x:=aS a.Key) rfl rfl ⟨fun h=>h,trivial⟩ rfl) (OkOps.q (triQG (x:=.c (.loc 1 1)) rfl rfl trivial rfl) (OkOps.q (triQG (x:=aS b.Key) rfl rfl ⟨fun h=>h,trivial⟩ rfl) (OkOps.q (triQG (x:=aB (!(a.Key.toList == b.Key.toList))) rfl rfl ⟨fun h=>h,⟨fun h=>h,trivial⟩⟩ rfl) ?_))))
 refine OkOps.q (triOr rfl rfl (fun h=>by rw [h];rfl) rfl) ?_
 refine OkOps.y (aB ((a.Kind != b.Kind) || (!(a.Key.toList == b.Key.toList)))) (OkOps.q (triQG (x:=.c (.loc 0 2)) rfl rfl trivial rfl) (OkOps.q (triQG (x:=.c (.d (.sl (List.map Attr.cs a.Attrs)))) rfl rfl ⟨fun h=>h,trivial⟩ rfl) (OkOps.q (triQG (x:=.c (.loc 1 2)) rfl rfl trivial rfl) (OkOps.q (triQG (x:=.c (.d (.sl (List.map Attr.cs b.Attrs)))) rfl rfl ⟨fun h=>h,trivial⟩ rfl) ?_))))
 obtain ⟨x1,hx1,hr⟩:=bind_some hr
 refine OkOps.q (triCallG (x:=aB x1) (fun hg=>r14_SameAttrs_c _ _ (gO_t hx1 hg)) rfl rfl ⟨.inl rfl,.inl rfl,trivial⟩ ⟨fun h=>h,⟨fun h=>h,trivial⟩⟩ entry38 rfl rfl rfl) (OkOps.q (triQG (x:=aB (!x1)) rfl rfl ⟨fun h=>h,trivial⟩ rfl) ?_)
 refine OkOps.q (triOr rfl rfl (fun h=>by rw [h];rfl) rfl) ?_
 refine OkOps.y (aB (((a.Kind != b.Kind) || (!(a.Key.toList == b.Key.toList))) || (!x1))) (OkOps.q (triQG (x:=.c (.loc 0 3)) rfl rfl trivial rfl) (OkOps.q (triQG (x:=.c (.d (.sl (List.map Action.cs a.Actions)))) rfl rfl ⟨fun h=>h,trivial⟩ rfl) (OkOps.q (triQG (x:=.c (.loc 1 3)) rfl rfl trivial rfl) (OkOps.q (triQG (x:=.c (.d (.sl (List.map Action.cs b.Actions)))) rfl rfl ⟨fun h=>h,trivial⟩ rfl) ?_))))
 obtain ⟨x2,hx2,hr⟩:=bind_some hr
 refine OkOps.q (triCallG (x:=aB x2) (fun hg=>r14_SameActions_c _ _ (gO_t hx2 hg)) rfl rfl ⟨.inl rfl,.inl rfl,trivial⟩ ⟨fun h=>h,⟨fun h=>h,trivial⟩⟩ entry39 rfl rfl rfl) (OkOps.q (triQG (x:=aB (!x2)) rfl rfl ⟨fun h=>h,trivial⟩ rfl) ?_)
 refine OkOps.q (triOr rfl rfl (fun h=>by rw [h];rfl) rfl) ?_
 refine OkOps.y (aB ((((a.Kind != b.Kind) || (!(a.Key.toList == b.Key.toList))) || (!x1)) || (!x2))) (OkOps.q (triQG (x:=.c (.loc 0 4)) rfl rfl trivial rfl) (OkOps.q (triQG (x:=.c (.d (.sl (List.map View.cs a.Kids)))) rfl rfl ⟨fun h=>h,trivial⟩ rfl) (OkOps.q (triLenG (enc:=View.cs) a.Kids rfl rfl rfl ⟨fun h=>h,trivial⟩ rfl) (OkOps.q (triQG (x:=.c (.loc 1 4)) rfl rfl trivial rfl) (OkOps.q (triQG (x:=.c (.d (.sl (List.map View.cs b.Kids)))) rfl rfl ⟨fun h=>h,trivial⟩ rfl) (OkOps.q (triLenG (enc:=View.cs) b.Kids rfl rfl rfl ⟨fun h=>h,trivial⟩ rfl) (OkOps.q (triQG (x:=aB ((a.Kids.length : Int) != (b.Kids.length : Int))) rfl rfl ⟨fun h=>h,⟨fun h=>h,trivial⟩⟩ rfl) ?_)))))))
 refine OkOps.q (triOr rfl rfl (fun h=>by rw [h];rfl) rfl) ?_
 refine OkOps.nil ?_
 refine Ok.cond (b:=((((a.Kind != b.Kind) || (!(a.Key.toList == b.Key.toList))) || (!x1)) || (!x2)) || ((a.Kids.length : Int) != (b.Kids.length : Int))) rfl (fun h3=>?_) (fun h3=>?_)
 have hr:=selT h3 hr
 refine Ok.seq (Ok.region (OkOps.y (aB false) (OkOps.nil (Ok.ret ?_))))
 obtain rfl:=Option.some.inj hr
 exact ⟨_,rfl,.inl rfl,trivial⟩
 have hr:=selF h3 hr
 refine Ok.skip ?_
 obtain ⟨k5,hk5,hr⟩:=jn_some hr
 refine Ok.join (fun (s4 : Unit)=>⟨[],[],0⟩) k5 r (fun s4 hr=>?_) ?_
 rw [hk5] at hr
 refine Ok.seq (Ok.region (OkOps.y (aB true) (OkOps.nil (Ok.ret ?_))))
 obtain rfl:=Option.some.inj hr
 exact ⟨_,rfl,.inl rfl,trivial⟩
 clear hk5
 refine Ok.seq (Ok.region (OkOps.y (aI 0) (OkOps.nil (Ok.block (Ok.loopK (fun (s6 : Int)=>⟨[(2,.s (.c (.loc 0 0))),(3,.s (.c (.loc 1 0))),(5,.s (aI s6))],[(0,.blk [cI a.Kind,cS a.Key,.d (.sl (List.map Attr.cs a.Attrs)),.d (.sl (List.map Action.cs a.Actions)),.d (.sl (List.map View.cs a.Kids))] 46),(1,.blk [cI b.Kind,cS b.Key,.d (.sl (List.map Attr.cs b.Attrs)),.d (.sl (List.map Action.cs b.Actions)),.d (.sl (List.map View.cs b.Kids))] 46)],0⟩) hr (Conv.mk (tau []) ⟨⟨_,rfl,.inl rfl⟩,⟨_,rfl,.inl rfl⟩,⟨_,rfl,.inl rfl⟩,trivial⟩ ⟨rfl,rfl,trivial⟩ rfl rfl rfl rfl) ?_)))))
 clear hr
 intro again7 s6 hr
 unfold r14_Same_L1 at hr
 refine Ok.seq (Ok.seq (Ok.region (OkOps.y (aI s6) (OkOps.y (.c (.loc 0 4)) (OkOps.y (.c (.d (.sl (List.map View.cs a.Kids)))) (OkOps.q (triLen (enc:=View.cs) a.Kids rfl rfl trivial rfl) (OkOps.y (aB (decide (s6 < (a.Kids.length : Int)))) (OkOps.nil ?_))))))))
 refine Ok.cond (b:=decide (s6 < (a.Kids.length : Int))) rfl (fun h8=>?_) (fun h8=>?_)
 have hr:=selT h8 hr
 refine Ok.skip (Ok.seq (Ok.block (Ok.seq (Ok.regionD (by kernel_rfl) (OkD.x (.c (.loc 0 4)) rfl trivial rfl (OkD.x (.c (.d (.sl (List.map View.cs a.Kids)))) rfl trivial rfl (OkD.x (aI s6) rfl trivial rfl ?_)))))))
 obtain ⟨x9,hx9,hr⟩:=bind_some hr
 refine OkD.q (triIdx (enc:=View.cs) (L:=a.Kids) (row:=[dI x9.Kind,dS x9.Key,.sl (List.map Attr.cs x9.Attrs),.sl (List.map Action.cs x9.Actions),.sl (List.map View.cs x9.Kids)]) hx9 (View.cs_eq _) rfl rfl rfl (fun x=>by rw [View.cs_eq];rfl) trivial rfl) ?_
 refine OkD.x (.agg [cI x9.Kind,cS x9.Key,.d (.sl (List.map Attr.cs x9.Attrs)),.d (.sl (List.map Action.cs x9.Actions)),.d (.sl (List.map View.cs x9.Kids))]) rfl trivial rfl (OkD.x (.c (.loc 1 4)) rfl trivial rfl (OkD.x (.c (.d (.sl (List.map View.cs b.Kids)))) rfl trivial rfl (OkD.x (aI s6) rfl trivial rfl ?_)))
 obtain ⟨x10,hx10,hr⟩:=bind_some hr
 refine OkD.q (triIdx (enc:=View.cs) (L:=b.Kids) (row:=[dI x10.Kind,dS x10.Key,.sl (List.map Attr.cs x10.Attrs),.sl (List.map Action.cs x10.Actions),.sl (List.map View.cs x10.Kids)]) hx10 (View.cs_eq _) rfl rfl rfl (fun x=>by rw [View.cs_eq];rfl) trivial rfl) ?_
 refine OkD.x (.agg [cI x10.Kind,cS x10.Key,.d (.sl (List.map Attr.cs x10.Attrs)),.d (.sl (List.map Action.cs x10.Actions)),.d (.sl (List.map View.cs x10.Kids))]) rfl trivial rfl ?_
 obtain ⟨x11,hx11,hr⟩:=bind_some hr
 refine OkD.q (triCl (tau []) (.s (aB x11)) [] (hself0 _ _ hx11) rfl ⟨.inl rfl,.inl rfl,trivial⟩ trivial entry18 trivial) (OkD.x (aB (!x11)) rfl trivial rfl (OkD.nil (by kernel_rfl) ?_))
 refine Ok.cond (b:=!x11) rfl (fun h12=>?_) (fun h12=>?_)
 have hr:=selT h12 hr
 refine Ok.seq (Ok.region (OkOps.y (aB false) (OkOps.nil (Ok.ret ?_))))
 obtain rfl:=Option.some.inj hr
 exact ⟨_,rfl,.inl rfl,trivial⟩
 have hr:=selF h12 hr
 refine Ok.skip (Ok.region (OkOps.y (aI s6) (OkOps.y (aI (IntKind.i64.wrap (s6 + 1))) (OkOps.y (aI (IntKind.i64.wrap (s6 + 1))) (OkOps.nil ?_)))))
 exact ⟨IntKind.i64.wrap (s6 + 1),hr,(Conv.mk (tau []) ⟨⟨_,rfl,.inl rfl⟩,⟨_,rfl,.inl rfl⟩,⟨_,rfl,.inl rfl⟩,trivial⟩ ⟨rfl,rfl,trivial⟩ rfl rfl rfl rfl)⟩
 have hr:=selF h8 hr
 refine Ok.exit ?_
 exact ⟨(),hr,(Conv.mk (tau []) trivial trivial rfl rfl rfl rfl)⟩
theorem r14_Same_all : ∀ n : Nat,(∀ (a : View) (b : View) {r : Bool},r14_Same n a b = some r → Con Tryz.prog 18 [.agg [cI a.Kind,cS a.Key,.d (.sl (List.map Attr.cs a.Attrs)),.d (.sl (List.map Action.cs a.Actions)),.d (.sl (List.map View.cs a.Kids))],.agg [cI b.Kind,cS b.Key,.d (.sl (List.map Attr.cs b.Attrs)),.d (.sl (List.map Action.cs b.Actions)),.d (.sl (List.map View.cs b.Kids))]] [] (.s (aB r)) []) ∧ True:=by
 intro n
 induction n with
 | zero=>exact ⟨(by intros;rename_i hr;cases hr),trivial⟩
 | succ n ih=>exact ⟨(by intros;rename_i hr;exact r14_Same_B_c _ ih.1 _ _ hr),trivial⟩
theorem r14_Same_c (n : Nat) (a : View) (b : View) {r : Bool} (hr : r14_Same n a b = some r) : Con Tryz.prog 18 [.agg [cI a.Kind,cS a.Key,.d (.sl (List.map Attr.cs a.Attrs)),.d (.sl (List.map Action.cs a.Actions)),.d (.sl (List.map View.cs a.Kids))],.agg [cI b.Kind,cS b.Key,.d (.sl (List.map Attr.cs b.Attrs)),.d (.sl (List.map Action.cs b.Actions)),.d (.sl (List.map View.cs b.Kids))]] [] (.s (aB r)) []:=(r14_Same_all n).1 a b hr
theorem r14_Index_c (t : Tree) (id : Int) {r : Int} (hr : r14_Index t id = some r) : Con Tryz.prog 15 [.agg [cI t.Root,cI t.Next,.d (.sl (List.map Node.cs t.Nodes))],aI id] [] (.s (aI r)) []:=by
 unfold r14_Index at hr
 refine Con.of_ok 22 0 [.tmp 4] [(0,.s (.agg [cI t.Root,cI t.Next,.d (.sl (List.map Node.cs t.Nodes))])),(1,.s (aI id))] Tryz.func15 rfl rfl rfl rfl rfl rfl rfl rfl fun w g M ρ _=>(Ok.seq (Ok.region (OkOps.m 0 (triBox (j:=0) (cs:=[cI t.Root,cI t.Next,.d (.sl (List.map Node.cs t.Nodes))]) rfl rfl rfl rfl rfl) (OkOps.y (aI 0) (OkOps.nil ?_)))))
 obtain ⟨k2,hk2,hr⟩:=jn_some hr
 refine Ok.join (fun (s1 : Unit)=>⟨[],[],0⟩) k2 r (fun s1 hr=>?_) ?_
 rw [hk2] at hr
 refine Ok.seq (Ok.region (OkOps.y (aI (-1)) (OkOps.nil (Ok.ret ?_))))
 obtain rfl:=Option.some.inj hr
 exact ⟨_,rfl,.inl rfl,trivial⟩
 clear hk2
 refine Ok.seq (Ok.region (OkOps.y (aI 0) (OkOps.nil (Ok.block (Ok.loopK (fun (s3 : Int)=>⟨[(1,.s (aI id)),(2,.s (.c (.loc 0 0))),(5,.s (aI s3))],[(0,.blk [cI t.Root,cI t.Next,.d (.sl (List.map Node.cs t.Nodes))] 27)],0⟩) hr (Conv.mk (tau []) ⟨⟨_,rfl,.inl rfl⟩,⟨_,rfl,.inl rfl⟩,⟨_,rfl,.inl rfl⟩,trivial⟩ ⟨rfl,trivial⟩ rfl rfl rfl rfl) ?_)))))
 clear hr
 intro again4 s3 hr
 unfold r14_Index_L1 at hr
 refine Ok.seq (Ok.seq (Ok.region (OkOps.y (aI s3) (OkOps.y (.c (.loc 0 2)) (OkOps.y (.c (.d (.sl (List.map Node.cs t.Nodes)))) (OkOps.q (triLen (enc:=Node.cs) t.Nodes rfl rfl trivial rfl) (OkOps.y (aB (decide (s3 < (t.Nodes.length : Int)))) (OkOps.nil ?_))))))))
 refine Ok.cond (b:=decide (s3 < (t.Nodes.length : Int))) rfl (fun h5=>?_) (fun h5=>?_)
 have hr:=selT h5 hr
 refine Ok.skip (Ok.seq (Ok.block (Ok.seq (Ok.region (OkOps.y (.c (.loc 0 2)) (OkOps.y (.c (.d (.sl (List.map Node.cs t.Nodes)))) (OkOps.y (aI s3) ?_)))))))
 obtain ⟨x6,hx6,hr⟩:=bind_some hr
 refine OkOps.q (triIdx (enc:=Node.cs) (L:=t.Nodes) (row:=[dI x6.ID,dI x6.Parent,dI x6.Kind,dS x6.Key,.sl (List.map Attr.cs x6.Attrs),.sl (List.map Action.cs x6.Actions),.sl (List.map (eInt .i64) x6.Kids)]) hx6 rfl rfl rfl rfl (fun _=>rfl) trivial rfl) (OkOps.y (.c (.pt [dI x6.ID,dI x6.Parent,dI x6.Kind,dS x6.Key,.sl (List.map Attr.cs x6.Attrs),.sl (List.map Action.cs x6.Actions),.sl (List.map (eInt .i64) x6.Kids)])) (OkOps.y (aI x6.ID) (OkOps.y (aI id) (OkOps.y (aB (x6.ID == id)) (OkOps.nil ?_)))))
 refine Ok.cond (b:=x6.ID == id) rfl (fun h7=>?_) (fun h7=>?_)
 have hr:=selT h7 hr
 refine Ok.seq (Ok.region (OkOps.y (aI s3) (OkOps.y (aI s3) (OkOps.nil (Ok.ret ?_)))))
 obtain rfl:=Option.some.inj hr
 exact ⟨_,rfl,.inl rfl,trivial⟩
 have hr:=selF h7 hr
 refine Ok.skip (Ok.region (OkOps.y (aI s3) (OkOps.y (aI (IntKind.i64.wrap (s3 + 1))) (OkOps.y (aI (IntKind.i64.wrap (s3 + 1))) (OkOps.nil ?_)))))
 exact ⟨IntKind.i64.wrap (s3 + 1),hr,(Conv.mk (tau []) ⟨⟨_,rfl,.inl rfl⟩,⟨_,rfl,.inl rfl⟩,⟨_,rfl,.inl rfl⟩,trivial⟩ ⟨rfl,trivial⟩ rfl rfl rfl rfl)⟩
 have hr:=selF h5 hr
 refine Ok.exit ?_
 exact ⟨(),hr,(Conv.mk (tau []) trivial trivial rfl rfl rfl rfl)⟩
theorem entry15 : Entry Tryz.prog 15:=⟨_,Tryz.func15,by kernel_rfl,by kernel_rfl⟩
theorem r14_Node_c (t : Tree) (id : Int) {r : Node} (hr : r14_Node t id = some r) : Con Tryz.prog 46 [.agg [cI t.Root,cI t.Next,.d (.sl (List.map Node.cs t.Nodes))],aI id] [] (.s (.agg [cI r.ID,cI r.Parent,cI r.Kind,cS r.Key,.d (.sl (List.map Attr.cs r.Attrs)),.d (.sl (List.map Action.cs r.Actions)),.d (.sl (List.map (eInt .i64) r.Kids))])) []:=by
 unfold r14_Node at hr
 refine Con.of_ok 17 0 [.cell 4 33] [(0,.s (.agg [cI t.Root,cI t.Next,.d (.sl (List.map Node.cs t.Nodes))])),(1,.s (aI id))] Tryz.func46 rfl rfl rfl rfl rfl rfl rfl rfl fun w g M ρ _=>(Ok.seq (Ok.region (OkOps.m 0 (triBox (j:=0) (cs:=[cI t.Root,cI t.Next,.d (.sl (List.map Node.cs t.Nodes))]) rfl rfl rfl rfl rfl) (OkOps.m 0 (triAlloc (j:=1) (cs:=[cI 0,cI 0,cI 0,cS ByteArray.empty,.d (.v (.slice none 0 0)),.d (.v (.slice none 0 0)),.d (.v (.slice none 0 0))]) rfl rfl rfl rfl) (OkOps.nil (Ok.seq (Ok.region (OkOps.y (.agg [cI t.Root,cI t.Next,.d (.sl (List.map Node.cs t.Nodes))]) (OkOps.y (aI id) ?_)))))))))
 obtain ⟨x1,hx1,hr⟩:=bind_some hr
 refine OkOps.q (triCl (tau []) (.s (aI x1)) [] (r14_Index_c _ _ hx1) rfl ⟨.inl rfl,.inl rfl,trivial⟩ trivial entry15 trivial) (OkOps.y (aI x1) (OkOps.nil (Ok.seq (Ok.seq (Ok.region (OkOps.y (aI x1) (OkOps.y (aB (decide (x1 < 0))) (OkOps.nil ?_))))))))
 refine Ok.cond (b:=decide (x1 < 0)) rfl (fun h2=>?_) (fun h2=>?_)
 have hr:=selT h2 hr
 refine Ok.seq (Ok.region (OkOps.y (.agg [cI 0,cI 0,cI 0,cS ByteArray.empty,.d (.v (.slice none 0 0)),.d (.v (.slice none 0 0)),.d (.v (.slice none 0 0))]) (OkOps.w (triStore (cs':=[cI 0,cI 0,cI 0,cS ByteArray.empty,.d (.v (.slice none 0 0)),.d (.v (.slice none 0 0)),.d (.v (.slice none 0 0))]) rfl rfl rfl rfl rfl rfl rfl rfl rfl) (OkOps.nil (Ok.ret ?_)))))
 obtain rfl:=Option.some.inj hr
 exact ⟨_,rfl,.inr rfl,trivial⟩
 have hr:=selF h2 hr
 refine Ok.skip (Ok.seq (Ok.region (OkOps.y (.c (.loc 0 2)) (OkOps.y (.c (.d (.sl (List.map Node.cs t.Nodes)))) (OkOps.y (aI x1) ?_)))))
 obtain ⟨x3,hx3,hr⟩:=bind_some hr
 refine OkOps.q (triIdx (enc:=Node.cs) (L:=t.Nodes) (row:=[dI x3.ID,dI x3.Parent,dI x3.Kind,dS x3.Key,.sl (List.map Attr.cs x3.Attrs),.sl (List.map Action.cs x3.Actions),.sl (List.map (eInt .i64) x3.Kids)]) hx3 rfl rfl rfl rfl (fun _=>rfl) trivial rfl) (OkOps.y (.agg [cI x3.ID,cI x3.Parent,cI x3.Kind,cS x3.Key,.d (.sl (List.map Attr.cs x3.Attrs)),.d (.sl (List.map Action.cs x3.Actions)),.d (.sl (List.map (eInt .i64) x3.Kids))]) (OkOps.w (triStore (cs':=[cI x3.ID,cI x3.Parent,cI x3.Kind,cS x3.Key,.d (.sl (List.map Attr.cs x3.Attrs)),.d (.sl (List.map Action.cs x3.Actions)),.d (.sl (List.map (eInt .i64) x3.Kids))]) rfl rfl rfl rfl rfl rfl rfl rfl rfl) (OkOps.nil (Ok.ret ?_))))
 obtain rfl:=Option.some.inj hr
 exact ⟨_,rfl,.inl rfl,trivial⟩
theorem entry46 : Entry Tryz.prog 46:=⟨_,Tryz.func46,by kernel_rfl,by kernel_rfl⟩
theorem entry42 : Entry Tryz.prog 42:=⟨_,Tryz.func42,by kernel_rfl,by kernel_rfl⟩
theorem r14_order_B_c (self0 : Tree → Int → (List Int) → Option (List Int)) (hself0 : ∀ (t : Tree) (id : Int) (l : (List Int)) {r : (List Int)},self0 t id l = some r → Con Tryz.prog 42 [.agg [cI t.Root,cI t.Next,.d (.sl (List.map Node.cs t.Nodes))],aI id,.c (.tl 0 (List.map (eInt .i64) l))] [(0,.tail 1)] (.s (.c (.tl 2000 (List.map (eInt .i64) r)))) [(0,.dead),(2000,.tail 1)]) (t : Tree) (id : Int) (l : (List Int)) {r : (List Int)} (hr : r14_order_B self0 t id l = some r) : Con Tryz.prog 42 [.agg [cI t.Root,cI t.Next,.d (.sl (List.map Node.cs t.Nodes))],aI id,.c (.tl 0 (List.map (eInt .i64) l))] [(0,.tail 1)] (.s (.c (.tl 2000 (List.map (eInt .i64) r)))) [(0,.dead),(2000,.tail 1)]:=by
 unfold r14_order_B at hr
 refine Con.of_ok 32 0 [.tmp 6] [(0,.s (.agg [cI t.Root,cI t.Next,.d (.sl (List.map Node.cs t.Nodes))])),(1,.s (aI id)),(2,.s (.c (.tl 0 (List.map (eInt .i64) l))))] Tryz.func42 rfl rfl rfl rfl rfl rfl rfl rfl fun w g M ρ _=>(Ok.seq (Ok.region (OkOps.m 0 (triBox (j:=1) (cs:=[cI t.Root,cI t.Next,.d (.sl (List.map Node.cs t.Nodes))]) rfl rfl rfl rfl rfl) (OkOps.y (.c (.d (.v (.slice none 0 0)))) (OkOps.nil (Ok.seq (Ok.region (OkOps.y (.c (.tl 0 (List.map (eInt .i64) l))) (OkOps.y (aI id) (OkOps.m 0 (triBST (sz:=1) (enc:=(eInt .i64)) (j:=2) ([id]) rfl rfl rfl rfl rfl rfl rfl rfl (fun _=>rfl) trivial rfl rfl) ?_))))))))))
 obtain ⟨x1,hx1,hr⟩:=bind_some hr
 refine OkOps.m2 0 (triApp (enc:=(eInt .i64)) (L:=l) (X:=[id]) (j:=0) (j':=3) hx1 rfl rfl rfl rfl rfl rfl (fun _=>rfl) (fun _=>rfl) (by decide) trivial rfl rfl) (OkOps.y (.c (.tl 3 (List.map (eInt .i64) x1))) (OkOps.nil (Ok.seq (Ok.region (OkOps.y (.agg [cI t.Root,cI t.Next,.d (.sl (List.map Node.cs t.Nodes))]) (OkOps.y (aI id) ?_))))))
 obtain ⟨x2,hx2,hr⟩:=bind_some hr
 refine OkOps.q (triCl (tau []) (.s (.agg [cI x2.ID,cI x2.Parent,cI x2.Kind,cS x2.Key,.d (.sl (List.map Attr.cs x2.Attrs)),.d (.sl (List.map Action.cs x2.Actions)),.d (.sl (List.map (eInt .i64) x2.Kids))])) [] (r14_Node_c _ _ hx2) rfl ⟨.inl rfl,.inl rfl,trivial⟩ trivial entry46 trivial) (OkOps.m 0 (triAlloc (j:=4) (cs:=[cI 0,cI 0,cI 0,cS ByteArray.empty,.d (.v (.slice none 0 0)),.d (.v (.slice none 0 0)),.d (.v (.slice none 0 0))]) rfl rfl rfl rfl) (OkOps.w (triStore (cs':=[cI x2.ID,cI x2.Parent,cI x2.Kind,cS x2.Key,.d (.sl (List.map Attr.cs x2.Attrs)),.d (.sl (List.map Action.cs x2.Actions)),.d (.sl (List.map (eInt .i64) x2.Kids))]) rfl rfl rfl rfl rfl rfl rfl rfl rfl) (OkOps.nil ?_)))
 obtain ⟨k4,hk4,hr⟩:=jn_some hr
 refine Ok.join (fun (s3 : (List Int))=>⟨[(2,.s (.c (.tl 1003 (List.map (eInt .i64) s3))))],[(0,.dead),(1003,.tail 1)],0⟩) k4 r (fun s3 hr=>?_) ?_
 rw [hk4] at hr
 refine Ok.seq (Ok.region (OkOps.y (.c (.tl 1003 (List.map (eInt .i64) s3))) (OkOps.y (.c (.tl 1003 (List.map (eInt .i64) s3))) (OkOps.nil (Ok.conv (T:=⟨[(6,.s (.c (.tl 2000 (List.map (eInt .i64) s3))))],[(0,.dead),(2000,.tail 1)],0⟩) (Conv.mk (tau [(2000,1003)]) ⟨⟨_,rfl,.inl rfl⟩,trivial⟩ ⟨rfl,trivial⟩ rfl rfl rfl rfl) (Ok.ret ?_))))))
 obtain rfl:=Option.some.inj hr
 exact ⟨_,rfl,.inl rfl,⟨(fun h=>by cases h),rfl,trivial⟩⟩
 clear hk4
 refine Ok.seq (Ok.region (OkOps.y (aI 0) (OkOps.nil (Ok.block (Ok.loopK (fun (s5 : (List Int) × Int)=>⟨[(2,.s (.c (.tl 1005 (List.map (eInt .i64) s5.1)))),(3,.s (.c (.loc 1 0))),(7,.s (.c (.loc 4 0))),(8,.s (aI s5.2))],[(0,.dead),(1,.blk [cI t.Root,cI t.Next,.d (.sl (List.map Node.cs t.Nodes))] 27),(4,.blk [cI x2.ID,cI x2.Parent,cI x2.Kind,cS x2.Key,.d (.sl (List.map Attr.cs x2.Attrs)),.d (.sl (List.map Action.cs x2.Actions)),.d (.sl (List.map (eInt .i64) x2.Kids))] 33),(1005,.tail 1)],0⟩) hr (Conv.mk (tau [(1005,3)]) ⟨⟨_,rfl,.inl rfl⟩,⟨_,rfl,.inl rfl⟩,⟨_,rfl,.inl rfl⟩,⟨_,rfl,.inl rfl⟩,trivial⟩ ⟨rfl,rfl,rfl,trivial⟩ rfl rfl rfl rfl) ?_)))))
 clear hr
 intro again6 s5 hr
 unfold r14_order_L1 at hr
 refine Ok.seq (Ok.seq (Ok.region (OkOps.y (aI s5.2) (OkOps.y (.c (.loc 4 6)) (OkOps.y (.c (.d (.sl (List.map (eInt .i64) x2.Kids)))) (OkOps.q (triLen (enc:=(eInt .i64)) x2.Kids rfl rfl trivial rfl) (OkOps.y (aB (decide (s5.2 < (x2.Kids.length : Int)))) (OkOps.nil ?_))))))))
 refine Ok.cond (b:=decide (s5.2 < (x2.Kids.length : Int))) rfl (fun h7=>?_) (fun h7=>?_)
 have hr:=selT h7 hr
 refine Ok.skip (Ok.seq (Ok.block (Ok.regionD (by kernel_rfl) (OkD.x (.agg [cI t.Root,cI t.Next,.d (.sl (List.map Node.cs t.Nodes))]) rfl trivial rfl (OkD.x (.c (.loc 4 6)) rfl trivial rfl (OkD.x (.c (.d (.sl (List.map (eInt .i64) x2.Kids)))) rfl trivial rfl (OkD.x (aI s5.2) rfl trivial rfl ?_)))))))
 obtain ⟨x8,hx8,hr⟩:=bind_some hr
 refine OkD.q (triIdx (enc:=(eInt .i64)) (L:=x2.Kids) (row:=[dI x8]) hx8 rfl rfl rfl rfl (fun _=>rfl) trivial rfl) (OkD.x (aI x8) rfl trivial rfl (OkD.x (.c (.tl 1005 (List.map (eInt .i64) s5.1))) rfl trivial rfl ?_))
 obtain ⟨x9,hx9,hr⟩:=bind_some hr
 refine OkD.m2 0 (triCall (tau [(0,1005),(2000,5)]) (.s (.c (.tl 5 (List.map (eInt .i64) x9)))) [(1005,.dead),(5,.tail 1)] (hself0 _ _ _ hx9) rfl ⟨.inl rfl,.inl rfl,.inl rfl,trivial⟩ trivial entry42 ⟨rfl,trivial⟩ rfl rfl rfl rfl ⟨rfl,trivial⟩ rfl rfl rfl) (OkD.x (.c (.tl 5 (List.map (eInt .i64) x9))) rfl trivial rfl (OkD.nil (by kernel_rfl) (Ok.region (OkOps.y (aI s5.2) (OkOps.y (aI (IntKind.i64.wrap (s5.2 + 1))) (OkOps.y (aI (IntKind.i64.wrap (s5.2 + 1))) (OkOps.nil ?_)))))))
 exact ⟨(x9,IntKind.i64.wrap (s5.2 + 1)),hr,(Conv.mk (tau [(1005,5)]) ⟨⟨_,rfl,.inl rfl⟩,⟨_,rfl,.inl rfl⟩,⟨_,rfl,.inl rfl⟩,⟨_,rfl,.inl rfl⟩,trivial⟩ ⟨rfl,rfl,rfl,trivial⟩ rfl rfl rfl rfl)⟩
 have hr:=selF h7 hr
 refine Ok.exit ?_
 exact ⟨s5.1,hr,(Conv.mk (tau [(1003,1005)]) ⟨⟨_,rfl,.inl rfl⟩,trivial⟩ ⟨rfl,trivial⟩ rfl rfl rfl rfl)⟩
theorem r14_order_all : ∀ n : Nat,(∀ (t : Tree) (id : Int) (l : (List Int)) {r : (List Int)},r14_order n t id l = some r → Con Tryz.prog 42 [.agg [cI t.Root,cI t.Next,.d (.sl (List.map Node.cs t.Nodes))],aI id,.c (.tl 0 (List.map (eInt .i64) l))] [(0,.tail 1)] (.s (.c (.tl 2000 (List.map (eInt .i64) r)))) [(0,.dead),(2000,.tail 1)]) ∧ True:=by
 intro n
 induction n with
 | zero=>exact ⟨(by intros;rename_i hr;cases hr),trivial⟩
 | succ n ih=>exact ⟨(by intros;rename_i hr;exact r14_order_B_c _ ih.1 _ _ _ hr),trivial⟩
theorem r14_order_c (n : Nat) (t : Tree) (id : Int) (l : (List Int)) {r : (List Int)} (hr : r14_order n t id l = some r) : Con Tryz.prog 42 [.agg [cI t.Root,cI t.Next,.d (.sl (List.map Node.cs t.Nodes))],aI id,.c (.tl 0 (List.map (eInt .i64) l))] [(0,.tail 1)] (.s (.c (.tl 2000 (List.map (eInt .i64) r)))) [(0,.dead),(2000,.tail 1)]:=(r14_order_all n).1 t id l hr
theorem r14_shaped_c (t : Tree) {r : Bool} (hr : r14_shaped t = some r) : Con Tryz.prog 37 [.agg [cI t.Root,cI t.Next,.d (.sl (List.map Node.cs t.Nodes))]] [] (.s (aB r)) []:=by
 unfold r14_shaped at hr
 refine Con.of_ok 156 0 [.tmp 2] [(0,.s (.agg [cI t.Root,cI t.Next,.d (.sl (List.map Node.cs t.Nodes))]))] Tryz.func37 rfl rfl rfl rfl rfl rfl rfl rfl fun w g M ρ _=>(Ok.seq (Ok.region (OkOps.m 0 (triBox (j:=0) (cs:=[cI t.Root,cI t.Next,.d (.sl (List.map Node.cs t.Nodes))]) rfl rfl rfl rfl rfl) (OkOps.y (aB false) (OkOps.nil (Ok.seq (Ok.seq (Ok.region (OkOps.y (.c (.loc 0 1)) (OkOps.y (aI t.Next) (OkOps.y (aB (decide (t.Next < 2))) (OkOps.y (aB (decide (t.Next < 2))) (OkOps.q (triQG (x:=.c (.loc 0 1)) rfl rfl trivial rfl) (OkOps.q (triQG (x:=aI t.Next) rfl rfl ⟨fun h=>h,trivial⟩ rfl) (OkOps.q (triQG (x:=aB (decide (t.Next > 1099511627776))) rfl rfl ⟨fun h=>h,trivial⟩ rfl) ?_)))))))))))))))
 refine OkOps.q (triOr rfl rfl (fun h=>by rw [h];rfl) rfl) ?_
 refine OkOps.y (aB ((decide (t.Next < 2)) || (decide (t.Next > 1099511627776)))) (OkOps.q (triQG (x:=.c (.loc 0 2)) rfl rfl trivial rfl) (OkOps.q (triQG (x:=.c (.d (.sl (List.map Node.cs t.Nodes)))) rfl rfl ⟨fun h=>h,trivial⟩ rfl) (OkOps.q (triLenG (enc:=Node.cs) t.Nodes rfl rfl rfl ⟨fun h=>h,trivial⟩ rfl) (OkOps.q (triQG (x:=aB (decide ((t.Nodes.length : Int) < 1))) rfl rfl ⟨fun h=>h,trivial⟩ rfl) ?_))))
 refine OkOps.q (triOr rfl rfl (fun h=>by rw [h];rfl) rfl) ?_
 refine OkOps.y (aB (((decide (t.Next < 2)) || (decide (t.Next > 1099511627776))) || (decide ((t.Nodes.length : Int) < 1)))) (OkOps.q (triQG (x:=.c (.loc 0 2)) rfl rfl trivial rfl) (OkOps.q (triQG (x:=.c (.d (.sl (List.map Node.cs t.Nodes)))) rfl rfl ⟨fun h=>h,trivial⟩ rfl) (OkOps.q (triLenG (enc:=Node.cs) t.Nodes rfl rfl rfl ⟨fun h=>h,trivial⟩ rfl) (OkOps.q (triQG (x:=aB (decide ((t.Nodes.length : Int) > 400))) rfl rfl ⟨fun h=>h,trivial⟩ rfl) ?_))))
 refine OkOps.q (triOr rfl rfl (fun h=>by rw [h];rfl) rfl) ?_
 refine OkOps.nil ?_
 refine Ok.cond (b:=(((decide (t.Next < 2)) || (decide (t.Next > 1099511627776))) || (decide ((t.Nodes.length : Int) < 1))) || (decide ((t.Nodes.length : Int) > 400))) rfl (fun h1=>?_) (fun h1=>?_)
 have hr:=selT h1 hr
 refine Ok.seq (Ok.region (OkOps.y (aB false) (OkOps.nil (Ok.ret ?_))))
 obtain rfl:=Option.some.inj hr
 exact ⟨_,rfl,.inl rfl,trivial⟩
 have hr:=selF h1 hr
 refine Ok.skip (Ok.seq (Ok.region (OkOps.y (aI 0) (OkOps.nil ?_))))
 obtain ⟨k3,hk3,hr⟩:=jn_some hr
 refine Ok.join (fun (s2 : Unit)=>⟨[(1,.s (.c (.loc 0 0)))],[(0,.blk [cI t.Root,cI t.Next,.d (.sl (List.map Node.cs t.Nodes))] 27)],0⟩) k3 r (fun s2 hr=>?_) ?_
 rw [hk3] at hr
 refine Ok.seq (Ok.region (OkOps.y (.agg [cI t.Root,cI t.Next,.d (.sl (List.map Node.cs t.Nodes))]) (OkOps.y (.c (.loc 0 0)) (OkOps.y (aI t.Root) ?_))))
 obtain ⟨x4,hx4,hr⟩:=bind_some hr
 refine OkOps.q (triCl (tau []) (.s (aI x4)) [] (r14_Index_c _ _ hx4) rfl ⟨.inl rfl,.inl rfl,trivial⟩ trivial entry15 trivial) (OkOps.y (aI x4) (OkOps.nil (Ok.seq (Ok.seq (Ok.region (OkOps.y (aI x4) (OkOps.y (aB (decide (x4 < 0))) (OkOps.nil ?_))))))))
 refine Ok.cond (b:=decide (x4 < 0)) rfl (fun h5=>?_) (fun h5=>?_)
 have hr:=selT h5 hr
 refine Ok.seq (Ok.region (OkOps.y (aB false) (OkOps.nil (Ok.ret ?_))))
 obtain rfl:=Option.some.inj hr
 exact ⟨_,rfl,.inl rfl,trivial⟩
 have hr:=selF h5 hr
 refine Ok.skip (Ok.seq (Ok.region (OkOps.y (aI 0) (OkOps.nil ?_))))
 obtain ⟨k7,hk7,hr⟩:=jn_some hr
 refine Ok.join (fun (s6 : Int)=>⟨[(1,.s (.c (.loc 0 0))),(6,.s (aI s6))],[(0,.blk [cI t.Root,cI t.Next,.d (.sl (List.map Node.cs t.Nodes))] 27)],0⟩) k7 r (fun s6 hr=>?_) ?_
 rw [hk7] at hr
 refine Ok.seq (Ok.seq (Ok.region (OkOps.y (aI s6) (OkOps.y (.c (.loc 0 2)) (OkOps.y (.c (.d (.sl (List.map Node.cs t.Nodes)))) (OkOps.q (triLen (enc:=Node.cs) t.Nodes rfl rfl trivial rfl) (OkOps.y (aI (IntKind.i64.wrap ((t.Nodes.length : Int) - 1))) (OkOps.y (aB (s6 != (IntKind.i64.wrap ((t.Nodes.length : Int) - 1)))) (OkOps.nil ?_)))))))))
 refine Ok.cond (b:=s6 != (IntKind.i64.wrap ((t.Nodes.length : Int) - 1))) rfl (fun h8=>?_) (fun h8=>?_)
 have hr:=selT h8 hr
 refine Ok.seq (Ok.region (OkOps.y (aB false) (OkOps.nil (Ok.ret ?_))))
 obtain rfl:=Option.some.inj hr
 exact ⟨_,rfl,.inl rfl,trivial⟩
 have hr:=selF h8 hr
 refine Ok.skip (Ok.seq (Ok.regionD (by kernel_rfl) (OkD.x (.agg [cI t.Root,cI t.Next,.d (.sl (List.map Node.cs t.Nodes))]) rfl trivial rfl (OkD.x (.c (.loc 0 0)) rfl trivial rfl (OkD.x (aI t.Root) rfl trivial rfl ?_)))))
 obtain ⟨x9,hx9,hr⟩:=bind_some hr
 refine OkD.m 0 (triCall (tau [(2000,1)]) (.s (.c (.tl 1 (List.map (eInt .i64) x9)))) [(1,.tail 1)] (Con.nilArg (args':=[.agg [cI t.Root,cI t.Next,.d (.sl (List.map Node.cs t.Nodes))],aI t.Root,.c (.d (.v (.slice none 0 0)))]) 0 (r14_order_c _ _ _ _ hx9) ⟨.inl rfl,.inl rfl,.inr ⟨rfl,.inl rfl⟩,trivial⟩ rfl (nil_tail 1 0) rfl rfl rfl rfl rfl rfl rfl) rfl ⟨.inl rfl,.inl rfl,.inl rfl,trivial⟩ trivial entry42 trivial rfl rfl rfl rfl ⟨rfl,trivial⟩ rfl rfl rfl) (OkD.q (triLen (enc:=(eInt .i64)) x9 rfl rfl trivial rfl) (OkD.x (.c (.loc 0 2)) rfl trivial rfl (OkD.x (.c (.d (.sl (List.map Node.cs t.Nodes)))) rfl trivial rfl (OkD.q (triLen (enc:=Node.cs) t.Nodes rfl rfl trivial rfl) (OkD.x (aB ((x9.length : Int) == (t.Nodes.length : Int))) rfl trivial rfl (OkD.x (aB ((x9.length : Int) == (t.Nodes.length : Int))) rfl trivial rfl (OkD.nil (by kernel_rfl) (Ok.ret ?_))))))))
 obtain rfl:=Option.some.inj hr
 exact ⟨_,rfl,.inl rfl,trivial⟩
 clear hk7
 refine Ok.seq (Ok.region (OkOps.y (aI 0) (OkOps.nil (Ok.block (Ok.loopK (fun (s10 : Int × Int)=>⟨[(1,.s (.c (.loc 0 0))),(5,.s (aI x4)),(6,.s (aI s10.1)),(7,.s (aI s10.2))],[(0,.blk [cI t.Root,cI t.Next,.d (.sl (List.map Node.cs t.Nodes))] 27)],0⟩) hr (Conv.mk (tau []) ⟨⟨_,rfl,.inl rfl⟩,⟨_,rfl,.inl rfl⟩,⟨_,rfl,.inl rfl⟩,⟨_,rfl,.inl rfl⟩,trivial⟩ ⟨rfl,trivial⟩ rfl rfl rfl rfl) ?_)))))
 clear hr
 intro again11 s10 hr
 unfold r14_shaped_L3 at hr
 refine Ok.seq (Ok.seq (Ok.region (OkOps.y (aI s10.2) (OkOps.y (.c (.loc 0 2)) (OkOps.y (.c (.d (.sl (List.map Node.cs t.Nodes)))) (OkOps.q (triLen (enc:=Node.cs) t.Nodes rfl rfl trivial rfl) (OkOps.y (aB (decide (s10.2 < (t.Nodes.length : Int)))) (OkOps.nil ?_))))))))
 refine Ok.cond (b:=decide (s10.2 < (t.Nodes.length : Int))) rfl (fun h12=>?_) (fun h12=>?_)
 have hr:=selT h12 hr
 refine Ok.skip ?_
 obtain ⟨k14,hk14,hr⟩:=jn_some hr
 refine Ok.join (fun (s13 : Int)=>⟨[(1,.s (.c (.loc 0 0))),(5,.s (aI x4)),(6,.s (aI s13)),(7,.s (aI s10.2))],[(0,.blk [cI t.Root,cI t.Next,.d (.sl (List.map Node.cs t.Nodes))] 27)],0⟩) k14 r (fun s13 hr=>?_) ?_
 rw [hk14] at hr
 refine Ok.region (OkOps.y (aI s10.2) (OkOps.y (aI (IntKind.i64.wrap (s10.2 + 1))) (OkOps.y (aI (IntKind.i64.wrap (s10.2 + 1))) (OkOps.nil ?_))))
 exact ⟨(s13,IntKind.i64.wrap (s10.2 + 1)),hr,(Conv.mk (tau []) ⟨⟨_,rfl,.inl rfl⟩,⟨_,rfl,.inl rfl⟩,⟨_,rfl,.inl rfl⟩,⟨_,rfl,.inl rfl⟩,trivial⟩ ⟨rfl,trivial⟩ rfl rfl rfl rfl)⟩
 clear hk14
 refine Ok.block (Ok.seq (Ok.region (OkOps.y (.c (.loc 0 2)) (OkOps.y (.c (.d (.sl (List.map Node.cs t.Nodes)))) (OkOps.y (aI s10.2) ?_)))))
 obtain ⟨x15,hx15,hr⟩:=bind_some hr
 refine OkOps.q (triIdx (enc:=Node.cs) (L:=t.Nodes) (row:=[dI x15.ID,dI x15.Parent,dI x15.Kind,dS x15.Key,.sl (List.map Attr.cs x15.Attrs),.sl (List.map Action.cs x15.Actions),.sl (List.map (eInt .i64) x15.Kids)]) hx15 rfl rfl rfl rfl (fun _=>rfl) trivial rfl) (OkOps.y (.agg [cI x15.ID,cI x15.Parent,cI x15.Kind,cS x15.Key,.d (.sl (List.map Attr.cs x15.Attrs)),.d (.sl (List.map Action.cs x15.Actions)),.d (.sl (List.map (eInt .i64) x15.Kids))]) (OkOps.m 0 (triAlloc (j:=2) (cs:=[cI 0,cI 0,cI 0,cS ByteArray.empty,.d (.v (.slice none 0 0)),.d (.v (.slice none 0 0)),.d (.v (.slice none 0 0))]) rfl rfl rfl rfl) (OkOps.w (triStore (cs':=[cI x15.ID,cI x15.Parent,cI x15.Kind,cS x15.Key,.d (.sl (List.map Attr.cs x15.Attrs)),.d (.sl (List.map Action.cs x15.Actions)),.d (.sl (List.map (eInt .i64) x15.Kids))]) rfl rfl rfl rfl rfl rfl rfl rfl rfl) (OkOps.nil (Ok.seq (Ok.seq (Ok.region (OkOps.y (.c (.loc 2 1)) (OkOps.y (aI x15.Parent) (OkOps.y (aB (x15.Parent == 0)) (OkOps.y (aI s10.2) (OkOps.y (aI x4) (OkOps.y (aB (s10.2 == x4)) (OkOps.y (aB ((x15.Parent == 0) != (s10.2 == x4))) (OkOps.nil ?_)))))))))))))))
 refine Ok.cond (b:=(x15.Parent == 0) != (s10.2 == x4)) rfl (fun h16=>?_) (fun h16=>?_)
 have hr:=selT h16 hr
 refine Ok.seq (Ok.region (OkOps.y (aB false) (OkOps.nil (Ok.ret ?_))))
 obtain rfl:=Option.some.inj hr
 exact ⟨_,rfl,.inl rfl,trivial⟩
 have hr:=selF h16 hr
 refine Ok.skip (Ok.seq (Ok.seq (Ok.region (OkOps.y (.c (.loc 2 6)) (OkOps.y (.c (.d (.sl (List.map (eInt .i64) x15.Kids)))) (OkOps.q (triLen (enc:=(eInt .i64)) x15.Kids rfl rfl trivial rfl) (OkOps.y (.c (.loc 0 2)) (OkOps.y (.c (.d (.sl (List.map Node.cs t.Nodes)))) (OkOps.q (triLen (enc:=Node.cs) t.Nodes rfl rfl trivial rfl) (OkOps.y (aB (decide ((x15.Kids.length : Int) > (t.Nodes.length : Int)))) (OkOps.nil ?_)))))))))))
 refine Ok.cond (b:=decide ((x15.Kids.length : Int) > (t.Nodes.length : Int))) rfl (fun h17=>?_) (fun h17=>?_)
 have hr:=selT h17 hr
 refine Ok.seq (Ok.region (OkOps.y (aB false) (OkOps.nil (Ok.ret ?_))))
 obtain rfl:=Option.some.inj hr
 exact ⟨_,rfl,.inl rfl,trivial⟩
 have hr:=selF h17 hr
 refine Ok.skip (Ok.seq (Ok.region (OkOps.y (aI 0) (OkOps.nil ?_))))
 obtain ⟨k19,hk19,hr⟩:=jn_some hr
 refine Ok.joinEnd (fun (s18 : Int)=>⟨[(1,.s (.c (.loc 0 0))),(5,.s (aI x4)),(6,.s (aI s18)),(7,.s (aI s10.2))],[(0,.blk [cI t.Root,cI t.Next,.d (.sl (List.map Node.cs t.Nodes))] 27)],0⟩) k19 r (fun s18 hr=>?_) ?_
 rw [hk19] at hr
 exact ⟨s18,hr,(Conv.mk (tau []) ⟨⟨_,rfl,.inl rfl⟩,⟨_,rfl,.inl rfl⟩,⟨_,rfl,.inl rfl⟩,⟨_,rfl,.inl rfl⟩,trivial⟩ ⟨rfl,trivial⟩ rfl rfl rfl rfl)⟩
 clear hk19
 refine Ok.block (Ok.loopK (fun (s20 : Int × Int)=>⟨[(1,.s (.c (.loc 0 0))),(5,.s (aI x4)),(6,.s (aI s20.1)),(7,.s (aI s10.2)),(8,.s (.c (.loc 2 0))),(9,.s (aI s20.2))],[(0,.blk [cI t.Root,cI t.Next,.d (.sl (List.map Node.cs t.Nodes))] 27),(2,.blk [cI x15.ID,cI x15.Parent,cI x15.Kind,cS x15.Key,.d (.sl (List.map Attr.cs x15.Attrs)),.d (.sl (List.map Action.cs x15.Actions)),.d (.sl (List.map (eInt .i64) x15.Kids))] 33)],0⟩) hr (Conv.mk (tau []) ⟨⟨_,rfl,.inl rfl⟩,⟨_,rfl,.inl rfl⟩,⟨_,rfl,.inl rfl⟩,⟨_,rfl,.inl rfl⟩,⟨_,rfl,.inl rfl⟩,⟨_,rfl,.inl rfl⟩,trivial⟩ ⟨rfl,rfl,trivial⟩ rfl rfl rfl rfl) ?_)
 clear hr
 intro again21 s20 hr
 unfold r14_shaped_L2 at hr
 refine Ok.seq (Ok.seq (Ok.region (OkOps.y (aI s20.2) (OkOps.y (.c (.loc 2 6)) (OkOps.y (.c (.d (.sl (List.map (eInt .i64) x15.Kids)))) (OkOps.q (triLen (enc:=(eInt .i64)) x15.Kids rfl rfl trivial rfl) (OkOps.y (aB (decide (s20.2 < (x15.Kids.length : Int)))) (OkOps.nil ?_))))))))
 refine Ok.cond (b:=decide (s20.2 < (x15.Kids.length : Int))) rfl (fun h22=>?_) (fun h22=>?_)
 have hr:=selT h22 hr
 refine Ok.skip ?_
 obtain ⟨k24,hk24,hr⟩:=jn_some hr
 refine Ok.join (fun (s23 : Unit)=>⟨[(1,.s (.c (.loc 0 0))),(5,.s (aI x4)),(6,.s (aI (IntKind.i64.wrap (s20.1 + 1)))),(7,.s (aI s10.2)),(8,.s (.c (.loc 2 0))),(9,.s (aI s20.2))],[(0,.blk [cI t.Root,cI t.Next,.d (.sl (List.map Node.cs t.Nodes))] 27),(2,.blk [cI x15.ID,cI x15.Parent,cI x15.Kind,cS x15.Key,.d (.sl (List.map Attr.cs x15.Attrs)),.d (.sl (List.map Action.cs x15.Actions)),.d (.sl (List.map (eInt .i64) x15.Kids))] 33)],0⟩) k24 r (fun s23 hr=>?_) ?_
 rw [hk24] at hr
 refine Ok.region (OkOps.y (aI s20.2) (OkOps.y (aI (IntKind.i64.wrap (s20.2 + 1))) (OkOps.y (aI (IntKind.i64.wrap (s20.2 + 1))) (OkOps.nil ?_))))
 exact ⟨(IntKind.i64.wrap (s20.1 + 1),IntKind.i64.wrap (s20.2 + 1)),hr,(Conv.mk (tau []) ⟨⟨_,rfl,.inl rfl⟩,⟨_,rfl,.inl rfl⟩,⟨_,rfl,.inl rfl⟩,⟨_,rfl,.inl rfl⟩,⟨_,rfl,.inl rfl⟩,⟨_,rfl,.inl rfl⟩,trivial⟩ ⟨rfl,rfl,trivial⟩ rfl rfl rfl rfl)⟩
 clear hk24
 refine Ok.block (Ok.seq (Ok.regionD (by kernel_rfl) (OkD.x (.agg [cI t.Root,cI t.Next,.d (.sl (List.map Node.cs t.Nodes))]) rfl trivial rfl (OkD.x (.c (.loc 2 6)) rfl trivial rfl (OkD.x (.c (.d (.sl (List.map (eInt .i64) x15.Kids)))) rfl trivial rfl (OkD.x (aI s20.2) rfl trivial rfl ?_))))))
 obtain ⟨x25,hx25,hr⟩:=bind_some hr
 refine OkD.q (triIdx (enc:=(eInt .i64)) (L:=x15.Kids) (row:=[dI x25]) hx25 rfl rfl rfl rfl (fun _=>rfl) trivial rfl) (OkD.x (aI x25) rfl trivial rfl ?_)
 obtain ⟨x26,hx26,hr⟩:=bind_some hr
 refine OkD.q (triCl (tau []) (.s (aI x26)) [] (r14_Index_c _ _ hx26) rfl ⟨.inl rfl,.inl rfl,trivial⟩ trivial entry15 trivial) (OkD.x (aI x26) rfl trivial rfl (OkD.nil (by kernel_rfl) (Ok.seq (Ok.seq (Ok.regionD (by kernel_rfl) (OkD.x (aI x26) rfl trivial rfl (OkD.x (aB (decide (x26 < 0))) rfl trivial rfl (OkD.x (aB (decide (x26 < 0))) rfl trivial rfl (OkD.q (triQG (x:=.c (.loc 0 2)) rfl rfl trivial rfl) (OkD.q (triQG (x:=.c (.d (.sl (List.map Node.cs t.Nodes)))) rfl rfl ⟨fun h=>h,trivial⟩ rfl) (OkD.q (triQG (x:=aI x26) rfl rfl trivial rfl) ?_)))))))))))
 obtain ⟨x27,hx27,hr⟩:=bind_some hr
 refine OkD.q (triIdxG (enc:=Node.cs) (L:=t.Nodes) (row:=[dI x27.ID,dI x27.Parent,dI x27.Kind,dS x27.Key,.sl (List.map Attr.cs x27.Attrs),.sl (List.map Action.cs x27.Actions),.sl (List.map (eInt .i64) x27.Kids)]) (gO_t hx27) rfl rfl rfl rfl rfl (fun _=>rfl) ⟨fun h=>h,⟨fun h=>h,trivial⟩⟩ rfl) (OkD.q (triQG (x:=.c (.pt [dI x27.Parent,dI x27.Kind,dS x27.Key,.sl (List.map Attr.cs x27.Attrs),.sl (List.map Action.cs x27.Actions),.sl (List.map (eInt .i64) x27.Kids)])) rfl rfl ⟨fun h=>h,trivial⟩ rfl) (OkD.q (triQG (x:=aI x27.Parent) rfl rfl ⟨fun h=>h,trivial⟩ rfl) (OkD.q (triQG (x:=.c (.loc 2 0)) rfl rfl trivial rfl) (OkD.q (triQG (x:=aI x15.ID) rfl rfl ⟨fun h=>h,trivial⟩ rfl) (OkD.q (triQG (x:=aB (x27.Parent != x15.ID)) rfl rfl ⟨fun h=>h,⟨fun h=>h,trivial⟩⟩ rfl) ?_)))))
 refine OkD.q (triOr rfl rfl (fun h=>by rw [h];rfl) rfl) ?_
 refine OkD.nil (by kernel_rfl) ?_
 refine Ok.cond (b:=(decide (x26 < 0)) || (x27.Parent != x15.ID)) rfl (fun h28=>?_) (fun h28=>?_)
 have hr:=selT h28 hr
 refine Ok.seq (Ok.region (OkOps.y (aB false) (OkOps.nil (Ok.ret ?_))))
 obtain rfl:=Option.some.inj hr
 exact ⟨_,rfl,.inl rfl,trivial⟩
 have hr:=selF h28 hr
 refine Ok.skip ?_
 obtain ⟨k30,hk30,hr⟩:=jn_some hr
 refine Ok.join (fun (s29 : Unit)=>⟨[(1,.s (.c (.loc 0 0))),(5,.s (aI x4)),(6,.s (aI s20.1)),(7,.s (aI s10.2)),(8,.s (.c (.loc 2 0))),(9,.s (aI s20.2))],[(0,.blk [cI t.Root,cI t.Next,.d (.sl (List.map Node.cs t.Nodes))] 27),(2,.blk [cI x15.ID,cI x15.Parent,cI x15.Kind,cS x15.Key,.d (.sl (List.map Attr.cs x15.Attrs)),.d (.sl (List.map Action.cs x15.Actions)),.d (.sl (List.map (eInt .i64) x15.Kids))] 33)],0⟩) k30 r (fun s29 hr=>?_) ?_
 rw [hk30] at hr
 refine Ok.region (OkOps.y (aI s20.1) (OkOps.y (aI (IntKind.i64.wrap (s20.1 + 1))) (OkOps.y (aI (IntKind.i64.wrap (s20.1 + 1))) (OkOps.nil ?_))))
 exact ⟨(),hr,(Conv.mk (tau []) ⟨⟨_,rfl,.inl rfl⟩,⟨_,rfl,.inl rfl⟩,⟨_,rfl,.inl rfl⟩,⟨_,rfl,.inl rfl⟩,⟨_,rfl,.inl rfl⟩,⟨_,rfl,.inl rfl⟩,trivial⟩ ⟨rfl,rfl,trivial⟩ rfl rfl rfl rfl)⟩
 clear hk30
 refine Ok.seq (Ok.region (OkOps.y (aI 0) (OkOps.nil (Ok.block (Ok.loopK (fun (s31 : Int)=>⟨[(1,.s (.c (.loc 0 0))),(5,.s (aI x4)),(6,.s (aI s20.1)),(7,.s (aI s10.2)),(8,.s (.c (.loc 2 0))),(9,.s (aI s20.2)),(11,.s (aI s31))],[(0,.blk [cI t.Root,cI t.Next,.d (.sl (List.map Node.cs t.Nodes))] 27),(2,.blk [cI x15.ID,cI x15.Parent,cI x15.Kind,cS x15.Key,.d (.sl (List.map Attr.cs x15.Attrs)),.d (.sl (List.map Action.cs x15.Actions)),.d (.sl (List.map (eInt .i64) x15.Kids))] 33)],0⟩) hr (Conv.mk (tau []) ⟨⟨_,rfl,.inl rfl⟩,⟨_,rfl,.inl rfl⟩,⟨_,rfl,.inl rfl⟩,⟨_,rfl,.inl rfl⟩,⟨_,rfl,.inl rfl⟩,⟨_,rfl,.inl rfl⟩,⟨_,rfl,.inl rfl⟩,trivial⟩ ⟨rfl,rfl,trivial⟩ rfl rfl rfl rfl) ?_)))))
 clear hr
 intro again32 s31 hr
 unfold r14_shaped_L1 at hr
 refine Ok.seq (Ok.seq (Ok.region (OkOps.y (aI s31) (OkOps.y (aI s20.2) (OkOps.y (aB (decide (s31 < s20.2))) (OkOps.nil ?_))))))
 refine Ok.cond (b:=decide (s31 < s20.2)) rfl (fun h33=>?_) (fun h33=>?_)
 have hr:=selT h33 hr
 refine Ok.skip (Ok.seq (Ok.block (Ok.seq (Ok.regionD (by kernel_rfl) (OkD.x (.c (.loc 2 6)) rfl trivial rfl (OkD.x (.c (.d (.sl (List.map (eInt .i64) x15.Kids)))) rfl trivial rfl (OkD.x (aI s31) rfl trivial rfl ?_)))))))
 obtain ⟨x34,hx34,hr⟩:=bind_some hr
 refine OkD.q (triIdx (enc:=(eInt .i64)) (L:=x15.Kids) (row:=[dI x34]) hx34 rfl rfl rfl rfl (fun _=>rfl) trivial rfl) (OkD.x (aI x34) rfl trivial rfl (OkD.x (.c (.loc 2 6)) rfl trivial rfl (OkD.x (.c (.d (.sl (List.map (eInt .i64) x15.Kids)))) rfl trivial rfl (OkD.x (aI s20.2) rfl trivial rfl ?_))))
 obtain ⟨x35,hx35,hr⟩:=bind_some hr
 refine OkD.q (triIdx (enc:=(eInt .i64)) (L:=x15.Kids) (row:=[dI x35]) hx35 rfl rfl rfl rfl (fun _=>rfl) trivial rfl) (OkD.x (aI x35) rfl trivial rfl (OkD.x (aB (x34 == x35)) rfl trivial rfl (OkD.nil (by kernel_rfl) ?_)))
 refine Ok.cond (b:=x34 == x35) rfl (fun h36=>?_) (fun h36=>?_)
 have hr:=selT h36 hr
 refine Ok.seq (Ok.region (OkOps.y (aB false) (OkOps.nil (Ok.ret ?_))))
 obtain rfl:=Option.some.inj hr
 exact ⟨_,rfl,.inl rfl,trivial⟩
 have hr:=selF h36 hr
 refine Ok.skip (Ok.region (OkOps.y (aI s31) (OkOps.y (aI (IntKind.i64.wrap (s31 + 1))) (OkOps.y (aI (IntKind.i64.wrap (s31 + 1))) (OkOps.nil ?_)))))
 exact ⟨IntKind.i64.wrap (s31 + 1),hr,(Conv.mk (tau []) ⟨⟨_,rfl,.inl rfl⟩,⟨_,rfl,.inl rfl⟩,⟨_,rfl,.inl rfl⟩,⟨_,rfl,.inl rfl⟩,⟨_,rfl,.inl rfl⟩,⟨_,rfl,.inl rfl⟩,⟨_,rfl,.inl rfl⟩,trivial⟩ ⟨rfl,rfl,trivial⟩ rfl rfl rfl rfl)⟩
 have hr:=selF h33 hr
 refine Ok.exit ?_
 exact ⟨(),hr,(Conv.mk (tau []) ⟨⟨_,rfl,.inl rfl⟩,⟨_,rfl,.inl rfl⟩,⟨_,rfl,.inl rfl⟩,⟨_,rfl,.inl rfl⟩,⟨_,rfl,.inl rfl⟩,⟨_,rfl,.inl rfl⟩,trivial⟩ ⟨rfl,rfl,trivial⟩ rfl rfl rfl rfl)⟩
 have hr:=selF h22 hr
 refine Ok.exit ?_
 exact ⟨s20.1,hr,(Conv.mk (tau []) ⟨⟨_,rfl,.inl rfl⟩,⟨_,rfl,.inl rfl⟩,⟨_,rfl,.inl rfl⟩,⟨_,rfl,.inl rfl⟩,trivial⟩ ⟨rfl,trivial⟩ rfl rfl rfl rfl)⟩
 have hr:=selF h12 hr
 refine Ok.exit ?_
 exact ⟨s10.1,hr,(Conv.mk (tau []) ⟨⟨_,rfl,.inl rfl⟩,⟨_,rfl,.inl rfl⟩,trivial⟩ ⟨rfl,trivial⟩ rfl rfl rfl rfl)⟩
 clear hk3
 refine Ok.seq (Ok.region (OkOps.y (aI 0) (OkOps.nil (Ok.block (Ok.loopK (fun (s37 : Int × Int)=>⟨[(1,.s (.c (.loc 0 0))),(3,.s (aI s37.1)),(4,.s (aI s37.2))],[(0,.blk [cI t.Root,cI t.Next,.d (.sl (List.map Node.cs t.Nodes))] 27)],0⟩) hr (Conv.mk (tau []) ⟨⟨_,rfl,.inl rfl⟩,⟨_,rfl,.inl rfl⟩,⟨_,rfl,.inl rfl⟩,trivial⟩ ⟨rfl,trivial⟩ rfl rfl rfl rfl) ?_)))))
 clear hr
 intro again38 s37 hr
 unfold r14_shaped_L4 at hr
 refine Ok.seq (Ok.seq (Ok.region (OkOps.y (aI s37.2) (OkOps.y (.c (.loc 0 2)) (OkOps.y (.c (.d (.sl (List.map Node.cs t.Nodes)))) (OkOps.q (triLen (enc:=Node.cs) t.Nodes rfl rfl trivial rfl) (OkOps.y (aB (decide (s37.2 < (t.Nodes.length : Int)))) (OkOps.nil ?_))))))))
 refine Ok.cond (b:=decide (s37.2 < (t.Nodes.length : Int))) rfl (fun h39=>?_) (fun h39=>?_)
 have hr:=selT h39 hr
 refine Ok.skip (Ok.seq (Ok.block (Ok.seq (Ok.seq (Ok.regionD (by kernel_rfl) (OkD.x (.c (.loc 0 2)) rfl trivial rfl (OkD.x (.c (.d (.sl (List.map Node.cs t.Nodes)))) rfl trivial rfl (OkD.x (aI s37.2) rfl trivial rfl ?_))))))))
 obtain ⟨x40,hx40,hr⟩:=bind_some hr
 refine OkD.q (triIdx (enc:=Node.cs) (L:=t.Nodes) (row:=[dI x40.ID,dI x40.Parent,dI x40.Kind,dS x40.Key,.sl (List.map Attr.cs x40.Attrs),.sl (List.map Action.cs x40.Actions),.sl (List.map (eInt .i64) x40.Kids)]) hx40 rfl rfl rfl rfl (fun _=>rfl) trivial rfl) (OkD.x (.c (.pt [dI x40.ID,dI x40.Parent,dI x40.Kind,dS x40.Key,.sl (List.map Attr.cs x40.Attrs),.sl (List.map Action.cs x40.Actions),.sl (List.map (eInt .i64) x40.Kids)])) rfl trivial rfl (OkD.x (aI x40.ID) rfl trivial rfl (OkD.x (aI s37.1) rfl trivial rfl (OkD.x (aB (decide (x40.ID ≤ s37.1))) rfl trivial rfl (OkD.x (aB (decide (x40.ID ≤ s37.1))) rfl trivial rfl (OkD.q (triQG (x:=.c (.loc 0 2)) rfl rfl trivial rfl) (OkD.q (triQG (x:=.c (.d (.sl (List.map Node.cs t.Nodes)))) rfl rfl ⟨fun h=>h,trivial⟩ rfl) (OkD.q (triQG (x:=aI s37.2) rfl rfl trivial rfl) ?_))))))))
 obtain ⟨x41,hx41,hr⟩:=bind_some hr
 refine OkD.q (triIdxG (enc:=Node.cs) (L:=t.Nodes) (row:=[dI x41.ID,dI x41.Parent,dI x41.Kind,dS x41.Key,.sl (List.map Attr.cs x41.Attrs),.sl (List.map Action.cs x41.Actions),.sl (List.map (eInt .i64) x41.Kids)]) (gO_t hx41) rfl rfl rfl rfl rfl (fun _=>rfl) ⟨fun h=>h,⟨fun h=>h,trivial⟩⟩ rfl) (OkD.q (triQG (x:=.c (.pt [dI x41.ID,dI x41.Parent,dI x41.Kind,dS x41.Key,.sl (List.map Attr.cs x41.Attrs),.sl (List.map Action.cs x41.Actions),.sl (List.map (eInt .i64) x41.Kids)])) rfl rfl ⟨fun h=>h,trivial⟩ rfl) (OkD.q (triQG (x:=aI x41.ID) rfl rfl ⟨fun h=>h,trivial⟩ rfl) (OkD.q (triQG (x:=.c (.loc 0 1)) rfl rfl trivial rfl) (OkD.q (triQG (x:=aI t.Next) rfl rfl ⟨fun h=>h,trivial⟩ rfl) (OkD.q (triQG (x:=aB (decide (x41.ID ≥ t.Next))) rfl rfl ⟨fun h=>h,⟨fun h=>h,trivial⟩⟩ rfl) ?_)))))
 refine OkD.q (triOr rfl rfl (fun h=>by rw [h];rfl) rfl) ?_
 refine OkD.nil (by kernel_rfl) ?_
 refine Ok.cond (b:=(decide (x40.ID ≤ s37.1)) || (decide (x41.ID ≥ t.Next))) rfl (fun h42=>?_) (fun h42=>?_)
 have hr:=selT h42 hr
 refine Ok.seq (Ok.region (OkOps.y (aB false) (OkOps.nil (Ok.ret ?_))))
 obtain rfl:=Option.some.inj hr
 exact ⟨_,rfl,.inl rfl,trivial⟩
 have hr:=selF h42 hr
 refine Ok.skip (Ok.region (OkOps.y (.c (.loc 0 2)) (OkOps.y (.c (.d (.sl (List.map Node.cs t.Nodes)))) (OkOps.y (aI s37.2) ?_))))
 obtain ⟨x43,hx43,hr⟩:=bind_some hr
 refine OkOps.q (triIdx (enc:=Node.cs) (L:=t.Nodes) (row:=[dI x43.ID,dI x43.Parent,dI x43.Kind,dS x43.Key,.sl (List.map Attr.cs x43.Attrs),.sl (List.map Action.cs x43.Actions),.sl (List.map (eInt .i64) x43.Kids)]) hx43 rfl rfl rfl rfl (fun _=>rfl) trivial rfl) (OkOps.y (.c (.pt [dI x43.ID,dI x43.Parent,dI x43.Kind,dS x43.Key,.sl (List.map Attr.cs x43.Attrs),.sl (List.map Action.cs x43.Actions),.sl (List.map (eInt .i64) x43.Kids)])) (OkOps.y (aI x43.ID) (OkOps.y (aI x43.ID) (OkOps.nil (Ok.region (OkOps.y (aI s37.2) (OkOps.y (aI (IntKind.i64.wrap (s37.2 + 1))) (OkOps.y (aI (IntKind.i64.wrap (s37.2 + 1))) (OkOps.nil ?_)))))))))
 exact ⟨(x43.ID,IntKind.i64.wrap (s37.2 + 1)),hr,(Conv.mk (tau []) ⟨⟨_,rfl,.inl rfl⟩,⟨_,rfl,.inl rfl⟩,⟨_,rfl,.inl rfl⟩,trivial⟩ ⟨rfl,trivial⟩ rfl rfl rfl rfl)⟩
 have hr:=selF h39 hr
 refine Ok.exit ?_
 exact ⟨(),hr,(Conv.mk (tau []) ⟨⟨_,rfl,.inl rfl⟩,trivial⟩ ⟨rfl,trivial⟩ rfl rfl rfl rfl)⟩
theorem entry37 : Entry Tryz.prog 37:=⟨_,Tryz.func37,by kernel_rfl,by kernel_rfl⟩
theorem entry34 : Entry Tryz.prog 34:=⟨_,Tryz.func34,by kernel_rfl,by kernel_rfl⟩
theorem r14_describe_B_c (self0 : Tree → Int → Option View) (hself0 : ∀ (t : Tree) (id : Int) {r : View},self0 t id = some r → Con Tryz.prog 34 [.agg [cI t.Root,cI t.Next,.d (.sl (List.map Node.cs t.Nodes))],aI id] [] (.s (.agg [cI r.Kind,cS r.Key,.d (.sl (List.map Attr.cs r.Attrs)),.d (.sl (List.map Action.cs r.Actions)),.d (.sl (List.map View.cs r.Kids))])) []) (t : Tree) (id : Int) {r : View} (hr : r14_describe_B self0 t id = some r) : Con Tryz.prog 34 [.agg [cI t.Root,cI t.Next,.d (.sl (List.map Node.cs t.Nodes))],aI id] [] (.s (.agg [cI r.Kind,cS r.Key,.d (.sl (List.map Attr.cs r.Attrs)),.d (.sl (List.map Action.cs r.Actions)),.d (.sl (List.map View.cs r.Kids))])) []:=by
 unfold r14_describe_B at hr
 refine Con.of_ok 40 0 [.cell 4 46] [(0,.s (.agg [cI t.Root,cI t.Next,.d (.sl (List.map Node.cs t.Nodes))])),(1,.s (aI id))] Tryz.func34 rfl rfl rfl rfl rfl rfl rfl rfl fun w g M ρ _=>(Ok.seq (Ok.region (OkOps.m 0 (triBox (j:=0) (cs:=[cI t.Root,cI t.Next,.d (.sl (List.map Node.cs t.Nodes))]) rfl rfl rfl rfl rfl) (OkOps.m 0 (triAlloc (j:=1) (cs:=[cI 0,cS ByteArray.empty,.d (.v (.slice none 0 0)),.d (.v (.slice none 0 0)),.d (.v (.slice none 0 0))]) rfl rfl rfl rfl) (OkOps.nil (Ok.seq (Ok.region (OkOps.y (.agg [cI t.Root,cI t.Next,.d (.sl (List.map Node.cs t.Nodes))]) (OkOps.y (aI id) ?_)))))))))
 obtain ⟨x1,hx1,hr⟩:=bind_some hr
 refine OkOps.q (triCl (tau []) (.s (.agg [cI x1.ID,cI x1.Parent,cI x1.Kind,cS x1.Key,.d (.sl (List.map Attr.cs x1.Attrs)),.d (.sl (List.map Action.cs x1.Actions)),.d (.sl (List.map (eInt .i64) x1.Kids))])) [] (r14_Node_c _ _ hx1) rfl ⟨.inl rfl,.inl rfl,trivial⟩ trivial entry46 trivial) (OkOps.m 0 (triAlloc (j:=2) (cs:=[cI 0,cI 0,cI 0,cS ByteArray.empty,.d (.v (.slice none 0 0)),.d (.v (.slice none 0 0)),.d (.v (.slice none 0 0))]) rfl rfl rfl rfl) (OkOps.w (triStore (cs':=[cI x1.ID,cI x1.Parent,cI x1.Kind,cS x1.Key,.d (.sl (List.map Attr.cs x1.Attrs)),.d (.sl (List.map Action.cs x1.Actions)),.d (.sl (List.map (eInt .i64) x1.Kids))]) rfl rfl rfl rfl rfl rfl rfl rfl rfl) (OkOps.nil (Ok.seq (Ok.region (OkOps.y (.c (.loc 2 2)) (OkOps.y (aI x1.Kind) (OkOps.y (.c (.loc 2 3)) (OkOps.y (aS x1.Key) (OkOps.y (.c (.loc 2 4)) (OkOps.y (.c (.d (.sl (List.map Attr.cs x1.Attrs)))) (OkOps.y (.c (.loc 2 5)) (OkOps.y (.c (.d (.sl (List.map Action.cs x1.Actions)))) (OkOps.y (.agg [cI x1.Kind,cS x1.Key,.d (.sl (List.map Attr.cs x1.Attrs)),.d (.sl (List.map Action.cs x1.Actions)),.d (.v (.slice none 0 0))]) (OkOps.m 0 (triAlloc (j:=3) (cs:=[cI 0,cS ByteArray.empty,.d (.v (.slice none 0 0)),.d (.v (.slice none 0 0)),.d (.v (.slice none 0 0))]) rfl rfl rfl rfl) ?_)))))))))))))))
 refine OkOps.w (triStore (cs':=[cI x1.Kind,cS x1.Key,.d (.sl (List.map Attr.cs x1.Attrs)),.d (.sl (List.map Action.cs x1.Actions)),.d (.v (.slice none 0 0))]) rfl rfl rfl rfl rfl rfl rfl rfl rfl) (OkOps.nil ?_)
 obtain ⟨k3,hk3,hr⟩:=jn_some hr
 refine Ok.join (fun (s2 : (List View))=>⟨[(4,.s (.c (.loc 1 0))),(6,.s (.c (.loc 3 0)))],[(1,.blk [cI 0,cS ByteArray.empty,.d (.v (.slice none 0 0)),.d (.v (.slice none 0 0)),.d (.v (.slice none 0 0))] 46),(3,.blk [cI x1.Kind,cS x1.Key,.d (.sl (List.map Attr.cs x1.Attrs)),.d (.sl (List.map Action.cs x1.Actions)),.tl 1004 (List.map View.cs s2)] 46),(1004,.tail 5)],0⟩) k3 r (fun s2 hr=>?_) ?_
 rw [hk3] at hr
 refine Ok.seq (Ok.region (OkOps.y (.agg [cI x1.Kind,cS x1.Key,.d (.sl (List.map Attr.cs x1.Attrs)),.d (.sl (List.map Action.cs x1.Actions)),.tl 1004 (List.map View.cs s2)]) (OkOps.w (triStore (cs':=[cI x1.Kind,cS x1.Key,.d (.sl (List.map Attr.cs x1.Attrs)),.d (.sl (List.map Action.cs x1.Actions)),.tl 1004 (List.map View.cs s2)]) rfl rfl rfl rfl rfl rfl rfl rfl rfl) (OkOps.nil (Ok.ret ?_)))))
 obtain rfl:=Option.some.inj hr
 exact ⟨_,rfl,.inr rfl,trivial⟩
 clear hk3
 refine Ok.seq (Ok.region (OkOps.y (aI 0) (OkOps.nil (Ok.block (Ok.loopK (fun (s4 : Int × (List View))=>⟨[(2,.s (.c (.loc 0 0))),(4,.s (.c (.loc 1 0))),(5,.s (.c (.loc 2 0))),(6,.s (.c (.loc 3 0))),(7,.s (aI s4.1))],[(0,.blk [cI t.Root,cI t.Next,.d (.sl (List.map Node.cs t.Nodes))] 27),(1,.blk [cI 0,cS ByteArray.empty,.d (.v (.slice none 0 0)),.d (.v (.slice none 0 0)),.d (.v (.slice none 0 0))] 46),(2,.blk [cI x1.ID,cI x1.Parent,cI x1.Kind,cS x1.Key,.d (.sl (List.map Attr.cs x1.Attrs)),.d (.sl (List.map Action.cs x1.Actions)),.d (.sl (List.map (eInt .i64) x1.Kids))] 33),(3,.blk [cI x1.Kind,cS x1.Key,.d (.sl (List.map Attr.cs x1.Attrs)),.d (.sl (List.map Action.cs x1.Actions)),.tl 1007 (List.map View.cs s4.2)] 46),(1007,.tail 5)],0⟩) hr (Conv.trans (Conv.nilO 3 4 1009 5 [cI x1.Kind,cS x1.Key,.d (.sl (List.map Attr.cs x1.Attrs)),.d (.sl (List.map Action.cs x1.Actions)),.d (.v (.slice none 0 0))] [cI x1.Kind,cS x1.Key,.d (.sl (List.map Attr.cs x1.Attrs)),.d (.sl (List.map Action.cs x1.Actions)),.tl 1009 (List.map View.cs ([] : (List View)))] 46 0 rfl rfl rfl rfl) (Conv.mk (tau [(1007,1009)]) ⟨⟨_,rfl,.inl rfl⟩,⟨_,rfl,.inl rfl⟩,⟨_,rfl,.inl rfl⟩,⟨_,rfl,.inl rfl⟩,⟨_,rfl,.inl rfl⟩,trivial⟩ ⟨rfl,rfl,rfl,rfl,rfl,trivial⟩ rfl rfl rfl rfl)) ?_)))))
 clear hr
 intro again5 s4 hr
 unfold r14_describe_L1 at hr
 refine Ok.seq (Ok.seq (Ok.region (OkOps.y (aI s4.1) (OkOps.y (.c (.loc 2 6)) (OkOps.y (.c (.d (.sl (List.map (eInt .i64) x1.Kids)))) (OkOps.q (triLen (enc:=(eInt .i64)) x1.Kids rfl rfl trivial rfl) (OkOps.y (aB (decide (s4.1 < (x1.Kids.length : Int)))) (OkOps.nil ?_))))))))
 refine Ok.cond (b:=decide (s4.1 < (x1.Kids.length : Int))) rfl (fun h6=>?_) (fun h6=>?_)
 have hr:=selT h6 hr
 refine Ok.skip (Ok.seq (Ok.block (Ok.regionD (by kernel_rfl) (OkD.x (.c (.loc 3 4)) rfl trivial rfl (OkD.x (.c (.tl 1007 (List.map View.cs s4.2))) rfl trivial rfl (OkD.x (.agg [cI t.Root,cI t.Next,.d (.sl (List.map Node.cs t.Nodes))]) rfl trivial rfl (OkD.x (.c (.loc 2 6)) rfl trivial rfl (OkD.x (.c (.d (.sl (List.map (eInt .i64) x1.Kids)))) rfl trivial rfl (OkD.x (aI s4.1) rfl trivial rfl ?_)))))))))
 obtain ⟨x7,hx7,hr⟩:=bind_some hr
 refine OkD.q (triIdx (enc:=(eInt .i64)) (L:=x1.Kids) (row:=[dI x7]) hx7 rfl rfl rfl rfl (fun _=>rfl) trivial rfl) (OkD.x (aI x7) rfl trivial rfl ?_)
 obtain ⟨x8,hx8,hr⟩:=bind_some hr
 refine OkD.q (triCl (tau []) (.s (.agg [cI x8.Kind,cS x8.Key,.d (.sl (List.map Attr.cs x8.Attrs)),.d (.sl (List.map Action.cs x8.Actions)),.d (.sl (List.map View.cs x8.Kids))])) [] (hself0 _ _ hx8) rfl ⟨.inl rfl,.inl rfl,trivial⟩ trivial entry34 trivial) ?_
 refine OkD.m 0 (triBST (sz:=5) (enc:=View.cs) (j:=4) ([x8]) rfl rfl rfl rfl rfl (rows:=[[dI x8.Kind,dS x8.Key,.sl (List.map Attr.cs x8.Attrs),.sl (List.map Action.cs x8.Actions),.sl (List.map View.cs x8.Kids)]]) (by simp only [List.map,View.cs_eq]) rfl rfl (fun x=>by rw [View.cs_eq];rfl) trivial rfl rfl) ?_
 obtain ⟨x9,hx9,hr⟩:=bind_some hr
 refine OkD.m2 0 (triApp (enc:=View.cs) (L:=s4.2) (X:=[x8]) (j:=1007) (j':=5) hx9 rfl rfl rfl rfl rfl rfl (fun x=>by rw [View.cs_eq];rfl) (fun x=>by rw [View.cs_eq];rfl) (by decide) trivial rfl rfl) ?_
 refine OkD.x (.c (.loc 3 4)) rfl trivial rfl (OkD.w (triStore (cs':=[cI x1.Kind,cS x1.Key,.d (.sl (List.map Attr.cs x1.Attrs)),.d (.sl (List.map Action.cs x1.Actions)),.tl 5 (List.map View.cs x9)]) rfl rfl rfl rfl rfl rfl rfl rfl rfl) (OkD.nil (by kernel_rfl) (Ok.region (OkOps.y (aI s4.1) (OkOps.y (aI (IntKind.i64.wrap (s4.1 + 1))) (OkOps.y (aI (IntKind.i64.wrap (s4.1 + 1))) (OkOps.nil ?_)))))))
 exact ⟨(IntKind.i64.wrap (s4.1 + 1),x9),hr,(Conv.mk (tau [(1007,5)]) ⟨⟨_,rfl,.inl rfl⟩,⟨_,rfl,.inl rfl⟩,⟨_,rfl,.inl rfl⟩,⟨_,rfl,.inl rfl⟩,⟨_,rfl,.inl rfl⟩,trivial⟩ ⟨rfl,rfl,rfl,rfl,rfl,trivial⟩ rfl rfl rfl rfl)⟩
 have hr:=selF h6 hr
 refine Ok.exit ?_
 exact ⟨s4.2,hr,(Conv.mk (tau [(1004,1007)]) ⟨⟨_,rfl,.inl rfl⟩,⟨_,rfl,.inl rfl⟩,trivial⟩ ⟨rfl,rfl,rfl,trivial⟩ rfl rfl rfl rfl)⟩
theorem r14_describe_all : ∀ n : Nat,(∀ (t : Tree) (id : Int) {r : View},r14_describe n t id = some r → Con Tryz.prog 34 [.agg [cI t.Root,cI t.Next,.d (.sl (List.map Node.cs t.Nodes))],aI id] [] (.s (.agg [cI r.Kind,cS r.Key,.d (.sl (List.map Attr.cs r.Attrs)),.d (.sl (List.map Action.cs r.Actions)),.d (.sl (List.map View.cs r.Kids))])) []) ∧ True:=by
 intro n
 induction n with
 | zero=>exact ⟨(by intros;rename_i hr;cases hr),trivial⟩
 | succ n ih=>exact ⟨(by intros;rename_i hr;exact r14_describe_B_c _ ih.1 _ _ hr),trivial⟩
theorem r14_describe_c (n : Nat) (t : Tree) (id : Int) {r : View} (hr : r14_describe n t id = some r) : Con Tryz.prog 34 [.agg [cI t.Root,cI t.Next,.d (.sl (List.map Node.cs t.Nodes))],aI id] [] (.s (.agg [cI r.Kind,cS r.Key,.d (.sl (List.map Attr.cs r.Attrs)),.d (.sl (List.map Action.cs r.Actions)),.d (.sl (List.map View.cs r.Kids))])) []:=(r14_describe_all n).1 t id hr
theorem r14_Check_c (t : Tree) {r : Int} (hr : r14_Check t = some r) : Con Tryz.prog 17 [.agg [cI t.Root,cI t.Next,.d (.sl (List.map Node.cs t.Nodes))]] [] (.s (aI r)) []:=by
 unfold r14_Check at hr
 refine Con.of_ok 11 0 [.tmp 2] [(0,.s (.agg [cI t.Root,cI t.Next,.d (.sl (List.map Node.cs t.Nodes))]))] Tryz.func17 rfl rfl rfl rfl rfl rfl rfl rfl fun w g M ρ _=>(Ok.seq (Ok.region (OkOps.m 0 (triBox (j:=0) (cs:=[cI t.Root,cI t.Next,.d (.sl (List.map Node.cs t.Nodes))]) rfl rfl rfl rfl rfl) (OkOps.y (aI 0) (OkOps.nil (Ok.seq (Ok.seq (Ok.region (OkOps.y (.agg [cI t.Root,cI t.Next,.d (.sl (List.map Node.cs t.Nodes))]) ?_)))))))))
 obtain ⟨x1,hx1,hr⟩:=bind_some hr
 refine OkOps.q (triCl (tau []) (.s (aB x1)) [] (r14_shaped_c _ hx1) rfl ⟨.inl rfl,trivial⟩ trivial entry37 trivial) (OkOps.y (aB (!x1)) (OkOps.nil ?_))
 refine Ok.cond (b:=!x1) rfl (fun h2=>?_) (fun h2=>?_)
 have hr:=selT h2 hr
 refine Ok.seq (Ok.region (OkOps.y (aI 12) (OkOps.nil (Ok.ret ?_))))
 obtain rfl:=Option.some.inj hr
 exact ⟨_,rfl,.inl rfl,trivial⟩
 have hr:=selF h2 hr
 refine Ok.skip (Ok.seq (Ok.region (OkOps.y (.agg [cI t.Root,cI t.Next,.d (.sl (List.map Node.cs t.Nodes))]) (OkOps.y (.c (.loc 0 0)) (OkOps.y (aI t.Root) ?_)))))
 obtain ⟨x3,hx3,hr⟩:=bind_some hr
 refine OkOps.q (triCl (tau []) (.s (.agg [cI x3.Kind,cS x3.Key,.d (.sl (List.map Attr.cs x3.Attrs)),.d (.sl (List.map Action.cs x3.Actions)),.d (.sl (List.map View.cs x3.Kids))])) [] (r14_describe_c _ _ _ hx3) rfl ⟨.inl rfl,.inl rfl,trivial⟩ trivial entry34 trivial) ?_
 obtain ⟨x4,hx4,hr⟩:=bind_some hr
 refine OkOps.q (triCl (tau []) (.s (aI x4)) [] (r14_Validate_c _ hx4) rfl ⟨.inl rfl,trivial⟩ trivial entry29 trivial) (OkOps.y (aI x4) (OkOps.nil (Ok.ret ?_)))
 obtain rfl:=Option.some.inj hr
 exact ⟨_,rfl,.inl rfl,trivial⟩
theorem entry17 : Entry Tryz.prog 17:=⟨_,Tryz.func17,by kernel_rfl,by kernel_rfl⟩
theorem r14_Describe_c (t : Tree) {r : View × Int} (hr : r14_Describe t = some r) : Con Tryz.prog 13 [.agg [cI t.Root,cI t.Next,.d (.sl (List.map Node.cs t.Nodes))]] [] (.tup [.agg [cI r.1.Kind,cS r.1.Key,.d (.sl (List.map Attr.cs r.1.Attrs)),.d (.sl (List.map Action.cs r.1.Actions)),.d (.sl (List.map View.cs r.1.Kids))],aI r.2]) []:=by
 unfold r14_Describe at hr
 refine Con.of_ok 15 0 [.cell 2 46,.tmp 3] [(0,.s (.agg [cI t.Root,cI t.Next,.d (.sl (List.map Node.cs t.Nodes))]))] Tryz.func13 rfl rfl rfl rfl rfl rfl rfl rfl fun w g M ρ _=>(Ok.seq (Ok.region (OkOps.m 0 (triBox (j:=0) (cs:=[cI t.Root,cI t.Next,.d (.sl (List.map Node.cs t.Nodes))]) rfl rfl rfl rfl rfl) (OkOps.m 0 (triAlloc (j:=1) (cs:=[cI 0,cS ByteArray.empty,.d (.v (.slice none 0 0)),.d (.v (.slice none 0 0)),.d (.v (.slice none 0 0))]) rfl rfl rfl rfl) (OkOps.y (aI 0) (OkOps.nil (Ok.seq (Ok.seq (Ok.region (OkOps.y (.agg [cI t.Root,cI t.Next,.d (.sl (List.map Node.cs t.Nodes))]) ?_))))))))))
 obtain ⟨x1,hx1,hr⟩:=bind_some hr
 refine OkOps.q (triCl (tau []) (.s (aI x1)) [] (r14_Check_c _ hx1) rfl ⟨.inl rfl,trivial⟩ trivial entry17 trivial) (OkOps.y (aI x1) (OkOps.nil (Ok.seq (Ok.region (OkOps.y (aI x1) (OkOps.y (aB (x1 != 0)) (OkOps.nil ?_)))))))
 refine Ok.cond (b:=x1 != 0) rfl (fun h2=>?_) (fun h2=>?_)
 have hr:=selT h2 hr
 refine Ok.seq (Ok.region (OkOps.y (.agg [cI 0,cS ByteArray.empty,.d (.v (.slice none 0 0)),.d (.v (.slice none 0 0)),.d (.v (.slice none 0 0))]) (OkOps.y (aI x1) (OkOps.w (triStore (cs':=[cI 0,cS ByteArray.empty,.d (.v (.slice none 0 0)),.d (.v (.slice none 0 0)),.d (.v (.slice none 0 0))]) rfl rfl rfl rfl rfl rfl rfl rfl rfl) (OkOps.y (aI x1) (OkOps.nil (Ok.ret ?_)))))))
 obtain rfl:=Option.some.inj hr
 exact ⟨_,rfl,.inr rfl,trivial⟩
 have hr:=selF h2 hr
 refine Ok.skip (Ok.seq (Ok.region (OkOps.y (.agg [cI t.Root,cI t.Next,.d (.sl (List.map Node.cs t.Nodes))]) (OkOps.y (.c (.loc 0 0)) (OkOps.y (aI t.Root) ?_)))))
 obtain ⟨x3,hx3,hr⟩:=bind_some hr
 refine OkOps.q (triCl (tau []) (.s (.agg [cI x3.Kind,cS x3.Key,.d (.sl (List.map Attr.cs x3.Attrs)),.d (.sl (List.map Action.cs x3.Actions)),.d (.sl (List.map View.cs x3.Kids))])) [] (r14_describe_c _ _ _ hx3) rfl ⟨.inl rfl,.inl rfl,trivial⟩ trivial entry34 trivial) (OkOps.w (triStore (cs':=[cI x3.Kind,cS x3.Key,.d (.sl (List.map Attr.cs x3.Attrs)),.d (.sl (List.map Action.cs x3.Actions)),.d (.sl (List.map View.cs x3.Kids))]) rfl rfl rfl rfl rfl rfl rfl rfl rfl) (OkOps.y (aI 0) (OkOps.nil (Ok.ret ?_))))
 obtain rfl:=Option.some.inj hr
 exact ⟨_,rfl,.inl rfl,trivial⟩
theorem entry13 : Entry Tryz.prog 13:=⟨_,Tryz.func13,by kernel_rfl,by kernel_rfl⟩
theorem r14_Order_c (t : Tree) {r : (List Int)} (hr : r14_Order t = some r) : Con Tryz.prog 21 [.agg [cI t.Root,cI t.Next,.d (.sl (List.map Node.cs t.Nodes))]] [] (.s (.c (.d (.sl (List.map (eInt .i64) r))))) []:=by
 unfold r14_Order at hr
 refine Con.of_ok 10 0 [.tmp 2] [(0,.s (.agg [cI t.Root,cI t.Next,.d (.sl (List.map Node.cs t.Nodes))]))] Tryz.func21 rfl rfl rfl rfl rfl rfl rfl rfl fun w g M ρ _=>(Ok.seq (Ok.region (OkOps.m 0 (triBox (j:=0) (cs:=[cI t.Root,cI t.Next,.d (.sl (List.map Node.cs t.Nodes))]) rfl rfl rfl rfl rfl) (OkOps.y (.c (.d (.v (.slice none 0 0)))) (OkOps.nil (Ok.seq (Ok.seq (Ok.region (OkOps.y (.agg [cI t.Root,cI t.Next,.d (.sl (List.map Node.cs t.Nodes))]) ?_)))))))))
 obtain ⟨x1,hx1,hr⟩:=bind_some hr
 refine OkOps.q (triCl (tau []) (.s (aI x1)) [] (r14_Check_c _ hx1) rfl ⟨.inl rfl,trivial⟩ trivial entry17 trivial) (OkOps.y (aB (x1 != 0)) (OkOps.nil ?_))
 refine Ok.cond (b:=x1 != 0) rfl (fun h2=>?_) (fun h2=>?_)
 have hr:=selT h2 hr
 refine Ok.seq (Ok.region (OkOps.y (.c (.d (.v (.slice none 0 0)))) (OkOps.nil (Ok.ret ?_))))
 obtain rfl:=Option.some.inj hr
 exact ⟨_,rfl,.inr rfl,trivial⟩
 have hr:=selF h2 hr
 refine Ok.skip (Ok.seq (Ok.region (OkOps.y (.agg [cI t.Root,cI t.Next,.d (.sl (List.map Node.cs t.Nodes))]) (OkOps.y (.c (.loc 0 0)) (OkOps.y (aI t.Root) ?_)))))
 obtain ⟨x3,hx3,hr⟩:=bind_some hr
 refine OkOps.m 0 (triCall (tau [(2000,1)]) (.s (.c (.tl 1 (List.map (eInt .i64) x3)))) [(1,.tail 1)] (Con.nilArg (args':=[.agg [cI t.Root,cI t.Next,.d (.sl (List.map Node.cs t.Nodes))],aI t.Root,.c (.d (.v (.slice none 0 0)))]) 0 (r14_order_c _ _ _ _ hx3) ⟨.inl rfl,.inl rfl,.inr ⟨rfl,.inl rfl⟩,trivial⟩ rfl (nil_tail 1 0) rfl rfl rfl rfl rfl rfl rfl) rfl ⟨.inl rfl,.inl rfl,.inl rfl,trivial⟩ trivial entry42 trivial rfl rfl rfl rfl ⟨rfl,trivial⟩ rfl rfl rfl) (OkOps.y (.c (.tl 1 (List.map (eInt .i64) x3))) (OkOps.nil (Ok.ret ?_)))
 obtain rfl:=Option.some.inj hr
 exact ⟨_,rfl,.inr rfl,trivial⟩
theorem entry21 : Entry Tryz.prog 21:=⟨_,Tryz.func21,by kernel_rfl,by kernel_rfl⟩
end Go.Proofs.YtcfegecdlbbeaaaGreatDoor
end
section
set_option maxRecDepth 100000
namespace Go.Proofs.YtcfegecdlbbeaaaGreatDoor
open Go Go.E2
theorem entry44 : Entry Tryz.prog 44:=⟨_,Tryz.func44,by kernel_rfl,by kernel_rfl⟩
theorem r14_path_B_c (self0 : Tree → Int → Option (List Int)) (hself0 : ∀ (t : Tree) (id : Int) {r : (List Int)},self0 t id = some r → Con Tryz.prog 44 [.agg [cI t.Root,cI t.Next,.d (.sl (List.map Node.cs t.Nodes))],aI id] [] (.s (.c (.tl 2000 (List.map (eInt .i64) r)))) [(2000,.tail 1)]) (t : Tree) (id : Int) {r : (List Int)} (hr : r14_path_B self0 t id = some r) : Con Tryz.prog 44 [.agg [cI t.Root,cI t.Next,.d (.sl (List.map Node.cs t.Nodes))],aI id] [] (.s (.c (.tl 2000 (List.map (eInt .i64) r)))) [(2000,.tail 1)]:=by
 unfold r14_path_B at hr
 refine Con.of_ok 21 0 [.tmp 4] [(0,.s (.agg [cI t.Root,cI t.Next,.d (.sl (List.map Node.cs t.Nodes))])),(1,.s (aI id))] Tryz.func44 rfl rfl rfl rfl rfl rfl rfl rfl fun w g M ρ _=>(Ok.seq (Ok.region (OkOps.m 0 (triBox (j:=0) (cs:=[cI t.Root,cI t.Next,.d (.sl (List.map Node.cs t.Nodes))]) rfl rfl rfl rfl rfl) (OkOps.y (.c (.d (.v (.slice none 0 0)))) (OkOps.nil (Ok.seq (Ok.region (OkOps.y (.agg [cI t.Root,cI t.Next,.d (.sl (List.map Node.cs t.Nodes))]) (OkOps.y (aI id) ?_)))))))))
 obtain ⟨x1,hx1,hr⟩:=bind_some hr
 refine OkOps.q (triCl (tau []) (.s (.agg [cI x1.ID,cI x1.Parent,cI x1.Kind,cS x1.Key,.d (.sl (List.map Attr.cs x1.Attrs)),.d (.sl (List.map Action.cs x1.Actions)),.d (.sl (List.map (eInt .i64) x1.Kids))])) [] (r14_Node_c _ _ hx1) rfl ⟨.inl rfl,.inl rfl,trivial⟩ trivial entry46 trivial) (OkOps.m 0 (triAlloc (j:=1) (cs:=[cI 0,cI 0,cI 0,cS ByteArray.empty,.d (.v (.slice none 0 0)),.d (.v (.slice none 0 0)),.d (.v (.slice none 0 0))]) rfl rfl rfl rfl) (OkOps.w (triStore (cs':=[cI x1.ID,cI x1.Parent,cI x1.Kind,cS x1.Key,.d (.sl (List.map Attr.cs x1.Attrs)),.d (.sl (List.map Action.cs x1.Actions)),.d (.sl (List.map (eInt .i64) x1.Kids))]) rfl rfl rfl rfl rfl rfl rfl rfl rfl) (OkOps.nil (Ok.seq (Ok.seq (Ok.region (OkOps.y (.c (.loc 1 1)) (OkOps.y (aI x1.Parent) (OkOps.y (aB (x1.Parent == 0)) (OkOps.nil ?_))))))))))
 refine Ok.cond (b:=x1.Parent == 0) rfl (fun h2=>?_) (fun h2=>?_)
 have hr:=selT h2 hr
 refine Ok.seq (Ok.region (OkOps.y (aI id) (OkOps.m 0 (triBST (sz:=1) (enc:=(eInt .i64)) (j:=2) ([id]) rfl rfl rfl rfl rfl rfl rfl rfl (fun _=>rfl) trivial rfl rfl) (OkOps.y (.c (.tl 2 (List.map (eInt .i64) ([id])))) (OkOps.nil (Ok.conv (T:=⟨[(4,.s (.c (.tl 2000 (List.map (eInt .i64) ([id])))))],[(2000,.tail 1)],0⟩) (Conv.mk (tau [(2000,2)]) ⟨⟨_,rfl,.inl rfl⟩,trivial⟩ ⟨rfl,trivial⟩ rfl rfl rfl rfl) (Ok.ret ?_)))))))
 obtain rfl:=Option.some.inj hr
 exact ⟨_,rfl,.inl rfl,⟨rfl,trivial⟩⟩
 have hr:=selF h2 hr
 refine Ok.skip (Ok.seq (Ok.region (OkOps.y (.agg [cI t.Root,cI t.Next,.d (.sl (List.map Node.cs t.Nodes))]) (OkOps.y (.c (.loc 1 1)) (OkOps.y (aI x1.Parent) ?_)))))
 obtain ⟨x3,hx3,hr⟩:=bind_some hr
 refine OkOps.m 0 (triCall (tau [(2000,3)]) (.s (.c (.tl 3 (List.map (eInt .i64) x3)))) [(3,.tail 1)] (hself0 _ _ hx3) rfl ⟨.inl rfl,.inl rfl,trivial⟩ trivial entry44 trivial rfl rfl rfl rfl ⟨rfl,trivial⟩ rfl rfl rfl) (OkOps.y (aI id) (OkOps.m 0 (triBST (sz:=1) (enc:=(eInt .i64)) (j:=4) ([id]) rfl rfl rfl rfl rfl rfl rfl rfl (fun _=>rfl) trivial rfl rfl) ?_))
 obtain ⟨x4,hx4,hr⟩:=bind_some hr
 refine OkOps.m2 0 (triApp (enc:=(eInt .i64)) (L:=x3) (X:=[id]) (j:=3) (j':=5) hx4 rfl rfl rfl rfl rfl rfl (fun _=>rfl) (fun _=>rfl) (by decide) trivial rfl rfl) (OkOps.y (.c (.tl 5 (List.map (eInt .i64) x4))) (OkOps.nil (Ok.conv (T:=⟨[(4,.s (.c (.tl 2000 (List.map (eInt .i64) x4))))],[(2000,.tail 1)],0⟩) (Conv.mk (tau [(2000,5)]) ⟨⟨_,rfl,.inl rfl⟩,trivial⟩ ⟨rfl,trivial⟩ rfl rfl rfl rfl) (Ok.ret ?_))))
 obtain rfl:=Option.some.inj hr
 exact ⟨_,rfl,.inl rfl,⟨rfl,trivial⟩⟩
theorem r14_path_all : ∀ n : Nat,(∀ (t : Tree) (id : Int) {r : (List Int)},r14_path n t id = some r → Con Tryz.prog 44 [.agg [cI t.Root,cI t.Next,.d (.sl (List.map Node.cs t.Nodes))],aI id] [] (.s (.c (.tl 2000 (List.map (eInt .i64) r)))) [(2000,.tail 1)]) ∧ True:=by
 intro n
 induction n with
 | zero=>exact ⟨(by intros;rename_i hr;cases hr),trivial⟩
 | succ n ih=>exact ⟨(by intros;rename_i hr;exact r14_path_B_c _ ih.1 _ _ hr),trivial⟩
theorem r14_path_c (n : Nat) (t : Tree) (id : Int) {r : (List Int)} (hr : r14_path n t id = some r) : Con Tryz.prog 44 [.agg [cI t.Root,cI t.Next,.d (.sl (List.map Node.cs t.Nodes))],aI id] [] (.s (.c (.tl 2000 (List.map (eInt .i64) r)))) [(2000,.tail 1)]:=(r14_path_all n).1 t id hr
theorem r14_Path_c (t : Tree) (id : Int) {r : (List Int)} (hr : r14_Path t id = some r) : Con Tryz.prog 23 [.agg [cI t.Root,cI t.Next,.d (.sl (List.map Node.cs t.Nodes))],aI id] [] (.s (.c (.d (.sl (List.map (eInt .i64) r))))) []:=by
 unfold r14_Path at hr
 refine Con.of_ok 17 0 [.tmp 4] [(0,.s (.agg [cI t.Root,cI t.Next,.d (.sl (List.map Node.cs t.Nodes))])),(1,.s (aI id))] Tryz.func23 rfl rfl rfl rfl rfl rfl rfl rfl fun w g M ρ _=>(Ok.seq (Ok.region (OkOps.m 0 (triBox (j:=0) (cs:=[cI t.Root,cI t.Next,.d (.sl (List.map Node.cs t.Nodes))]) rfl rfl rfl rfl rfl) (OkOps.y (.c (.d (.v (.slice none 0 0)))) (OkOps.nil (Ok.seq (Ok.seq (Ok.region (OkOps.y (.agg [cI t.Root,cI t.Next,.d (.sl (List.map Node.cs t.Nodes))]) ?_)))))))))
 obtain ⟨x1,hx1,hr⟩:=bind_some hr
 refine OkOps.q (triCl (tau []) (.s (aI x1)) [] (r14_Check_c _ hx1) rfl ⟨.inl rfl,trivial⟩ trivial entry17 trivial) (OkOps.y (aB (x1 != 0)) (OkOps.y (aB (x1 != 0)) (OkOps.q (triQG (x:=.agg [cI t.Root,cI t.Next,.d (.sl (List.map Node.cs t.Nodes))]) rfl rfl trivial rfl) (OkOps.q (triQG (x:=aI id) rfl rfl trivial rfl) ?_))))
 obtain ⟨x2,hx2,hr⟩:=bind_some hr
 refine OkOps.q (triCallG (x:=aI x2) (fun hg=>r14_Index_c _ _ (gO_t hx2 hg)) rfl rfl ⟨.inl rfl,.inl rfl,trivial⟩ ⟨fun h=>h,⟨fun h=>h,trivial⟩⟩ entry15 rfl rfl rfl) (OkOps.q (triQG (x:=aB (decide (x2 < 0))) rfl rfl ⟨fun h=>h,trivial⟩ rfl) ?_)
 refine OkOps.q (triOr rfl rfl (fun h=>by rw [h];rfl) rfl) ?_
 refine OkOps.nil ?_
 refine Ok.cond (b:=(x1 != 0) || (decide (x2 < 0))) rfl (fun h3=>?_) (fun h3=>?_)
 have hr:=selT h3 hr
 refine Ok.seq (Ok.region (OkOps.y (.c (.d (.v (.slice none 0 0)))) (OkOps.nil (Ok.ret ?_))))
 obtain rfl:=Option.some.inj hr
 exact ⟨_,rfl,.inr rfl,trivial⟩
 have hr:=selF h3 hr
 refine Ok.skip (Ok.seq (Ok.region (OkOps.y (.agg [cI t.Root,cI t.Next,.d (.sl (List.map Node.cs t.Nodes))]) (OkOps.y (aI id) ?_))))
 obtain ⟨x4,hx4,hr⟩:=bind_some hr
 refine OkOps.m 0 (triCall (tau [(2000,1)]) (.s (.c (.tl 1 (List.map (eInt .i64) x4)))) [(1,.tail 1)] (r14_path_c _ _ _ hx4) rfl ⟨.inl rfl,.inl rfl,trivial⟩ trivial entry44 trivial rfl rfl rfl rfl ⟨rfl,trivial⟩ rfl rfl rfl) (OkOps.y (.c (.tl 1 (List.map (eInt .i64) x4))) (OkOps.nil (Ok.ret ?_)))
 obtain rfl:=Option.some.inj hr
 exact ⟨_,rfl,.inr rfl,trivial⟩
theorem entry23 : Entry Tryz.prog 23:=⟨_,Tryz.func23,by kernel_rfl,by kernel_rfl⟩
theorem r14_Common_c (t : Tree) (a : Int) (b : Int) {r : Int} (hr : r14_Common t a b = some r) : Con Tryz.prog 25 [.agg [cI t.Root,cI t.Next,.d (.sl (List.map Node.cs t.Nodes))],aI a,aI b] [] (.s (aI r)) []:=by
 unfold r14_Common at hr
 refine Con.of_ok 45 0 [.tmp 6] [(0,.s (.agg [cI t.Root,cI t.Next,.d (.sl (List.map Node.cs t.Nodes))])),(1,.s (aI a)),(2,.s (aI b))] Tryz.func25 rfl rfl rfl rfl rfl rfl rfl rfl fun w g M ρ _=>(Ok.seq (Ok.region (OkOps.m 0 (triBox (j:=0) (cs:=[cI t.Root,cI t.Next,.d (.sl (List.map Node.cs t.Nodes))]) rfl rfl rfl rfl rfl) (OkOps.y (aI 0) (OkOps.nil (Ok.seq (Ok.regionD (by kernel_rfl) (OkD.x (.agg [cI t.Root,cI t.Next,.d (.sl (List.map Node.cs t.Nodes))]) rfl trivial rfl (OkD.x (aI a) rfl trivial rfl ?_)))))))))
 obtain ⟨x1,hx1,hr⟩:=bind_some hr
 refine OkD.q (triCl (tau []) (.s (.c (.d (.sl (List.map (eInt .i64) x1))))) [] (r14_Path_c _ _ hx1) rfl ⟨.inl rfl,.inl rfl,trivial⟩ trivial entry23 trivial) (OkD.x (.agg [cI t.Root,cI t.Next,.d (.sl (List.map Node.cs t.Nodes))]) rfl trivial rfl (OkD.x (aI b) rfl trivial rfl ?_))
 obtain ⟨x2,hx2,hr⟩:=bind_some hr
 refine OkD.q (triCl (tau []) (.s (.c (.d (.sl (List.map (eInt .i64) x2))))) [] (r14_Path_c _ _ hx2) rfl ⟨.inl rfl,.inl rfl,trivial⟩ trivial entry23 trivial) (OkD.x (.c (.d (.sl (List.map (eInt .i64) x1)))) rfl trivial rfl (OkD.x (.c (.d (.sl (List.map (eInt .i64) x2)))) rfl trivial rfl (OkD.nil (by kernel_rfl) (Ok.seq (Ok.region (OkOps.y (aI 0) (OkOps.nil ?_)))))))
 obtain ⟨k4,hk4,hr⟩:=jn_some hr
 refine Ok.join (fun (s3 : Int)=>⟨[(9,.s (aI s3))],[],0⟩) k4 r (fun s3 hr=>?_) ?_
 rw [hk4] at hr
 refine Ok.seq (Ok.region (OkOps.y (aI s3) (OkOps.y (aI s3) (OkOps.nil (Ok.ret ?_)))))
 obtain rfl:=Option.some.inj hr
 exact ⟨_,rfl,.inl rfl,trivial⟩
 clear hk4
 refine Ok.seq (Ok.region (OkOps.y (aI 0) (OkOps.nil (Ok.block (Ok.loopK (fun (s5 : Int × Int)=>⟨[(7,.s (.c (.d (.sl (List.map (eInt .i64) x1))))),(8,.s (.c (.d (.sl (List.map (eInt .i64) x2))))),(9,.s (aI s5.1)),(10,.s (aI s5.2))],[],0⟩) hr (Conv.mk (tau []) ⟨⟨_,rfl,.inl rfl⟩,⟨_,rfl,.inl rfl⟩,⟨_,rfl,.inl rfl⟩,⟨_,rfl,.inl rfl⟩,trivial⟩ trivial rfl rfl rfl rfl) ?_)))))
 clear hr
 intro again6 s5 hr
 unfold r14_Common_L1 at hr
 refine Ok.seq (Ok.seq (Ok.regionD (by kernel_rfl) (OkD.x (aI s5.2) rfl trivial rfl (OkD.x (.c (.d (.sl (List.map (eInt .i64) x1)))) rfl trivial rfl (OkD.q (triLen (enc:=(eInt .i64)) x1 rfl rfl trivial rfl) (OkD.x (aB (decide (s5.2 < (x1.length : Int)))) rfl trivial rfl (OkD.x (aB (decide (s5.2 < (x1.length : Int)))) rfl trivial rfl (OkD.q (triQG (x:=aI s5.2) rfl rfl trivial rfl) (OkD.q (triQG (x:=.c (.d (.sl (List.map (eInt .i64) x2)))) rfl rfl trivial rfl) (OkD.q (triLenG (enc:=(eInt .i64)) x2 rfl rfl rfl ⟨fun h=>h,trivial⟩ rfl) (OkD.q (triQG (x:=aB (decide (s5.2 < (x2.length : Int)))) rfl rfl ⟨fun h=>h,⟨fun h=>h,trivial⟩⟩ rfl) (OkD.q (triAnd rfl rfl (fun h=>h) rfl) (OkD.x (aB ((decide (s5.2 < (x1.length : Int))) && (decide (s5.2 < (x2.length : Int))))) rfl trivial rfl (OkD.q (triQG (x:=.c (.d (.sl (List.map (eInt .i64) x1)))) rfl rfl trivial rfl) (OkD.q (triQG (x:=aI s5.2) rfl rfl trivial rfl) ?_)))))))))))))))
 obtain ⟨x7,hx7,hr⟩:=bind_some hr
 refine OkD.q (triIdxG (enc:=(eInt .i64)) (L:=x1) (row:=[dI x7]) (gO_t hx7) rfl rfl rfl rfl rfl (fun _=>rfl) ⟨fun h=>h,⟨fun h=>h,trivial⟩⟩ rfl) (OkD.q (triQG (x:=aI x7) rfl rfl ⟨fun h=>h,trivial⟩ rfl) (OkD.q (triQG (x:=.c (.d (.sl (List.map (eInt .i64) x2)))) rfl rfl trivial rfl) (OkD.q (triQG (x:=aI s5.2) rfl rfl trivial rfl) ?_)))
 obtain ⟨x8,hx8,hr⟩:=bind_some hr
 refine OkD.q (triIdxG (enc:=(eInt .i64)) (L:=x2) (row:=[dI x8]) (gO_t hx8) rfl rfl rfl rfl rfl (fun _=>rfl) ⟨fun h=>h,⟨fun h=>h,trivial⟩⟩ rfl) (OkD.q (triQG (x:=aI x8) rfl rfl ⟨fun h=>h,trivial⟩ rfl) (OkD.q (triQG (x:=aB (x7 == x8)) rfl rfl ⟨fun h=>h,⟨fun h=>h,trivial⟩⟩ rfl) (OkD.q (triAnd rfl rfl (fun h=>h) rfl) (OkD.nil (by kernel_rfl) ?_))))
 refine Ok.cond (b:=((decide (s5.2 < (x1.length : Int))) && (decide (s5.2 < (x2.length : Int)))) && (x7 == x8)) rfl (fun h9=>?_) (fun h9=>?_)
 have hr:=selT h9 hr
 refine Ok.skip (Ok.seq (Ok.block (Ok.region (OkOps.y (.c (.d (.sl (List.map (eInt .i64) x1)))) (OkOps.y (aI s5.2) ?_)))))
 obtain ⟨x10,hx10,hr⟩:=bind_some hr
 refine OkOps.q (triIdx (enc:=(eInt .i64)) (L:=x1) (row:=[dI x10]) hx10 rfl rfl rfl rfl (fun _=>rfl) trivial rfl) (OkOps.y (aI x10) (OkOps.y (aI x10) (OkOps.nil (Ok.region (OkOps.y (aI s5.2) (OkOps.y (aI (IntKind.i64.wrap (s5.2 + 1))) (OkOps.y (aI (IntKind.i64.wrap (s5.2 + 1))) (OkOps.nil ?_))))))))
 exact ⟨(x10,IntKind.i64.wrap (s5.2 + 1)),hr,(Conv.mk (tau []) ⟨⟨_,rfl,.inl rfl⟩,⟨_,rfl,.inl rfl⟩,⟨_,rfl,.inl rfl⟩,⟨_,rfl,.inl rfl⟩,trivial⟩ trivial rfl rfl rfl rfl)⟩
 have hr:=selF h9 hr
 refine Ok.exit ?_
 exact ⟨s5.1,hr,(Conv.mk (tau []) ⟨⟨_,rfl,.inl rfl⟩,trivial⟩ trivial rfl rfl rfl rfl)⟩
theorem entry25 : Entry Tryz.prog 25:=⟨_,Tryz.func25,by kernel_rfl,by kernel_rfl⟩
theorem entry47 : Entry Tryz.prog 47:=⟨_,Tryz.func47,by kernel_rfl,by kernel_rfl⟩
theorem r11_Decimal_B_c (self0 : Int → Option Str) (hself0 : ∀ (p_n : Int) {r : Str},self0 p_n = some r → Con Tryz.prog 47 [aI p_n] [] (.s (aS r)) []) (p_n : Int) {r : Str} (hr : r11_Decimal_B self0 p_n = some r) : Con Tryz.prog 47 [aI p_n] [] (.s (aS r)) []:=by
 unfold r11_Decimal_B at hr
 refine Con.of_ok 26 0 [.tmp 2] [(0,.s (aI p_n))] Tryz.func47 rfl rfl rfl rfl rfl rfl rfl rfl fun w g M ρ _=>(Ok.seq (Ok.region (OkOps.y (aS (ByteArray.mk #[])) (OkOps.nil (Ok.seq (Ok.seq (Ok.region (OkOps.y (aI p_n) (OkOps.y (aB (decide (p_n < 0))) (OkOps.nil ?_))))))))))
 refine Ok.cond (b:=decide (p_n < 0)) rfl (fun h1=>?_) (fun h1=>?_)
 have hr:=selT h1 hr
 refine Ok.seq (Ok.region (OkOps.y (aI p_n) (OkOps.y (aI (IntKind.i64.wrap (0 - p_n))) ?_)))
 obtain ⟨x2,hx2,hr⟩:=bind_some hr
 refine OkOps.q (triCl (tau []) (.s (aS x2)) [] (hself0 _ hx2) rfl ⟨.inl rfl,trivial⟩ trivial entry47 trivial) ?_
 obtain ⟨x3,hx3,hr⟩:=bind_some hr
 refine OkOps.q (triCat hx3 rfl rfl trivial rfl) (OkOps.y (aS x3) (OkOps.nil (Ok.ret ?_)))
 obtain rfl:=Option.some.inj hr
 exact ⟨_,rfl,.inl rfl,trivial⟩
 have hr:=selF h1 hr
 refine Ok.skip (Ok.seq (Ok.seq (Ok.region (OkOps.y (aI p_n) (OkOps.y (aB (decide (p_n < 10))) (OkOps.nil ?_))))))
 refine Ok.cond (b:=decide (p_n < 10)) rfl (fun h4=>?_) (fun h4=>?_)
 have hr:=selT h4 hr
 refine Ok.seq (Ok.region (OkOps.y (aI p_n) (OkOps.y (aI (IntKind.i64.wrap (48 + p_n))) (OkOps.y (.c (.d (.v (.int .u8 (IntKind.u8.wrap (IntKind.i64.wrap (48 + p_n))))))) (OkOps.m 0 (triBST (sz:=1) (enc:=(eInt .u8)) (j:=0) ([IntKind.u8.wrap (IntKind.i64.wrap (48 + p_n))]) rfl rfl rfl rfl rfl rfl rfl rfl (fun _=>rfl) trivial rfl rfl) (OkOps.q (triOfBytes (L:=[IntKind.u8.wrap (IntKind.i64.wrap (48 + p_n))]) rfl rfl trivial rfl) (OkOps.y (aS (ofBytes ([IntKind.u8.wrap (IntKind.i64.wrap (48 + p_n))]))) (OkOps.nil (Ok.ret ?_)))))))))
 obtain rfl:=Option.some.inj hr
 exact ⟨_,rfl,.inl rfl,trivial⟩
 have hr:=selF h4 hr
 refine Ok.skip (Ok.seq (Ok.regionD (by kernel_rfl) (OkD.x (aI p_n) rfl trivial rfl (OkD.x (aI (IntKind.i64.wrap (p_n.tdiv 10))) rfl trivial rfl ?_))))
 obtain ⟨x5,hx5,hr⟩:=bind_some hr
 refine OkD.q (triCl (tau []) (.s (aS x5)) [] (hself0 _ hx5) rfl ⟨.inl rfl,trivial⟩ trivial entry47 trivial) (OkD.x (aI p_n) rfl trivial rfl (OkD.x (aI (p_n.tmod 10)) rfl trivial rfl (OkD.x (aI (IntKind.i64.wrap (48 + (p_n.tmod 10)))) rfl trivial rfl (OkD.x (.c (.d (.v (.int .u8 (IntKind.u8.wrap (IntKind.i64.wrap (48 + (p_n.tmod 10)))))))) rfl trivial rfl (OkD.m 0 (triBST (sz:=1) (enc:=(eInt .u8)) (j:=1) ([IntKind.u8.wrap (IntKind.i64.wrap (48 + (p_n.tmod 10)))]) rfl rfl rfl rfl rfl rfl rfl rfl (fun _=>rfl) trivial rfl rfl) (OkD.q (triOfBytes (L:=[IntKind.u8.wrap (IntKind.i64.wrap (48 + (p_n.tmod 10)))]) rfl rfl trivial rfl) ?_))))))
 obtain ⟨x6,hx6,hr⟩:=bind_some hr
 refine OkD.q (triCat hx6 rfl rfl trivial rfl) (OkD.x (aS x6) rfl trivial rfl (OkD.nil (by kernel_rfl) (Ok.ret ?_)))
 obtain rfl:=Option.some.inj hr
 exact ⟨_,rfl,.inl rfl,trivial⟩
theorem r11_Decimal_all : ∀ n : Nat,(∀ (p_n : Int) {r : Str},r11_Decimal n p_n = some r → Con Tryz.prog 47 [aI p_n] [] (.s (aS r)) []) ∧ True:=by
 intro n
 induction n with
 | zero=>exact ⟨(by intros;rename_i hr;cases hr),trivial⟩
 | succ n ih=>exact ⟨(by intros;rename_i hr;exact r11_Decimal_B_c _ ih.1 _ hr),trivial⟩
theorem r11_Decimal_c (n : Nat) (p_n : Int) {r : Str} (hr : r11_Decimal n p_n = some r) : Con Tryz.prog 47 [aI p_n] [] (.s (aS r)) []:=(r11_Decimal_all n).1 p_n hr
theorem r14_PathName_c (t : Tree) (id : Int) {r : Str} (hr : r14_PathName t id = some r) : Con Tryz.prog 27 [.agg [cI t.Root,cI t.Next,.d (.sl (List.map Node.cs t.Nodes))],aI id] [] (.s (aS r)) []:=by
 unfold r14_PathName at hr
 refine Con.of_ok 90 0 [.tmp 4] [(0,.s (.agg [cI t.Root,cI t.Next,.d (.sl (List.map Node.cs t.Nodes))])),(1,.s (aI id))] Tryz.func27 rfl rfl rfl rfl rfl rfl rfl rfl fun w g M ρ _=>(Ok.seq (Ok.region (OkOps.m 0 (triBox (j:=0) (cs:=[cI t.Root,cI t.Next,.d (.sl (List.map Node.cs t.Nodes))]) rfl rfl rfl rfl rfl) (OkOps.y (aS (ByteArray.mk #[])) (OkOps.nil (Ok.seq (Ok.region (OkOps.y (.agg [cI t.Root,cI t.Next,.d (.sl (List.map Node.cs t.Nodes))]) (OkOps.y (aI id) ?_)))))))))
 obtain ⟨x1,hx1,hr⟩:=bind_some hr
 refine OkOps.q (triCl (tau []) (.s (.c (.d (.sl (List.map (eInt .i64) x1))))) [] (r14_Path_c _ _ hx1) rfl ⟨.inl rfl,.inl rfl,trivial⟩ trivial entry23 trivial) (OkOps.y (.c (.d (.sl (List.map (eInt .i64) x1)))) (OkOps.nil (Ok.seq (Ok.region (OkOps.y (aS (ByteArray.mk #[])) (OkOps.nil ?_))))))
 obtain ⟨k3,hk3,hr⟩:=jn_some hr
 refine Ok.join (fun (s2 : Str)=>⟨[(6,.s (aS s2))],[],0⟩) k3 r (fun s2 hr=>?_) ?_
 rw [hk3] at hr
 refine Ok.seq (Ok.region (OkOps.y (aS s2) (OkOps.y (aS s2) (OkOps.nil (Ok.ret ?_)))))
 obtain rfl:=Option.some.inj hr
 exact ⟨_,rfl,.inl rfl,trivial⟩
 clear hk3
 refine Ok.seq (Ok.region (OkOps.y (aI 0) (OkOps.nil (Ok.block (Ok.loopK (fun (s4 : Str × Int)=>⟨[(2,.s (.c (.loc 0 0))),(5,.s (.c (.d (.sl (List.map (eInt .i64) x1))))),(6,.s (aS s4.1)),(7,.s (aI s4.2))],[(0,.blk [cI t.Root,cI t.Next,.d (.sl (List.map Node.cs t.Nodes))] 27)],0⟩) hr (Conv.mk (tau []) ⟨⟨_,rfl,.inl rfl⟩,⟨_,rfl,.inl rfl⟩,⟨_,rfl,.inl rfl⟩,⟨_,rfl,.inl rfl⟩,trivial⟩ ⟨rfl,trivial⟩ rfl rfl rfl rfl) ?_)))))
 clear hr
 intro again5 s4 hr
 unfold r14_PathName_L2 at hr
 refine Ok.seq (Ok.seq (Ok.region (OkOps.y (aI s4.2) (OkOps.y (.c (.d (.sl (List.map (eInt .i64) x1)))) (OkOps.q (triLen (enc:=(eInt .i64)) x1 rfl rfl trivial rfl) (OkOps.y (aB (decide (s4.2 < (x1.length : Int)))) (OkOps.nil ?_)))))))
 refine Ok.cond (b:=decide (s4.2 < (x1.length : Int))) rfl (fun h6=>?_) (fun h6=>?_)
 have hr:=selT h6 hr
 refine Ok.skip ?_
 obtain ⟨k8,hk8,hr⟩:=jn_some hr
 refine Ok.join (fun (s7 : Str)=>⟨[(2,.s (.c (.loc 0 0))),(5,.s (.c (.d (.sl (List.map (eInt .i64) x1))))),(6,.s (aS s7)),(7,.s (aI s4.2))],[(0,.blk [cI t.Root,cI t.Next,.d (.sl (List.map Node.cs t.Nodes))] 27)],0⟩) k8 r (fun s7 hr=>?_) ?_
 rw [hk8] at hr
 refine Ok.region (OkOps.y (aI s4.2) (OkOps.y (aI (IntKind.i64.wrap (s4.2 + 1))) (OkOps.y (aI (IntKind.i64.wrap (s4.2 + 1))) (OkOps.nil ?_))))
 exact ⟨(s7,IntKind.i64.wrap (s4.2 + 1)),hr,(Conv.mk (tau []) ⟨⟨_,rfl,.inl rfl⟩,⟨_,rfl,.inl rfl⟩,⟨_,rfl,.inl rfl⟩,⟨_,rfl,.inl rfl⟩,trivial⟩ ⟨rfl,trivial⟩ rfl rfl rfl rfl)⟩
 clear hk8
 refine Ok.block (Ok.seq (Ok.regionD (by kernel_rfl) (OkD.x (.agg [cI t.Root,cI t.Next,.d (.sl (List.map Node.cs t.Nodes))]) rfl trivial rfl (OkD.x (.c (.d (.sl (List.map (eInt .i64) x1)))) rfl trivial rfl (OkD.x (aI s4.2) rfl trivial rfl ?_)))))
 obtain ⟨x9,hx9,hr⟩:=bind_some hr
 refine OkD.q (triIdx (enc:=(eInt .i64)) (L:=x1) (row:=[dI x9]) hx9 rfl rfl rfl rfl (fun _=>rfl) trivial rfl) (OkD.x (aI x9) rfl trivial rfl ?_)
 obtain ⟨x10,hx10,hr⟩:=bind_some hr
 refine OkD.q (triCl (tau []) (.s (.agg [cI x10.ID,cI x10.Parent,cI x10.Kind,cS x10.Key,.d (.sl (List.map Attr.cs x10.Attrs)),.d (.sl (List.map Action.cs x10.Actions)),.d (.sl (List.map (eInt .i64) x10.Kids))])) [] (r14_Node_c _ _ hx10) rfl ⟨.inl rfl,.inl rfl,trivial⟩ trivial entry46 trivial) (OkD.m 0 (triAlloc (j:=1) (cs:=[cI 0,cI 0,cI 0,cS ByteArray.empty,.d (.v (.slice none 0 0)),.d (.v (.slice none 0 0)),.d (.v (.slice none 0 0))]) rfl rfl rfl rfl) (OkD.w (triStore (cs':=[cI x10.ID,cI x10.Parent,cI x10.Kind,cS x10.Key,.d (.sl (List.map Attr.cs x10.Attrs)),.d (.sl (List.map Action.cs x10.Actions)),.d (.sl (List.map (eInt .i64) x10.Kids))]) rfl rfl rfl rfl rfl rfl rfl rfl rfl) (OkD.nil (by kernel_rfl) (Ok.seq (Ok.seq (Ok.region (OkOps.y (.c (.loc 1 3)) (OkOps.y (aS x10.Key) (OkOps.y (aB (!(x10.Key.toList == (ByteArray.mk #[]).toList))) (OkOps.nil ?_))))))))))
 refine Ok.cond (b:=!(x10.Key.toList == (ByteArray.mk #[]).toList)) rfl (fun h11=>?_) (fun h11=>?_)
 have hr:=selT h11 hr
 refine Ok.seq (Ok.region (OkOps.y (aS s4.1) (OkOps.y (.c (.loc 1 3)) (OkOps.y (aS x10.Key) ?_))))
 obtain ⟨x12,hx12,hr⟩:=bind_some hr
 refine OkOps.q (triCat hx12 rfl rfl trivial rfl) ?_
 obtain ⟨x13,hx13,hr⟩:=bind_some hr
 refine OkOps.q (triCat hx13 rfl rfl trivial rfl) (OkOps.y (aS x13) (OkOps.nil (Ok.exit ?_)))
 exact ⟨x13,hr,(Conv.mk (tau []) ⟨⟨_,rfl,.inl rfl⟩,⟨_,rfl,.inl rfl⟩,⟨_,rfl,.inl rfl⟩,⟨_,rfl,.inl rfl⟩,trivial⟩ ⟨rfl,trivial⟩ rfl rfl rfl rfl)⟩
 have hr:=selF h11 hr
 refine Ok.skip (Ok.seq (Ok.region (OkOps.y (aI 0) (OkOps.nil ?_))))
 obtain ⟨k15,hk15,hr⟩:=jn_some hr
 refine Ok.join (fun (s14 : Int)=>⟨[(2,.s (.c (.loc 0 0))),(5,.s (.c (.d (.sl (List.map (eInt .i64) x1))))),(6,.s (aS s4.1)),(7,.s (aI s4.2)),(8,.s (.c (.loc 1 0))),(9,.s (aI s14))],[(0,.blk [cI t.Root,cI t.Next,.d (.sl (List.map Node.cs t.Nodes))] 27),(1,.blk [cI x10.ID,cI x10.Parent,cI x10.Kind,cS x10.Key,.d (.sl (List.map Attr.cs x10.Attrs)),.d (.sl (List.map Action.cs x10.Actions)),.d (.sl (List.map (eInt .i64) x10.Kids))] 33)],0⟩) k15 r (fun s14 hr=>?_) ?_
 rw [hk15] at hr
 refine Ok.region (OkOps.y (aS s4.1) (OkOps.y (.c (.loc 1 2)) (OkOps.y (aI x10.Kind) ?_)))
 obtain ⟨x16,hx16,hr⟩:=bind_some hr
 refine OkOps.q (triCl (tau []) (.s (aS x16)) [] (r11_Decimal_c _ _ hx16) rfl ⟨.inl rfl,trivial⟩ trivial entry47 trivial) ?_
 obtain ⟨x17,hx17,hr⟩:=bind_some hr
 refine OkOps.q (triCat hx17 rfl rfl trivial rfl) ?_
 obtain ⟨x18,hx18,hr⟩:=bind_some hr
 refine OkOps.q (triCat hx18 rfl rfl trivial rfl) (OkOps.y (aI s14) ?_)
 obtain ⟨x19,hx19,hr⟩:=bind_some hr
 refine OkOps.q (triCl (tau []) (.s (aS x19)) [] (r11_Decimal_c _ _ hx19) rfl ⟨.inl rfl,trivial⟩ trivial entry47 trivial) ?_
 obtain ⟨x20,hx20,hr⟩:=bind_some hr
 refine OkOps.q (triCat hx20 rfl rfl trivial rfl) ?_
 obtain ⟨x21,hx21,hr⟩:=bind_some hr
 refine OkOps.q (triCat hx21 rfl rfl trivial rfl) (OkOps.y (aS x21) (OkOps.nil ?_))
 exact ⟨x21,hr,(Conv.mk (tau []) ⟨⟨_,rfl,.inl rfl⟩,⟨_,rfl,.inl rfl⟩,⟨_,rfl,.inl rfl⟩,⟨_,rfl,.inl rfl⟩,trivial⟩ ⟨rfl,trivial⟩ rfl rfl rfl rfl)⟩
 clear hk15
 refine Ok.seq (Ok.region (OkOps.y (aI s4.2) (OkOps.y (aB (decide (s4.2 > 0))) (OkOps.nil ?_))))
 refine Ok.cond (b:=decide (s4.2 > 0)) rfl (fun h22=>?_) (fun h22=>?_)
 have hr:=selT h22 hr
 refine Ok.seq (Ok.regionD (by kernel_rfl) (OkD.x (.agg [cI t.Root,cI t.Next,.d (.sl (List.map Node.cs t.Nodes))]) rfl trivial rfl (OkD.x (.c (.d (.sl (List.map (eInt .i64) x1)))) rfl trivial rfl (OkD.x (aI s4.2) rfl trivial rfl (OkD.x (aI (IntKind.i64.wrap (s4.2 - 1))) rfl trivial rfl ?_)))))
 obtain ⟨x23,hx23,hr⟩:=bind_some hr
 refine OkD.q (triIdx (enc:=(eInt .i64)) (L:=x1) (row:=[dI x23]) hx23 rfl rfl rfl rfl (fun _=>rfl) trivial rfl) (OkD.x (aI x23) rfl trivial rfl ?_)
 obtain ⟨x24,hx24,hr⟩:=bind_some hr
 refine OkD.q (triCl (tau []) (.s (.agg [cI x24.ID,cI x24.Parent,cI x24.Kind,cS x24.Key,.d (.sl (List.map Attr.cs x24.Attrs)),.d (.sl (List.map Action.cs x24.Actions)),.d (.sl (List.map (eInt .i64) x24.Kids))])) [] (r14_Node_c _ _ hx24) rfl ⟨.inl rfl,.inl rfl,trivial⟩ trivial entry46 trivial) (OkD.x (.c (.d (.sl (List.map (eInt .i64) x24.Kids)))) rfl trivial rfl (OkD.x (.c (.d (.sl (List.map (eInt .i64) x24.Kids)))) rfl trivial rfl (OkD.nil (by kernel_rfl) (Ok.seq (Ok.region (OkOps.y (aI 0) (OkOps.nil (Ok.block (Ok.loopK (fun (s25 : Int × Int)=>⟨[(2,.s (.c (.loc 0 0))),(5,.s (.c (.d (.sl (List.map (eInt .i64) x1))))),(6,.s (aS s4.1)),(7,.s (aI s4.2)),(8,.s (.c (.loc 1 0))),(9,.s (aI s25.1)),(10,.s (.c (.d (.sl (List.map (eInt .i64) x24.Kids))))),(11,.s (aI s25.2))],[(0,.blk [cI t.Root,cI t.Next,.d (.sl (List.map Node.cs t.Nodes))] 27),(1,.blk [cI x10.ID,cI x10.Parent,cI x10.Kind,cS x10.Key,.d (.sl (List.map Attr.cs x10.Attrs)),.d (.sl (List.map Action.cs x10.Actions)),.d (.sl (List.map (eInt .i64) x10.Kids))] 33)],0⟩) hr (Conv.mk (tau []) ⟨⟨_,rfl,.inl rfl⟩,⟨_,rfl,.inl rfl⟩,⟨_,rfl,.inl rfl⟩,⟨_,rfl,.inl rfl⟩,⟨_,rfl,.inl rfl⟩,⟨_,rfl,.inl rfl⟩,⟨_,rfl,.inl rfl⟩,⟨_,rfl,.inl rfl⟩,trivial⟩ ⟨rfl,rfl,trivial⟩ rfl rfl rfl rfl) ?_)))))))))
 clear hr
 intro again26 s25 hr
 unfold r14_PathName_L1 at hr
 refine Ok.seq (Ok.seq (Ok.regionD (by kernel_rfl) (OkD.x (aI s25.2) rfl trivial rfl (OkD.x (.c (.d (.sl (List.map (eInt .i64) x24.Kids)))) rfl trivial rfl (OkD.q (triLen (enc:=(eInt .i64)) x24.Kids rfl rfl trivial rfl) (OkD.x (aB (decide (s25.2 < (x24.Kids.length : Int)))) rfl trivial rfl (OkD.x (aB (decide (s25.2 < (x24.Kids.length : Int)))) rfl trivial rfl (OkD.q (triQG (x:=.c (.d (.sl (List.map (eInt .i64) x24.Kids)))) rfl rfl trivial rfl) (OkD.q (triQG (x:=aI s25.2) rfl rfl trivial rfl) ?_)))))))))
 obtain ⟨x27,hx27,hr⟩:=bind_some hr
 refine OkD.q (triIdxG (enc:=(eInt .i64)) (L:=x24.Kids) (row:=[dI x27]) (gO_t hx27) rfl rfl rfl rfl rfl (fun _=>rfl) ⟨fun h=>h,⟨fun h=>h,trivial⟩⟩ rfl) (OkD.q (triQG (x:=aI x27) rfl rfl ⟨fun h=>h,trivial⟩ rfl) (OkD.q (triQG (x:=.c (.loc 1 0)) rfl rfl trivial rfl) (OkD.q (triQG (x:=aI x10.ID) rfl rfl ⟨fun h=>h,trivial⟩ rfl) (OkD.q (triQG (x:=aB (x27 != x10.ID)) rfl rfl ⟨fun h=>h,⟨fun h=>h,trivial⟩⟩ rfl) (OkD.q (triAnd rfl rfl (fun h=>h) rfl) (OkD.nil (by kernel_rfl) ?_))))))
 refine Ok.cond (b:=(decide (s25.2 < (x24.Kids.length : Int))) && (x27 != x10.ID)) rfl (fun h28=>?_) (fun h28=>?_)
 have hr:=selT h28 hr
 refine Ok.skip ?_
 obtain ⟨k30,hk30,hr⟩:=jn_some hr
 refine Ok.join (fun (s29 : Int)=>⟨[(2,.s (.c (.loc 0 0))),(5,.s (.c (.d (.sl (List.map (eInt .i64) x1))))),(6,.s (aS s4.1)),(7,.s (aI s4.2)),(8,.s (.c (.loc 1 0))),(9,.s (aI s29)),(10,.s (.c (.d (.sl (List.map (eInt .i64) x24.Kids))))),(11,.s (aI s25.2))],[(0,.blk [cI t.Root,cI t.Next,.d (.sl (List.map Node.cs t.Nodes))] 27),(1,.blk [cI x10.ID,cI x10.Parent,cI x10.Kind,cS x10.Key,.d (.sl (List.map Attr.cs x10.Attrs)),.d (.sl (List.map Action.cs x10.Actions)),.d (.sl (List.map (eInt .i64) x10.Kids))] 33)],0⟩) k30 r (fun s29 hr=>?_) ?_
 rw [hk30] at hr
 refine Ok.region (OkOps.y (aI s25.2) (OkOps.y (aI (IntKind.i64.wrap (s25.2 + 1))) (OkOps.y (aI (IntKind.i64.wrap (s25.2 + 1))) (OkOps.nil ?_))))
 exact ⟨(s29,IntKind.i64.wrap (s25.2 + 1)),hr,(Conv.mk (tau []) ⟨⟨_,rfl,.inl rfl⟩,⟨_,rfl,.inl rfl⟩,⟨_,rfl,.inl rfl⟩,⟨_,rfl,.inl rfl⟩,⟨_,rfl,.inl rfl⟩,⟨_,rfl,.inl rfl⟩,⟨_,rfl,.inl rfl⟩,⟨_,rfl,.inl rfl⟩,trivial⟩ ⟨rfl,rfl,trivial⟩ rfl rfl rfl rfl)⟩
 clear hk30
 refine Ok.block (Ok.seq (Ok.regionD (by kernel_rfl) (OkD.x (.agg [cI t.Root,cI t.Next,.d (.sl (List.map Node.cs t.Nodes))]) rfl trivial rfl (OkD.x (.c (.d (.sl (List.map (eInt .i64) x24.Kids)))) rfl trivial rfl (OkD.x (aI s25.2) rfl trivial rfl ?_)))))
 obtain ⟨x31,hx31,hr⟩:=bind_some hr
 refine OkD.q (triIdx (enc:=(eInt .i64)) (L:=x24.Kids) (row:=[dI x31]) hx31 rfl rfl rfl rfl (fun _=>rfl) trivial rfl) (OkD.x (aI x31) rfl trivial rfl ?_)
 obtain ⟨x32,hx32,hr⟩:=bind_some hr
 refine OkD.q (triCl (tau []) (.s (.agg [cI x32.ID,cI x32.Parent,cI x32.Kind,cS x32.Key,.d (.sl (List.map Attr.cs x32.Attrs)),.d (.sl (List.map Action.cs x32.Actions)),.d (.sl (List.map (eInt .i64) x32.Kids))])) [] (r14_Node_c _ _ hx32) rfl ⟨.inl rfl,.inl rfl,trivial⟩ trivial entry46 trivial) (OkD.m 0 (triAlloc (j:=2) (cs:=[cI 0,cI 0,cI 0,cS ByteArray.empty,.d (.v (.slice none 0 0)),.d (.v (.slice none 0 0)),.d (.v (.slice none 0 0))]) rfl rfl rfl rfl) (OkD.w (triStore (cs':=[cI x32.ID,cI x32.Parent,cI x32.Kind,cS x32.Key,.d (.sl (List.map Attr.cs x32.Attrs)),.d (.sl (List.map Action.cs x32.Actions)),.d (.sl (List.map (eInt .i64) x32.Kids))]) rfl rfl rfl rfl rfl rfl rfl rfl rfl) (OkD.nil (by kernel_rfl) (Ok.seq (Ok.region (OkOps.y (.c (.loc 2 3)) (OkOps.y (aS x32.Key) (OkOps.y (aB (x32.Key.toList == (ByteArray.mk #[]).toList)) (OkOps.y (aB (x32.Key.toList == (ByteArray.mk #[]).toList)) (OkOps.q (triQG (x:=.c (.loc 2 2)) rfl rfl trivial rfl) (OkOps.q (triQG (x:=aI x32.Kind) rfl rfl ⟨fun h=>h,trivial⟩ rfl) (OkOps.q (triQG (x:=.c (.loc 1 2)) rfl rfl trivial rfl) (OkOps.q (triQG (x:=aI x10.Kind) rfl rfl ⟨fun h=>h,trivial⟩ rfl) (OkOps.q (triQG (x:=aB (x32.Kind == x10.Kind)) rfl rfl ⟨fun h=>h,⟨fun h=>h,trivial⟩⟩ rfl) (OkOps.q (triAnd rfl rfl (fun h=>h) rfl) ?_)))))))))))))))
 refine OkOps.nil ?_
 refine Ok.cond (b:=(x32.Key.toList == (ByteArray.mk #[]).toList) && (x32.Kind == x10.Kind)) rfl (fun h33=>?_) (fun h33=>?_)
 have hr:=selT h33 hr
 refine Ok.region (OkOps.y (aI s25.1) (OkOps.y (aI (IntKind.i64.wrap (s25.1 + 1))) (OkOps.y (aI (IntKind.i64.wrap (s25.1 + 1))) (OkOps.nil ?_))))
 exact ⟨IntKind.i64.wrap (s25.1 + 1),hr,(Conv.mk (tau []) ⟨⟨_,rfl,.inl rfl⟩,⟨_,rfl,.inl rfl⟩,⟨_,rfl,.inl rfl⟩,⟨_,rfl,.inl rfl⟩,⟨_,rfl,.inl rfl⟩,⟨_,rfl,.inl rfl⟩,⟨_,rfl,.inl rfl⟩,⟨_,rfl,.inl rfl⟩,trivial⟩ ⟨rfl,rfl,trivial⟩ rfl rfl rfl rfl)⟩
 have hr:=selF h33 hr
 refine Ok.skip ?_
 exact ⟨s25.1,hr,(Conv.mk (tau []) ⟨⟨_,rfl,.inl rfl⟩,⟨_,rfl,.inl rfl⟩,⟨_,rfl,.inl rfl⟩,⟨_,rfl,.inl rfl⟩,⟨_,rfl,.inl rfl⟩,⟨_,rfl,.inl rfl⟩,⟨_,rfl,.inl rfl⟩,⟨_,rfl,.inl rfl⟩,trivial⟩ ⟨rfl,rfl,trivial⟩ rfl rfl rfl rfl)⟩
 have hr:=selF h28 hr
 refine Ok.exit ?_
 exact ⟨s25.1,hr,(Conv.mk (tau []) ⟨⟨_,rfl,.inl rfl⟩,⟨_,rfl,.inl rfl⟩,⟨_,rfl,.inl rfl⟩,⟨_,rfl,.inl rfl⟩,⟨_,rfl,.inl rfl⟩,⟨_,rfl,.inl rfl⟩,trivial⟩ ⟨rfl,rfl,trivial⟩ rfl rfl rfl rfl)⟩
 have hr:=selF h22 hr
 refine Ok.skip ?_
 exact ⟨0,hr,(Conv.mk (tau []) ⟨⟨_,rfl,.inl rfl⟩,⟨_,rfl,.inl rfl⟩,⟨_,rfl,.inl rfl⟩,⟨_,rfl,.inl rfl⟩,⟨_,rfl,.inl rfl⟩,⟨_,rfl,.inl rfl⟩,trivial⟩ ⟨rfl,rfl,trivial⟩ rfl rfl rfl rfl)⟩
 have hr:=selF h6 hr
 refine Ok.exit ?_
 exact ⟨s4.1,hr,(Conv.mk (tau []) ⟨⟨_,rfl,.inl rfl⟩,trivial⟩ trivial rfl rfl rfl rfl)⟩
theorem entry27 : Entry Tryz.prog 27:=⟨_,Tryz.func27,by kernel_rfl,by kernel_rfl⟩
end Go.Proofs.YtcfegecdlbbeaaaGreatDoor
end
section
set_option maxRecDepth 100000
namespace Go.Proofs.YtcfegecdlbbeaaaGreatDoor
open Go Go.E2
theorem l14_same_c (t : Tree) (a : Int) (b : Int) {r : Bool} (hr : l14_same t a b = some r) : Con Tryz.prog 6 [.agg [cI t.Root,cI t.Next,.d (.sl (List.map Node.cs t.Nodes))],aI a,aI b] [] (.s (aB r)) []:=by
 unfold l14_same at hr
 refine Con.of_ok 97 0 [.tmp 6] [(0,.s (.agg [cI t.Root,cI t.Next,.d (.sl (List.map Node.cs t.Nodes))])),(1,.s (aI a)),(2,.s (aI b))] Tryz.func6 rfl rfl rfl rfl rfl rfl rfl rfl fun w g M ρ _=>(Ok.seq (Ok.region (OkOps.m 0 (triBox (j:=0) (cs:=[cI t.Root,cI t.Next,.d (.sl (List.map Node.cs t.Nodes))]) rfl rfl rfl rfl rfl) (OkOps.y (aB false) (OkOps.nil (Ok.seq (Ok.region (OkOps.y (.agg [cI t.Root,cI t.Next,.d (.sl (List.map Node.cs t.Nodes))]) ?_))))))))
 obtain ⟨x1,hx1,hr⟩:=bind_some hr
 refine OkOps.q (triCl (tau []) (.tup [.agg [cI x1.1.Kind,cS x1.1.Key,.d (.sl (List.map Attr.cs x1.1.Attrs)),.d (.sl (List.map Action.cs x1.1.Actions)),.d (.sl (List.map View.cs x1.1.Kids))],aI x1.2]) [] (vw_Describe_c _ hx1) rfl ⟨.inl rfl,trivial⟩ trivial entry12 trivial) (OkOps.q (triMv (v:=.tup [.agg [cI x1.1.Kind,cS x1.1.Key,.d (.sl (List.map Attr.cs x1.1.Attrs)),.d (.sl (List.map Action.cs x1.1.Actions)),.d (.sl (List.map View.cs x1.1.Kids))],aI x1.2]) rfl rfl) (OkOps.y (.agg [cI x1.1.Kind,cS x1.1.Key,.d (.sl (List.map Attr.cs x1.1.Attrs)),.d (.sl (List.map Action.cs x1.1.Actions)),.d (.sl (List.map View.cs x1.1.Kids))]) (OkOps.y (aI x1.2) (OkOps.m 0 (triAlloc (j:=1) (cs:=[cI 0,cS ByteArray.empty,.d (.v (.slice none 0 0)),.d (.v (.slice none 0 0)),.d (.v (.slice none 0 0))]) rfl rfl rfl rfl) (OkOps.w (triStore (cs':=[cI x1.1.Kind,cS x1.1.Key,.d (.sl (List.map Attr.cs x1.1.Attrs)),.d (.sl (List.map Action.cs x1.1.Actions)),.d (.sl (List.map View.cs x1.1.Kids))]) rfl rfl rfl rfl rfl rfl rfl rfl rfl) (OkOps.y (aI x1.2) (OkOps.nil (Ok.seq (Ok.region (OkOps.y (.agg [cI t.Root,cI t.Next,.d (.sl (List.map Node.cs t.Nodes))]) ?_))))))))))
 obtain ⟨x2,hx2,hr⟩:=bind_some hr
 refine OkOps.q (triCl (tau []) (.tup [.agg [cI x2.1.Kind,cS x2.1.Key,.d (.sl (List.map Attr.cs x2.1.Attrs)),.d (.sl (List.map Action.cs x2.1.Actions)),.d (.sl (List.map View.cs x2.1.Kids))],aI x2.2]) [] (r14_Describe_c _ hx2) rfl ⟨.inl rfl,trivial⟩ trivial entry13 trivial) (OkOps.q (triMv (v:=.tup [.agg [cI x2.1.Kind,cS x2.1.Key,.d (.sl (List.map Attr.cs x2.1.Attrs)),.d (.sl (List.map Action.cs x2.1.Actions)),.d (.sl (List.map View.cs x2.1.Kids))],aI x2.2]) rfl rfl) (OkOps.y (.agg [cI x2.1.Kind,cS x2.1.Key,.d (.sl (List.map Attr.cs x2.1.Attrs)),.d (.sl (List.map Action.cs x2.1.Actions)),.d (.sl (List.map View.cs x2.1.Kids))]) (OkOps.y (aI x2.2) (OkOps.m 0 (triAlloc (j:=2) (cs:=[cI 0,cS ByteArray.empty,.d (.v (.slice none 0 0)),.d (.v (.slice none 0 0)),.d (.v (.slice none 0 0))]) rfl rfl rfl rfl) (OkOps.w (triStore (cs':=[cI x2.1.Kind,cS x2.1.Key,.d (.sl (List.map Attr.cs x2.1.Attrs)),.d (.sl (List.map Action.cs x2.1.Actions)),.d (.sl (List.map View.cs x2.1.Kids))]) rfl rfl rfl rfl rfl rfl rfl rfl rfl) (OkOps.y (aI x2.2) (OkOps.nil (Ok.seq (Ok.region (OkOps.y (.agg [cI t.Root,cI t.Next,.d (.sl (List.map Node.cs t.Nodes))]) (OkOps.y (aI a) ?_)))))))))))
 obtain ⟨x3,hx3,hr⟩:=bind_some hr
 refine OkOps.q (triCl (tau []) (.tup [.agg [cI x3.1.ID,cI x3.1.Parent,cI x3.1.Kind,cS x3.1.Key,.d (.sl (List.map Attr.cs x3.1.Attrs)),.d (.sl (List.map Action.cs x3.1.Actions)),.d (.sl (List.map (eInt .i64) x3.1.Kids))],aB x3.2]) [] (vw_Find_c _ _ hx3) rfl ⟨.inl rfl,.inl rfl,trivial⟩ trivial entry14 trivial) (OkOps.q (triMv (v:=.tup [.agg [cI x3.1.ID,cI x3.1.Parent,cI x3.1.Kind,cS x3.1.Key,.d (.sl (List.map Attr.cs x3.1.Attrs)),.d (.sl (List.map Action.cs x3.1.Actions)),.d (.sl (List.map (eInt .i64) x3.1.Kids))],aB x3.2]) rfl rfl) (OkOps.y (.agg [cI x3.1.ID,cI x3.1.Parent,cI x3.1.Kind,cS x3.1.Key,.d (.sl (List.map Attr.cs x3.1.Attrs)),.d (.sl (List.map Action.cs x3.1.Actions)),.d (.sl (List.map (eInt .i64) x3.1.Kids))]) (OkOps.y (aB x3.2) (OkOps.m 0 (triAlloc (j:=3) (cs:=[cI 0,cI 0,cI 0,cS ByteArray.empty,.d (.v (.slice none 0 0)),.d (.v (.slice none 0 0)),.d (.v (.slice none 0 0))]) rfl rfl rfl rfl) (OkOps.w (triStore (cs':=[cI x3.1.ID,cI x3.1.Parent,cI x3.1.Kind,cS x3.1.Key,.d (.sl (List.map Attr.cs x3.1.Attrs)),.d (.sl (List.map Action.cs x3.1.Actions)),.d (.sl (List.map (eInt .i64) x3.1.Kids))]) rfl rfl rfl rfl rfl rfl rfl rfl rfl) (OkOps.y (aB x3.2) (OkOps.nil (Ok.seq (Ok.region (OkOps.y (.agg [cI t.Root,cI t.Next,.d (.sl (List.map Node.cs t.Nodes))]) (OkOps.y (aI a) ?_)))))))))))
 obtain ⟨x4,hx4,hr⟩:=bind_some hr
 refine OkOps.q (triCl (tau []) (.s (aI x4)) [] (r14_Index_c _ _ hx4) rfl ⟨.inl rfl,.inl rfl,trivial⟩ trivial entry15 trivial) (OkOps.y (aI x4) (OkOps.nil (Ok.seq (Ok.seq (Ok.region (OkOps.y (aB x3.2) (OkOps.y (aI x4) (OkOps.y (aB (decide (x4 ≥ 0))) (OkOps.y (aB (x3.2 != (decide (x4 ≥ 0)))) (OkOps.y (aB (x3.2 != (decide (x4 ≥ 0)))) (OkOps.q (triQG (x:=aB x3.2) rfl rfl trivial rfl) (OkOps.q (triQG (x:=aB x3.2) rfl rfl ⟨fun h=>h,trivial⟩ rfl) (OkOps.q (triQG (x:=.c (.loc 3 0)) rfl rfl trivial rfl) (OkOps.q (triQG (x:=aI x3.1.ID) rfl rfl ⟨fun h=>h,trivial⟩ rfl) (OkOps.q (triQG (x:=aI a) rfl rfl trivial rfl) ?_)))))))))))))))
 refine OkOps.q (triQG (x:=aB (x3.1.ID != a)) rfl rfl ⟨fun h=>h,⟨fun h=>h,trivial⟩⟩ rfl) ?_
 refine OkOps.q (triAndG rfl rfl rfl (fun h=>h) (fun h h2=>by rw [h,h2];rfl) rfl) ?_
 refine OkOps.q (triOr rfl rfl (fun h=>by rw [h];rfl) rfl) ?_
 refine OkOps.nil ?_
 refine Ok.cond (b:=(x3.2 != (decide (x4 ≥ 0))) || (x3.2 && (x3.1.ID != a))) rfl (fun h5=>?_) (fun h5=>?_)
 have hr:=selT h5 hr
 refine Ok.seq (Ok.region (OkOps.y (aB false) (OkOps.nil (Ok.ret ?_))))
 obtain rfl:=Option.some.inj hr
 exact ⟨_,rfl,.inl rfl,trivial⟩
 have hr:=selF h5 hr
 refine Ok.skip (Ok.seq (Ok.regionD (by kernel_rfl) (OkD.x (.agg [cI t.Root,cI t.Next,.d (.sl (List.map Node.cs t.Nodes))]) rfl trivial rfl ?_)))
 obtain ⟨x6,hx6,hr⟩:=bind_some hr
 refine OkD.q (triCl (tau []) (.s (aI x6)) [] (vw_Check_c _ hx6) rfl ⟨.inl rfl,trivial⟩ trivial entry16 trivial) (OkD.x (.agg [cI t.Root,cI t.Next,.d (.sl (List.map Node.cs t.Nodes))]) rfl trivial rfl ?_)
 obtain ⟨x7,hx7,hr⟩:=bind_some hr
 refine OkD.q (triCl (tau []) (.s (aI x7)) [] (r14_Check_c _ hx7) rfl ⟨.inl rfl,trivial⟩ trivial entry17 trivial) (OkD.x (aB (x6 == x7)) rfl trivial rfl (OkD.x (aB (x6 == x7)) rfl trivial rfl (OkD.q (triQG (x:=aI x1.2) rfl rfl trivial rfl) (OkD.q (triQG (x:=aI x2.2) rfl rfl trivial rfl) (OkD.q (triQG (x:=aB (x1.2 == x2.2)) rfl rfl ⟨fun h=>h,⟨fun h=>h,trivial⟩⟩ rfl) (OkD.q (triAnd rfl rfl (fun h=>h) rfl) (OkD.x (aB ((x6 == x7) && (x1.2 == x2.2))) rfl trivial rfl (OkD.q (triQG (x:=.agg [cI x1.1.Kind,cS x1.1.Key,.d (.sl (List.map Attr.cs x1.1.Attrs)),.d (.sl (List.map Action.cs x1.1.Actions)),.d (.sl (List.map View.cs x1.1.Kids))]) rfl rfl trivial rfl) (OkD.q (triQG (x:=.agg [cI x2.1.Kind,cS x2.1.Key,.d (.sl (List.map Attr.cs x2.1.Attrs)),.d (.sl (List.map Action.cs x2.1.Actions)),.d (.sl (List.map View.cs x2.1.Kids))]) rfl rfl trivial rfl) ?_)))))))))
 obtain ⟨x8,hx8,hr⟩:=bind_some hr
 refine OkD.q (triCallG (x:=aB x8) (fun hg=>r14_Same_c _ _ _ (gO_t hx8 hg)) rfl rfl ⟨.inl rfl,.inl rfl,trivial⟩ ⟨fun h=>h,⟨fun h=>h,trivial⟩⟩ entry18 rfl rfl rfl) (OkD.q (triAnd rfl rfl (fun h=>h) rfl) (OkD.x (aB (((x6 == x7) && (x1.2 == x2.2)) && x8)) rfl trivial rfl (OkD.q (triQG (x:=.agg [cI t.Root,cI t.Next,.d (.sl (List.map Node.cs t.Nodes))]) rfl rfl trivial rfl) ?_)))
 obtain ⟨x9,hx9,hr⟩:=bind_some hr
 refine OkD.q (triCallG (x:=.c (.d (.sl (List.map (eInt .i64) x9)))) (fun hg=>vw_Order_c _ (gO_t hx9 hg)) rfl rfl ⟨.inl rfl,trivial⟩ ⟨fun h=>h,trivial⟩ entry20 rfl rfl rfl) (OkD.q (triQG (x:=.agg [cI t.Root,cI t.Next,.d (.sl (List.map Node.cs t.Nodes))]) rfl rfl trivial rfl) ?_)
 obtain ⟨x10,hx10,hr⟩:=bind_some hr
 refine OkD.q (triCallG (x:=.c (.d (.sl (List.map (eInt .i64) x10)))) (fun hg=>r14_Order_c _ (gO_t hx10 hg)) rfl rfl ⟨.inl rfl,trivial⟩ ⟨fun h=>h,trivial⟩ entry21 rfl rfl rfl) ?_
 obtain ⟨x11,hx11,hr⟩:=bind_some hr
 refine OkD.q (triCallG (x:=aB x11) (fun hg=>r01_Equal_c _ _ (gO_t hx11 hg)) rfl rfl ⟨.inl rfl,.inl rfl,trivial⟩ ⟨fun h=>h,⟨fun h=>h,trivial⟩⟩ entry19 rfl rfl rfl) (OkD.q (triAnd rfl rfl (fun h=>h) rfl) (OkD.x (aB ((((x6 == x7) && (x1.2 == x2.2)) && x8) && x11)) rfl trivial rfl (OkD.q (triQG (x:=.agg [cI t.Root,cI t.Next,.d (.sl (List.map Node.cs t.Nodes))]) rfl rfl trivial rfl) (OkD.q (triQG (x:=aI a) rfl rfl trivial rfl) ?_))))
 obtain ⟨x12,hx12,hr⟩:=bind_some hr
 refine OkD.q (triCallG (x:=.c (.d (.sl (List.map (eInt .i64) x12)))) (fun hg=>vw_Path_c _ _ (gO_t hx12 hg)) rfl rfl ⟨.inl rfl,.inl rfl,trivial⟩ ⟨fun h=>h,⟨fun h=>h,trivial⟩⟩ entry22 rfl rfl rfl) (OkD.q (triQG (x:=.agg [cI t.Root,cI t.Next,.d (.sl (List.map Node.cs t.Nodes))]) rfl rfl trivial rfl) (OkD.q (triQG (x:=aI a) rfl rfl trivial rfl) ?_))
 obtain ⟨x13,hx13,hr⟩:=bind_some hr
 refine OkD.q (triCallG (x:=.c (.d (.sl (List.map (eInt .i64) x13)))) (fun hg=>r14_Path_c _ _ (gO_t hx13 hg)) rfl rfl ⟨.inl rfl,.inl rfl,trivial⟩ ⟨fun h=>h,⟨fun h=>h,trivial⟩⟩ entry23 rfl rfl rfl) ?_
 obtain ⟨x14,hx14,hr⟩:=bind_some hr
 refine OkD.q (triCallG (x:=aB x14) (fun hg=>r01_Equal_c _ _ (gO_t hx14 hg)) rfl rfl ⟨.inl rfl,.inl rfl,trivial⟩ ⟨fun h=>h,⟨fun h=>h,trivial⟩⟩ entry19 rfl rfl rfl) (OkD.q (triAnd rfl rfl (fun h=>h) rfl) (OkD.x (aB (((((x6 == x7) && (x1.2 == x2.2)) && x8) && x11) && x14)) rfl trivial rfl (OkD.q (triQG (x:=.agg [cI t.Root,cI t.Next,.d (.sl (List.map Node.cs t.Nodes))]) rfl rfl trivial rfl) (OkD.q (triQG (x:=aI a) rfl rfl trivial rfl) (OkD.q (triQG (x:=aI b) rfl rfl trivial rfl) ?_)))))
 obtain ⟨x15,hx15,hr⟩:=bind_some hr
 refine OkD.q (triCallG (x:=aI x15) (fun hg=>vw_Common_c _ _ _ (gO_t hx15 hg)) rfl rfl ⟨.inl rfl,.inl rfl,.inl rfl,trivial⟩ ⟨fun h=>h,⟨fun h=>h,⟨fun h=>h,trivial⟩⟩⟩ entry24 rfl rfl rfl) (OkD.q (triQG (x:=.agg [cI t.Root,cI t.Next,.d (.sl (List.map Node.cs t.Nodes))]) rfl rfl trivial rfl) (OkD.q (triQG (x:=aI a) rfl rfl trivial rfl) (OkD.q (triQG (x:=aI b) rfl rfl trivial rfl) ?_)))
 obtain ⟨x16,hx16,hr⟩:=bind_some hr
 refine OkD.q (triCallG (x:=aI x16) (fun hg=>r14_Common_c _ _ _ (gO_t hx16 hg)) rfl rfl ⟨.inl rfl,.inl rfl,.inl rfl,trivial⟩ ⟨fun h=>h,⟨fun h=>h,⟨fun h=>h,trivial⟩⟩⟩ entry25 rfl rfl rfl) (OkD.q (triQG (x:=aB (x15 == x16)) rfl rfl ⟨fun h=>h,⟨fun h=>h,trivial⟩⟩ rfl) (OkD.q (triAnd rfl rfl (fun h=>h) rfl) (OkD.x (aB ((((((x6 == x7) && (x1.2 == x2.2)) && x8) && x11) && x14) && (x15 == x16))) rfl trivial rfl (OkD.q (triQG (x:=.agg [cI t.Root,cI t.Next,.d (.sl (List.map Node.cs t.Nodes))]) rfl rfl trivial rfl) (OkD.q (triQG (x:=aI a) rfl rfl trivial rfl) ?_)))))
 obtain ⟨x17,hx17,hr⟩:=bind_some hr
 refine OkD.q (triCallG (x:=aS x17) (fun hg=>vw_PathName_c _ _ (gO_t hx17 hg)) rfl rfl ⟨.inl rfl,.inl rfl,trivial⟩ ⟨fun h=>h,⟨fun h=>h,trivial⟩⟩ entry26 rfl rfl rfl) (OkD.q (triQG (x:=.agg [cI t.Root,cI t.Next,.d (.sl (List.map Node.cs t.Nodes))]) rfl rfl trivial rfl) (OkD.q (triQG (x:=aI a) rfl rfl trivial rfl) ?_))
 obtain ⟨x18,hx18,hr⟩:=bind_some hr
 refine OkD.q (triCallG (x:=aS x18) (fun hg=>r14_PathName_c _ _ (gO_t hx18 hg)) rfl rfl ⟨.inl rfl,.inl rfl,trivial⟩ ⟨fun h=>h,⟨fun h=>h,trivial⟩⟩ entry27 rfl rfl rfl) (OkD.q (triQG (x:=aB (x17.toList == x18.toList)) rfl rfl ⟨fun h=>h,⟨fun h=>h,trivial⟩⟩ rfl) (OkD.q (triAnd rfl rfl (fun h=>h) rfl) (OkD.x (aB (((((((x6 == x7) && (x1.2 == x2.2)) && x8) && x11) && x14) && (x15 == x16)) && (x17.toList == x18.toList))) rfl trivial rfl (OkD.nil (by kernel_rfl) (Ok.ret ?_)))))
 obtain rfl:=Option.some.inj hr
 exact ⟨_,rfl,.inl rfl,trivial⟩
theorem entry6 : Entry Tryz.prog 6:=⟨_,Tryz.func6,by kernel_rfl,by kernel_rfl⟩
end Go.Proofs.YtcfegecdlbbeaaaGreatDoor
end

/-
  Part 5 of the texts under the law ViewTreesSpoilt: the calculus, the plain functions, their walks, plain facts.
-/
import Derived.Test.YtcfegecdlbbeaaaGreatDoorViewTreesSpoiltB4
import Derived.Test.YtcfegecdlbbeaaaGreatDoorProg
import Derived.KernelRfl
section
set_option maxRecDepth 100000
namespace Go.Proofs.YtcfegecdlbbeaaaGreatDoor
open Go Go.E2
theorem b_New_c (l : (List Int)) {r : widgetrybase_Src} (hr : b_New l = some r) : Con Tryz.prog 4 [.c (.d (.sl (List.map (eInt .i64) l)))] [] (.s (.c (.loc 0 0))) [(0,.blk [.d (.sl (List.map (eInt .i64) r.L)),cI r.At] 40)]:=by
 unfold b_New at hr
 refine Con.of_ok 11 0 [.tmp 2] [(0,.s (.c (.d (.sl (List.map (eInt .i64) l)))))] Tryz.func4 rfl rfl rfl rfl rfl rfl rfl rfl fun w g M ρ _=>(Ok.seq (Ok.region (OkOps.y (.c (.d (.v (.pointer none)))) (OkOps.nil ?_))))
 obtain ⟨k2,hk2,hr⟩:=jn_some hr
 refine Ok.join (fun (s1 : (List Int))=>⟨[(0,.s (.c (.d (.sl (List.map (eInt .i64) s1)))))],[],0⟩) k2 r (fun s1 hr=>?_) ?_
 rw [hk2] at hr
 refine Ok.seq (Ok.region (OkOps.y (.c (.d (.sl (List.map (eInt .i64) s1)))) (OkOps.y (.agg [.d (.sl (List.map (eInt .i64) s1)),cI 0]) (OkOps.m 0 (triBox (j:=0) (cs:=[.d (.sl (List.map (eInt .i64) s1)),cI 0]) rfl rfl rfl rfl rfl) (OkOps.y (.c (.loc 0 0)) (OkOps.nil (Ok.ret ?_)))))))
 obtain rfl:=Option.some.inj hr
 exact ⟨_,rfl,.inl rfl,⟨rfl,trivial⟩⟩
 clear hk2
 refine Ok.seq (Ok.region (OkOps.y (.c (.d (.sl (List.map (eInt .i64) l)))) (OkOps.q (triLen (enc:=(eInt .i64)) l rfl rfl trivial rfl) (OkOps.y (aB (decide ((l.length : Int) > 4000))) (OkOps.nil ?_)))))
 refine Ok.cond (b:=decide ((l.length : Int) > 4000)) rfl (fun h3=>?_) (fun h3=>?_)
 have hr:=selT h3 hr
 refine Ok.region (OkOps.y (.c (.d (.sl (List.map (eInt .i64) l)))) ?_)
 obtain ⟨x4,hx4,hr⟩:=bind_some hr
 refine OkOps.q (triSlc (enc:=(eInt .i64)) (L:=l) hx4 rfl rfl rfl (.inl ⟨rfl,rfl⟩) (.inr ⟨_,rfl⟩) rfl (fun _=>rfl) trivial rfl) (OkOps.y (.c (.d (.sl (List.map (eInt .i64) x4)))) (OkOps.nil ?_))
 exact ⟨x4,hr,(Conv.mk (tau []) ⟨⟨_,rfl,.inl rfl⟩,trivial⟩ trivial rfl rfl rfl rfl)⟩
 have hr:=selF h3 hr
 refine Ok.skip ?_
 exact ⟨l,hr,(Conv.mk (tau []) ⟨⟨_,rfl,.inl rfl⟩,trivial⟩ trivial rfl rfl rfl rfl)⟩
theorem entry4 : Entry Tryz.prog 4:=⟨_,Tryz.func4,by kernel_rfl,by kernel_rfl⟩
theorem b_Src_N_c (p_s : widgetrybase_Src) (p_n : Int) {r : Int × widgetrybase_Src} (hr : b_Src_N p_s p_n = some r) : Con Tryz.prog 7 [.c (.loc 0 0),aI p_n] [(0,.blk [.d (.sl (List.map (eInt .i64) p_s.L)),cI p_s.At] 40)] (.s (aI r.1)) [(0,.blk [.d (.sl (List.map (eInt .i64) r.2.L)),cI r.2.At] 40)]:=by
 unfold b_Src_N at hr
 refine Con.of_ok 45 0 [.tmp 4] [(0,.s (.c (.loc 0 0))),(1,.s (aI p_n))] Tryz.func7 rfl rfl rfl rfl rfl rfl rfl rfl fun w g M ρ _=>(Ok.seq (Ok.region (OkOps.y (aI 0) (OkOps.nil (Ok.seq (Ok.seq (Ok.regionD (by kernel_rfl) (OkD.x (.c (.loc 0 0)) rfl trivial rfl (OkD.x (.c (.loc 0 0)) rfl trivial rfl (OkD.x (.c (.loc 0 1)) rfl trivial rfl (OkD.x (aI p_s.At) rfl trivial rfl (OkD.x (.c (.loc 0 0)) rfl trivial rfl (OkD.x (.c (.loc 0 0)) rfl trivial rfl (OkD.x (.c (.loc 0 0)) rfl trivial rfl (OkD.x (.c (.d (.sl (List.map (eInt .i64) p_s.L)))) rfl trivial rfl ?_)))))))))))))))
 refine OkD.q (triLen (enc:=(eInt .i64)) p_s.L rfl rfl trivial rfl) (OkD.x (aB (decide (p_s.At ≥ (p_s.L.length : Int)))) rfl trivial rfl (OkD.x (aB (decide (p_s.At ≥ (p_s.L.length : Int)))) rfl trivial rfl (OkD.q (triQG (x:=aI p_n) rfl rfl trivial rfl) (OkD.q (triQG (x:=aB (decide (p_n < 1))) rfl rfl ⟨fun h=>h,trivial⟩ rfl) ?_))))
 refine OkD.q (triOr rfl rfl (fun h=>by rw [h];rfl) rfl) ?_
 refine OkD.nil (by kernel_rfl) ?_
 refine Ok.cond (b:=(decide (p_s.At ≥ (p_s.L.length : Int))) || (decide (p_n < 1))) rfl (fun h1=>?_) (fun h1=>?_)
 have hr:=selT h1 hr
 refine Ok.seq (Ok.region (OkOps.y (aI 0) (OkOps.nil (Ok.ret ?_))))
 obtain rfl:=Option.some.inj hr
 exact ⟨_,rfl,.inl rfl,⟨rfl,trivial⟩⟩
 have hr:=selF h1 hr
 refine Ok.skip (Ok.seq (Ok.regionD (by kernel_rfl) (OkD.x (.c (.loc 0 0)) rfl trivial rfl (OkD.x (.c (.loc 0 0)) rfl trivial rfl (OkD.x (.c (.loc 0 0)) rfl trivial rfl (OkD.x (.c (.d (.sl (List.map (eInt .i64) p_s.L)))) rfl trivial rfl (OkD.x (.c (.loc 0 0)) rfl trivial rfl (OkD.x (.c (.loc 0 0)) rfl trivial rfl (OkD.x (.c (.loc 0 1)) rfl trivial rfl (OkD.x (aI p_s.At) rfl trivial rfl ?_))))))))))
 obtain ⟨x2,hx2,hr⟩:=bind_some hr
 refine OkD.q (triIdx (enc:=(eInt .i64)) (L:=p_s.L) (row:=[dI x2]) hx2 rfl rfl rfl rfl (fun _=>rfl) trivial rfl) (OkD.x (aI x2) rfl trivial rfl (OkD.x (aI p_n) rfl trivial rfl ?_))
 obtain ⟨x3,hx3,hr⟩:=bind_some hr
 refine OkD.q (triRem hx3 rfl rfl trivial rfl) (OkD.x (aI x3) rfl trivial rfl (OkD.nil (by kernel_rfl) (Ok.seq (Ok.region (OkOps.y (.c (.loc 0 0)) (OkOps.y (.c (.loc 0 0)) (OkOps.y (.c (.loc 0 1)) (OkOps.y (aI p_s.At) (OkOps.y (aI (IntKind.i64.wrap (p_s.At + 1))) (OkOps.y (.c (.loc 0 0)) (OkOps.y (.c (.loc 0 1)) (OkOps.w (triStore (cs':=[.d (.sl (List.map (eInt .i64) p_s.L)),cI (IntKind.i64.wrap (p_s.At + 1))]) rfl rfl rfl rfl rfl rfl rfl rfl rfl) (OkOps.nil ?_)))))))))))))
 obtain ⟨k5,hk5,hr⟩:=jn_some hr
 refine Ok.join (fun (s4 : Int)=>⟨[(5,.s (aI s4))],[(0,.blk [.d (.sl (List.map (eInt .i64) p_s.L)),cI (IntKind.i64.wrap (p_s.At + 1))] 40)],0⟩) k5 r (fun s4 hr=>?_) ?_
 rw [hk5] at hr
 refine Ok.seq (Ok.region (OkOps.y (aI s4) (OkOps.y (aI s4) (OkOps.nil (Ok.ret ?_)))))
 obtain rfl:=Option.some.inj hr
 exact ⟨_,rfl,.inl rfl,⟨rfl,trivial⟩⟩
 clear hk5
 refine Ok.seq (Ok.region (OkOps.y (aI x3) (OkOps.y (aB (decide (x3 < 0))) (OkOps.nil ?_))))
 refine Ok.cond (b:=decide (x3 < 0)) rfl (fun h6=>?_) (fun h6=>?_)
 have hr:=selT h6 hr
 refine Ok.region (OkOps.y (aI x3) (OkOps.y (aI p_n) (OkOps.y (aI (IntKind.i64.wrap (x3 + p_n))) (OkOps.y (aI (IntKind.i64.wrap (x3 + p_n))) (OkOps.nil ?_)))))
 exact ⟨IntKind.i64.wrap (x3 + p_n),hr,(Conv.mk (tau []) ⟨⟨_,rfl,.inl rfl⟩,trivial⟩ ⟨rfl,trivial⟩ rfl rfl rfl rfl)⟩
 have hr:=selF h6 hr
 refine Ok.skip ?_
 exact ⟨x3,hr,(Conv.mk (tau []) ⟨⟨_,rfl,.inl rfl⟩,trivial⟩ ⟨rfl,trivial⟩ rfl rfl rfl rfl)⟩
theorem entry7 : Entry Tryz.prog 7:=⟨_,Tryz.func7,by kernel_rfl,by kernel_rfl⟩
theorem b_Src_Raw_c (p_s : widgetrybase_Src) {r : Int × widgetrybase_Src} (hr : b_Src_Raw p_s = some r) : Con Tryz.prog 90 [.c (.loc 0 0)] [(0,.blk [.d (.sl (List.map (eInt .i64) p_s.L)),cI p_s.At] 40)] (.s (aI r.1)) [(0,.blk [.d (.sl (List.map (eInt .i64) r.2.L)),cI r.2.At] 40)]:=by
 unfold b_Src_Raw at hr
 refine Con.of_ok 31 0 [.tmp 2] [(0,.s (.c (.loc 0 0)))] Tryz.func90 rfl rfl rfl rfl rfl rfl rfl rfl fun w g M ρ _=>(Ok.seq (Ok.region (OkOps.y (aI 0) (OkOps.nil (Ok.seq (Ok.seq (Ok.regionD (by kernel_rfl) (OkD.x (.c (.loc 0 0)) rfl trivial rfl (OkD.x (.c (.loc 0 0)) rfl trivial rfl (OkD.x (.c (.loc 0 1)) rfl trivial rfl (OkD.x (aI p_s.At) rfl trivial rfl (OkD.x (.c (.loc 0 0)) rfl trivial rfl (OkD.x (.c (.loc 0 0)) rfl trivial rfl (OkD.x (.c (.loc 0 0)) rfl trivial rfl (OkD.x (.c (.d (.sl (List.map (eInt .i64) p_s.L)))) rfl trivial rfl ?_)))))))))))))))
 refine OkD.q (triLen (enc:=(eInt .i64)) p_s.L rfl rfl trivial rfl) (OkD.x (aB (decide (p_s.At ≥ (p_s.L.length : Int)))) rfl trivial rfl (OkD.nil (by kernel_rfl) ?_))
 refine Ok.cond (b:=decide (p_s.At ≥ (p_s.L.length : Int))) rfl (fun h1=>?_) (fun h1=>?_)
 have hr:=selT h1 hr
 refine Ok.seq (Ok.region (OkOps.y (aI 0) (OkOps.nil (Ok.ret ?_))))
 obtain rfl:=Option.some.inj hr
 exact ⟨_,rfl,.inl rfl,⟨rfl,trivial⟩⟩
 have hr:=selF h1 hr
 refine Ok.skip (Ok.seq (Ok.region (OkOps.y (.c (.loc 0 0)) (OkOps.y (.c (.loc 0 0)) (OkOps.y (.c (.loc 0 1)) (OkOps.y (aI p_s.At) (OkOps.y (aI (IntKind.i64.wrap (p_s.At + 1))) (OkOps.y (.c (.loc 0 0)) (OkOps.y (.c (.loc 0 1)) (OkOps.w (triStore (cs':=[.d (.sl (List.map (eInt .i64) p_s.L)),cI (IntKind.i64.wrap (p_s.At + 1))]) rfl rfl rfl rfl rfl rfl rfl rfl rfl) (OkOps.nil (Ok.seq (Ok.regionD (by kernel_rfl) (OkD.x (.c (.loc 0 0)) rfl trivial rfl (OkD.x (.c (.loc 0 0)) rfl trivial rfl ?_)))))))))))))))
 refine OkD.x (.c (.loc 0 0)) rfl trivial rfl (OkD.x (.c (.d (.sl (List.map (eInt .i64) p_s.L)))) rfl trivial rfl (OkD.x (.c (.loc 0 0)) rfl trivial rfl (OkD.x (.c (.loc 0 0)) rfl trivial rfl (OkD.x (.c (.loc 0 1)) rfl trivial rfl (OkD.x (aI (IntKind.i64.wrap (p_s.At + 1))) rfl trivial rfl (OkD.x (aI (IntKind.i64.wrap ((IntKind.i64.wrap (p_s.At + 1)) - 1))) rfl trivial rfl ?_))))))
 obtain ⟨x2,hx2,hr⟩:=bind_some hr
 refine OkD.q (triIdx (enc:=(eInt .i64)) (L:=p_s.L) (row:=[dI x2]) hx2 rfl rfl rfl rfl (fun _=>rfl) trivial rfl) (OkD.x (aI x2) rfl trivial rfl (OkD.x (aI x2) rfl trivial rfl (OkD.nil (by kernel_rfl) (Ok.ret ?_))))
 obtain rfl:=Option.some.inj hr
 exact ⟨_,rfl,.inl rfl,⟨rfl,trivial⟩⟩
theorem entry90 : Entry Tryz.prog 90:=⟨_,Tryz.func90,by kernel_rfl,by kernel_rfl⟩
theorem b_Src_Chance_c (p_s : widgetrybase_Src) (p_n : Int) {r : Bool × widgetrybase_Src} (hr : b_Src_Chance p_s p_n = some r) : Con Tryz.prog 89 [.c (.loc 0 0),aI p_n] [(0,.blk [.d (.sl (List.map (eInt .i64) p_s.L)),cI p_s.At] 40)] (.s (aB r.1)) [(0,.blk [.d (.sl (List.map (eInt .i64) r.2.L)),cI r.2.At] 40)]:=by
 unfold b_Src_Chance at hr
 refine Con.of_ok 11 0 [.tmp 4] [(0,.s (.c (.loc 0 0))),(1,.s (aI p_n))] Tryz.func89 rfl rfl rfl rfl rfl rfl rfl rfl fun w g M ρ _=>(Ok.seq (Ok.region (OkOps.y (aB false) (OkOps.nil (Ok.seq (Ok.region (OkOps.y (.c (.loc 0 0)) (OkOps.y (aI p_n) ?_))))))))
 obtain ⟨x1,hx1,hr⟩:=bind_some hr
 refine OkOps.m 0 (triCl (tau [(0,0)]) (.s (aI x1.1)) [(0,.blk [.d (.sl (List.map (eInt .i64) x1.2.L)),cI x1.2.At] 40)] (b_Src_N_c _ _ hx1) rfl ⟨.inl rfl,.inl rfl,trivial⟩ trivial entry7 ⟨rfl,trivial⟩) (OkOps.y (aI p_n) (OkOps.y (aI (IntKind.i64.wrap (p_n - 1))) (OkOps.y (aB (x1.1 == (IntKind.i64.wrap (p_n - 1)))) (OkOps.y (aB (x1.1 == (IntKind.i64.wrap (p_n - 1)))) (OkOps.nil (Ok.ret ?_))))))
 obtain rfl:=Option.some.inj hr
 exact ⟨_,rfl,.inl rfl,⟨rfl,trivial⟩⟩
theorem entry89 : Entry Tryz.prog 89:=⟨_,Tryz.func89,by kernel_rfl,by kernel_rfl⟩
theorem b_Src_Range_c (p_s : widgetrybase_Src) (low : Int) (high : Int) {r : Int × widgetrybase_Src} (hr : b_Src_Range p_s low high = some r) : Con Tryz.prog 8 [.c (.loc 0 0),aI low,aI high] [(0,.blk [.d (.sl (List.map (eInt .i64) p_s.L)),cI p_s.At] 40)] (.s (aI r.1)) [(0,.blk [.d (.sl (List.map (eInt .i64) r.2.L)),cI r.2.At] 40)]:=by
 unfold b_Src_Range at hr
 refine Con.of_ok 15 0 [.tmp 6] [(0,.s (.c (.loc 0 0))),(1,.s (aI low)),(2,.s (aI high))] Tryz.func8 rfl rfl rfl rfl rfl rfl rfl rfl fun w g M ρ _=>(Ok.seq (Ok.region (OkOps.y (aI 0) (OkOps.nil (Ok.seq (Ok.region (OkOps.y (aI low) (OkOps.y (.c (.loc 0 0)) (OkOps.y (aI high) (OkOps.y (aI low) (OkOps.y (aI (IntKind.i64.wrap (high - low))) (OkOps.y (aI (IntKind.i64.wrap ((IntKind.i64.wrap (high - low)) + 1))) ?_))))))))))))
 obtain ⟨x1,hx1,hr⟩:=bind_some hr
 refine OkOps.m 0 (triCl (tau [(0,0)]) (.s (aI x1.1)) [(0,.blk [.d (.sl (List.map (eInt .i64) x1.2.L)),cI x1.2.At] 40)] (b_Src_N_c _ _ hx1) rfl ⟨.inl rfl,.inl rfl,trivial⟩ trivial entry7 ⟨rfl,trivial⟩) (OkOps.y (aI (IntKind.i64.wrap (low + x1.1))) (OkOps.y (aI (IntKind.i64.wrap (low + x1.1))) (OkOps.nil (Ok.ret ?_))))
 obtain rfl:=Option.some.inj hr
 exact ⟨_,rfl,.inl rfl,⟨rfl,trivial⟩⟩
theorem entry8 : Entry Tryz.prog 8:=⟨_,Tryz.func8,by kernel_rfl,by kernel_rfl⟩
theorem b_alphabet_c  {r : (List Int)} (hr : b_alphabet  = some r) : Con Tryz.prog 88 [] [] (.s (.c (.d (.sl (List.map (eInt .i32) r))))) []:=by
 unfold b_alphabet at hr
 refine Con.of_ok 2 0 [.tmp 0] [] Tryz.func88 rfl rfl rfl rfl rfl rfl rfl rfl fun w g M ρ _=>(Ok.seq (Ok.region (OkOps.y (.c (.d (.v (.slice none 0 0)))) (OkOps.nil (Ok.seq (Ok.region (OkOps.m 0 (triBST (sz:=1) (enc:=(eInt .i32)) (j:=0) ([97,98,102,105,88,49,50,32,32,46,44,45,39,34,40,41,91,93,60,33,58,95,37,43,47,9,10,13,11,133,160,173,183,769,1488,1489,1470,1456,1536,1575,1576,1587,1600,1611,1633,1642,1548,1564,1777,2307,2309,2364,4352,4449,4520,44032,44033,8201,8203,8204,8205,8206,8207,8217,8232,8233,8234,8235,8236,8237,8238,8288,8294,8295,8296,8297,9728,12288,12289,12300,12301,12450,19968,65039,127462,127463,127995,128104,1114111]) rfl rfl rfl rfl rfl rfl rfl rfl (fun _=>rfl) trivial rfl rfl) (OkOps.y (.c (.tl 0 (List.map (eInt .i32) ([97,98,102,105,88,49,50,32,32,46,44,45,39,34,40,41,91,93,60,33,58,95,37,43,47,9,10,13,11,133,160,173,183,769,1488,1489,1470,1456,1536,1575,1576,1587,1600,1611,1633,1642,1548,1564,1777,2307,2309,2364,4352,4449,4520,44032,44033,8201,8203,8204,8205,8206,8207,8217,8232,8233,8234,8235,8236,8237,8238,8288,8294,8295,8296,8297,9728,12288,12289,12300,12301,12450,19968,65039,127462,127463,127995,128104,1114111])))) (OkOps.nil (Ok.ret ?_))))))))))
 obtain rfl:=Option.some.inj hr
 exact ⟨_,rfl,.inr rfl,trivial⟩
theorem entry88 : Entry Tryz.prog 88:=⟨_,Tryz.func88,by kernel_rfl,by kernel_rfl⟩
theorem b_Src_Rune_c (p_s : widgetrybase_Src) {r : Int × widgetrybase_Src} (hr : b_Src_Rune p_s = some r) : Con Tryz.prog 80 [.c (.loc 0 0)] [(0,.blk [.d (.sl (List.map (eInt .i64) p_s.L)),cI p_s.At] 40)] (.s (.c (.d (.v (.int .i32 r.1))))) [(0,.blk [.d (.sl (List.map (eInt .i64) r.2.L)),cI r.2.At] 40)]:=by
 unfold b_Src_Rune at hr
 refine Con.of_ok 17 0 [.tmp 2] [(0,.s (.c (.loc 0 0)))] Tryz.func80 rfl rfl rfl rfl rfl rfl rfl rfl fun w g M ρ _=>(Ok.seq (Ok.region (OkOps.y (.c (.d (.v (.int .i32 0)))) (OkOps.nil (Ok.seq (Ok.region ?_))))))
 obtain ⟨x1,hx1,hr⟩:=bind_some hr
 refine OkOps.q (triCl (tau []) (.s (.c (.d (.sl (List.map (eInt .i32) x1))))) [] (b_alphabet_c  hx1) rfl trivial trivial entry88 trivial) (OkOps.y (.c (.d (.sl (List.map (eInt .i32) x1)))) (OkOps.nil (Ok.seq (Ok.seq (Ok.region (OkOps.y (.c (.loc 0 0)) ?_))))))
 obtain ⟨x2,hx2,hr⟩:=bind_some hr
 refine OkOps.m 0 (triCl (tau [(0,0)]) (.s (aB x2.1)) [(0,.blk [.d (.sl (List.map (eInt .i64) x2.2.L)),cI x2.2.At] 40)] (b_Src_Chance_c _ _ hx2) rfl ⟨.inl rfl,.inl rfl,trivial⟩ trivial entry89 ⟨rfl,trivial⟩) (OkOps.nil ?_)
 refine Ok.cond (b:=x2.1) rfl (fun h3=>?_) (fun h3=>?_)
 have hr:=selT h3 hr
 refine Ok.seq (Ok.region (OkOps.y (.c (.loc 0 0)) ?_))
 obtain ⟨x4,hx4,hr⟩:=bind_some hr
 refine OkOps.m 0 (triCl (tau [(0,0)]) (.s (aI x4.1)) [(0,.blk [.d (.sl (List.map (eInt .i64) x4.2.L)),cI x4.2.At] 40)] (b_Src_Raw_c _ hx4) rfl ⟨.inl rfl,trivial⟩ trivial entry90 ⟨rfl,trivial⟩) (OkOps.y (.c (.d (.v (.int .i32 (IntKind.i32.wrap x4.1))))) (OkOps.y (.c (.d (.v (.int .i32 (IntKind.i32.wrap x4.1))))) (OkOps.nil (Ok.ret ?_))))
 obtain rfl:=Option.some.inj hr
 exact ⟨_,rfl,.inl rfl,⟨rfl,trivial⟩⟩
 have hr:=selF h3 hr
 refine Ok.skip (Ok.seq (Ok.region (OkOps.y (.c (.d (.sl (List.map (eInt .i32) x1)))) (OkOps.y (.c (.loc 0 0)) (OkOps.y (.c (.d (.sl (List.map (eInt .i32) x1)))) (OkOps.q (triLen (enc:=(eInt .i32)) x1 rfl rfl trivial rfl) ?_))))))
 obtain ⟨x5,hx5,hr⟩:=bind_some hr
 refine OkOps.m 0 (triCl (tau [(0,0)]) (.s (aI x5.1)) [(0,.blk [.d (.sl (List.map (eInt .i64) x5.2.L)),cI x5.2.At] 40)] (b_Src_N_c _ _ hx5) rfl ⟨.inl rfl,.inl rfl,trivial⟩ trivial entry7 ⟨rfl,trivial⟩) ?_
 obtain ⟨x6,hx6,hr⟩:=bind_some hr
 refine OkOps.q (triIdx (enc:=(eInt .i32)) (L:=x1) (row:=[.v (.int .i32 x6)]) hx6 rfl rfl rfl rfl (fun _=>rfl) trivial rfl) (OkOps.y (.c (.d (.v (.int .i32 x6)))) (OkOps.y (.c (.d (.v (.int .i32 x6)))) (OkOps.nil (Ok.ret ?_))))
 obtain rfl:=Option.some.inj hr
 exact ⟨_,rfl,.inl rfl,⟨rfl,trivial⟩⟩
theorem entry80 : Entry Tryz.prog 80:=⟨_,Tryz.func80,by kernel_rfl,by kernel_rfl⟩
theorem b_Src_Text_c (p_s : widgetrybase_Src) (p_n : Int) {r : (List Int) × widgetrybase_Src} (hr : b_Src_Text p_s p_n = some r) : Con Tryz.prog 70 [.c (.loc 0 0),aI p_n] [(0,.blk [.d (.sl (List.map (eInt .i64) p_s.L)),cI p_s.At] 40)] (.s (.c (.d (.sl (List.map (eInt .i32) r.1))))) [(0,.blk [.d (.sl (List.map (eInt .i64) r.2.L)),cI r.2.At] 40)]:=by
 unfold b_Src_Text at hr
 refine Con.of_ok 47 0 [.tmp 4] [(0,.s (.c (.loc 0 0))),(1,.s (aI p_n))] Tryz.func70 rfl rfl rfl rfl rfl rfl rfl rfl fun w g M ρ _=>(Ok.seq (Ok.region (OkOps.y (.c (.d (.v (.slice none 0 0)))) (OkOps.nil (Ok.seq (Ok.region (OkOps.y (.c (.loc 0 0)) (OkOps.y (aI p_n) (OkOps.y (aI (IntKind.i64.wrap (p_n + 1))) ?_)))))))))
 obtain ⟨x1,hx1,hr⟩:=bind_some hr
 refine OkOps.m 0 (triCl (tau [(0,0)]) (.s (aI x1.1)) [(0,.blk [.d (.sl (List.map (eInt .i64) x1.2.L)),cI x1.2.At] 40)] (b_Src_N_c _ _ hx1) rfl ⟨.inl rfl,.inl rfl,trivial⟩ trivial entry7 ⟨rfl,trivial⟩) (OkOps.y (aI x1.1) (OkOps.nil (Ok.seq (Ok.region (OkOps.y (.c (.d (.v (.slice none 0 0)))) (OkOps.nil (Ok.seq (Ok.region (OkOps.y (.c (.loc 0 0)) ?_)))))))))
 obtain ⟨x2,hx2,hr⟩:=bind_some hr
 refine OkOps.m 0 (triCl (tau [(0,0)]) (.s (aI x2.1)) [(0,.blk [.d (.sl (List.map (eInt .i64) x2.2.L)),cI x2.2.At] 40)] (b_Src_N_c _ _ hx2) rfl ⟨.inl rfl,.inl rfl,trivial⟩ trivial entry7 ⟨rfl,trivial⟩) (OkOps.y (aI x2.1) (OkOps.nil (Ok.seq (Ok.region (OkOps.y (.c (.d (.v (.slice none 0 0)))) (OkOps.nil ?_))))))
 obtain ⟨k4,hk4,hr⟩:=jn_some hr
 refine Ok.join (fun (s3 : (List Int) × (List Int) × Int)=>⟨[(0,.s (.c (.loc 0 0))),(5,.s (aI x1.1)),(6,.s (.c (.d (.v (.slice none 0 0))))),(7,.s (aI x2.1)),(8,.s (.c (.tl 1004 (List.map (eInt .i32) s3.1))))],[(0,.blk [.d (.sl (List.map (eInt .i64) s3.2.1)),cI s3.2.2] 40),(1004,.tail 1)],0⟩) k4 r (fun s3 hr=>?_) ?_
 rw [hk4] at hr
 obtain ⟨k6,hk6,hr⟩:=jn_some hr
 refine Ok.join (fun (s5 : (List Int) × (List Int) × Int)=>⟨[(6,.s (.c (.tl 1012 (List.map (eInt .i32) s5.1))))],[(0,.blk [.d (.sl (List.map (eInt .i64) s5.2.1)),cI s5.2.2] 40),(1012,.tail 1)],0⟩) k6 r (fun s5 hr=>?_) ?_
 rw [hk6] at hr
 refine Ok.seq (Ok.region (OkOps.y (.c (.tl 1012 (List.map (eInt .i32) s5.1))) (OkOps.y (.c (.tl 1012 (List.map (eInt .i32) s5.1))) (OkOps.nil (Ok.ret ?_)))))
 obtain rfl:=Option.some.inj hr
 exact ⟨_,rfl,.inr rfl,⟨rfl,trivial⟩⟩
 clear hk6
 refine Ok.seq (Ok.region (OkOps.y (aI 0) (OkOps.nil (Ok.block (Ok.loopK (fun (s7 : (List Int) × Int × (List Int) × Int)=>⟨[(0,.s (.c (.loc 0 0))),(5,.s (aI x1.1)),(6,.s (.c (.tl 1016 (List.map (eInt .i32) s7.1)))),(7,.s (aI x2.1)),(8,.s (.c (.tl 1004 (List.map (eInt .i32) s3.1)))),(10,.s (aI s7.2.1))],[(0,.blk [.d (.sl (List.map (eInt .i64) s7.2.2.1)),cI s7.2.2.2] 40),(1004,.tail 1),(1016,.tail 1)],0⟩) hr (Conv.trans (Conv.nil 6 1019 1 0 rfl rfl) (Conv.mk (tau [(1016,1019)]) ⟨⟨_,rfl,.inl rfl⟩,⟨_,rfl,.inl rfl⟩,⟨_,rfl,.inl rfl⟩,⟨_,rfl,.inl rfl⟩,⟨_,rfl,.inl rfl⟩,⟨_,rfl,.inl rfl⟩,trivial⟩ ⟨rfl,rfl,rfl,trivial⟩ rfl rfl rfl rfl)) ?_)))))
 clear hr
 intro again8 s7 hr
 unfold b_Src_Text_L1 at hr
 refine Ok.seq (Ok.seq (Ok.region (OkOps.y (aI s7.2.1) (OkOps.y (aI x1.1) (OkOps.y (aB (decide (s7.2.1 < x1.1))) (OkOps.nil ?_))))))
 refine Ok.cond (b:=decide (s7.2.1 < x1.1)) rfl (fun h9=>?_) (fun h9=>?_)
 have hr:=selT h9 hr
 refine Ok.skip ?_
 obtain ⟨k11,hk11,hr⟩:=jn_some hr
 refine Ok.join (fun (s10 : (List Int) × (List Int) × Int)=>⟨[(0,.s (.c (.loc 0 0))),(5,.s (aI x1.1)),(6,.s (.c (.tl 1020 (List.map (eInt .i32) s10.1)))),(7,.s (aI x2.1)),(8,.s (.c (.tl 1004 (List.map (eInt .i32) s3.1)))),(10,.s (aI s7.2.1))],[(0,.blk [.d (.sl (List.map (eInt .i64) s10.2.1)),cI s10.2.2] 40),(1004,.tail 1),(1020,.tail 1)],0⟩) k11 r (fun s10 hr=>?_) ?_
 rw [hk11] at hr
 refine Ok.region (OkOps.y (aI s7.2.1) (OkOps.y (aI (IntKind.i64.wrap (s7.2.1 + 1))) (OkOps.y (aI (IntKind.i64.wrap (s7.2.1 + 1))) (OkOps.nil ?_))))
 exact ⟨(s10.1,IntKind.i64.wrap (s7.2.1 + 1),s10.2.1,s10.2.2),hr,(Conv.mk (tau [(1016,1020)]) ⟨⟨_,rfl,.inl rfl⟩,⟨_,rfl,.inl rfl⟩,⟨_,rfl,.inl rfl⟩,⟨_,rfl,.inl rfl⟩,⟨_,rfl,.inl rfl⟩,⟨_,rfl,.inl rfl⟩,trivial⟩ ⟨rfl,rfl,rfl,trivial⟩ rfl rfl rfl rfl)⟩
 clear hk11
 refine Ok.block (Ok.seq (Ok.region (OkOps.y (aI x2.1) (OkOps.y (aB (decide (x2.1 > 0))) (OkOps.nil ?_)))))
 refine Ok.cond (b:=decide (x2.1 > 0)) rfl (fun h12=>?_) (fun h12=>?_)
 have hr:=selT h12 hr
 refine Ok.region (OkOps.y (.c (.tl 1016 (List.map (eInt .i32) s7.1))) (OkOps.y (.c (.tl 1004 (List.map (eInt .i32) s3.1))) (OkOps.y (.c (.loc 0 0)) ?_)))
 obtain ⟨x13,hx13,hr⟩:=bind_some hr
 refine OkOps.m 0 (triCl (tau [(0,0)]) (.s (aI x13.1)) [(0,.blk [.d (.sl (List.map (eInt .i64) x13.2.L)),cI x13.2.At] 40)] (b_Src_N_c _ _ hx13) rfl ⟨.inl rfl,.inl rfl,trivial⟩ trivial entry7 ⟨rfl,trivial⟩) ?_
 obtain ⟨x14,hx14,hr⟩:=bind_some hr
 refine OkOps.q (triIdx (enc:=(eInt .i32)) (L:=s3.1) (row:=[.v (.int .i32 x14)]) hx14 rfl rfl rfl rfl (fun _=>rfl) trivial rfl) (OkOps.y (.c (.d (.v (.int .i32 x14)))) (OkOps.m 0 (triBST (sz:=1) (enc:=(eInt .i32)) (j:=1) ([x14]) rfl rfl rfl rfl rfl rfl rfl rfl (fun _=>rfl) trivial rfl rfl) ?_))
 obtain ⟨x15,hx15,hr⟩:=bind_some hr
 refine OkOps.m2 0 (triApp (enc:=(eInt .i32)) (L:=s7.1) (X:=[x14]) (j:=1016) (j':=2) hx15 rfl rfl rfl rfl rfl rfl (fun _=>rfl) (fun _=>rfl) (by decide) trivial rfl rfl) (OkOps.y (.c (.tl 2 (List.map (eInt .i32) x15))) (OkOps.nil ?_))
 exact ⟨(x15,x13.2.L,x13.2.At),hr,(Conv.mk (tau [(1020,2)]) ⟨⟨_,rfl,.inl rfl⟩,⟨_,rfl,.inl rfl⟩,⟨_,rfl,.inl rfl⟩,⟨_,rfl,.inl rfl⟩,⟨_,rfl,.inl rfl⟩,⟨_,rfl,.inl rfl⟩,trivial⟩ ⟨rfl,rfl,rfl,trivial⟩ rfl rfl rfl rfl)⟩
 have hr:=selF h12 hr
 refine Ok.region (OkOps.y (.c (.tl 1016 (List.map (eInt .i32) s7.1))) (OkOps.y (.c (.loc 0 0)) ?_))
 obtain ⟨x16,hx16,hr⟩:=bind_some hr
 refine OkOps.m 0 (triCl (tau [(0,0)]) (.s (.c (.d (.v (.int .i32 x16.1))))) [(0,.blk [.d (.sl (List.map (eInt .i64) x16.2.L)),cI x16.2.At] 40)] (b_Src_Rune_c _ hx16) rfl ⟨.inl rfl,trivial⟩ trivial entry80 ⟨rfl,trivial⟩) (OkOps.m 0 (triBST (sz:=1) (enc:=(eInt .i32)) (j:=3) ([x16.1]) rfl rfl rfl rfl rfl rfl rfl rfl (fun _=>rfl) trivial rfl rfl) ?_)
 obtain ⟨x17,hx17,hr⟩:=bind_some hr
 refine OkOps.m2 0 (triApp (enc:=(eInt .i32)) (L:=s7.1) (X:=[x16.1]) (j:=1016) (j':=4) hx17 rfl rfl rfl rfl rfl rfl (fun _=>rfl) (fun _=>rfl) (by decide) trivial rfl rfl) (OkOps.y (.c (.tl 4 (List.map (eInt .i32) x17))) (OkOps.nil ?_))
 exact ⟨(x17,x16.2.L,x16.2.At),hr,(Conv.mk (tau [(1020,4)]) ⟨⟨_,rfl,.inl rfl⟩,⟨_,rfl,.inl rfl⟩,⟨_,rfl,.inl rfl⟩,⟨_,rfl,.inl rfl⟩,⟨_,rfl,.inl rfl⟩,⟨_,rfl,.inl rfl⟩,trivial⟩ ⟨rfl,rfl,rfl,trivial⟩ rfl rfl rfl rfl)⟩
 have hr:=selF h9 hr
 refine Ok.exit ?_
 exact ⟨(s7.1,s7.2.2.1,s7.2.2.2),hr,(Conv.mk (tau [(1012,1016)]) ⟨⟨_,rfl,.inl rfl⟩,trivial⟩ ⟨rfl,rfl,trivial⟩ rfl rfl rfl rfl)⟩
 clear hk4
 refine Ok.seq (Ok.region (OkOps.y (aI 0) (OkOps.nil (Ok.block (Ok.loopK (fun (s18 : (List Int) × Int × (List Int) × Int)=>⟨[(0,.s (.c (.loc 0 0))),(5,.s (aI x1.1)),(6,.s (.c (.d (.v (.slice none 0 0))))),(7,.s (aI x2.1)),(8,.s (.c (.tl 1023 (List.map (eInt .i32) s18.1)))),(9,.s (aI s18.2.1))],[(0,.blk [.d (.sl (List.map (eInt .i64) s18.2.2.1)),cI s18.2.2.2] 40),(1023,.tail 1)],0⟩) hr (Conv.trans (Conv.nil 8 1025 1 0 rfl rfl) (Conv.mk (tau [(1023,1025)]) ⟨⟨_,rfl,.inl rfl⟩,⟨_,rfl,.inl rfl⟩,⟨_,rfl,.inl rfl⟩,⟨_,rfl,.inl rfl⟩,⟨_,rfl,.inl rfl⟩,⟨_,rfl,.inl rfl⟩,trivial⟩ ⟨rfl,rfl,trivial⟩ rfl rfl rfl rfl)) ?_)))))
 clear hr
 intro again19 s18 hr
 unfold b_Src_Text_L2 at hr
 refine Ok.seq (Ok.seq (Ok.region (OkOps.y (aI s18.2.1) (OkOps.y (aB (decide (s18.2.1 < 5))) (OkOps.nil ?_)))))
 refine Ok.cond (b:=decide (s18.2.1 < 5)) rfl (fun h20=>?_) (fun h20=>?_)
 have hr:=selT h20 hr
 refine Ok.skip (Ok.seq (Ok.block (Ok.region (OkOps.y (.c (.tl 1023 (List.map (eInt .i32) s18.1))) (OkOps.y (.c (.loc 0 0)) ?_)))))
 obtain ⟨x21,hx21,hr⟩:=bind_some hr
 refine OkOps.m 0 (triCl (tau [(0,0)]) (.s (.c (.d (.v (.int .i32 x21.1))))) [(0,.blk [.d (.sl (List.map (eInt .i64) x21.2.L)),cI x21.2.At] 40)] (b_Src_Rune_c _ hx21) rfl ⟨.inl rfl,trivial⟩ trivial entry80 ⟨rfl,trivial⟩) (OkOps.m 0 (triBST (sz:=1) (enc:=(eInt .i32)) (j:=5) ([x21.1]) rfl rfl rfl rfl rfl rfl rfl rfl (fun _=>rfl) trivial rfl rfl) ?_)
 obtain ⟨x22,hx22,hr⟩:=bind_some hr
 refine OkOps.m2 0 (triApp (enc:=(eInt .i32)) (L:=s18.1) (X:=[x21.1]) (j:=1023) (j':=6) hx22 rfl rfl rfl rfl rfl rfl (fun _=>rfl) (fun _=>rfl) (by decide) trivial rfl rfl) (OkOps.y (.c (.tl 6 (List.map (eInt .i32) x22))) (OkOps.nil (Ok.region (OkOps.y (aI s18.2.1) (OkOps.y (aI (IntKind.i64.wrap (s18.2.1 + 1))) (OkOps.y (aI (IntKind.i64.wrap (s18.2.1 + 1))) (OkOps.nil ?_)))))))
 exact ⟨(x22,IntKind.i64.wrap (s18.2.1 + 1),x21.2.L,x21.2.At),hr,(Conv.mk (tau [(1023,6)]) ⟨⟨_,rfl,.inl rfl⟩,⟨_,rfl,.inl rfl⟩,⟨_,rfl,.inl rfl⟩,⟨_,rfl,.inl rfl⟩,⟨_,rfl,.inl rfl⟩,⟨_,rfl,.inl rfl⟩,trivial⟩ ⟨rfl,rfl,trivial⟩ rfl rfl rfl rfl)⟩
 have hr:=selF h20 hr
 refine Ok.exit ?_
 exact ⟨(s18.1,s18.2.2.1,s18.2.2.2),hr,(Conv.mk (tau [(1004,1023)]) ⟨⟨_,rfl,.inl rfl⟩,⟨_,rfl,.inl rfl⟩,⟨_,rfl,.inl rfl⟩,⟨_,rfl,.inl rfl⟩,⟨_,rfl,.inl rfl⟩,trivial⟩ ⟨rfl,rfl,trivial⟩ rfl rfl rfl rfl)⟩
theorem entry70 : Entry Tryz.prog 70:=⟨_,Tryz.func70,by kernel_rfl,by kernel_rfl⟩
theorem b_Src_valid_c (p_s : widgetrybase_Src) (l : (List Int)) {r : (List Int) × widgetrybase_Src} (hr : b_Src_valid p_s l = some r) : Con Tryz.prog 69 [.c (.loc 0 0),.c (.d (.sl (List.map (eInt .i32) l)))] [(0,.blk [.d (.sl (List.map (eInt .i64) p_s.L)),cI p_s.At] 40)] (.s (.c (.d (.sl (List.map (eInt .i32) r.1))))) [(0,.blk [.d (.sl (List.map (eInt .i64) r.2.L)),cI r.2.At] 40)]:=by
 unfold b_Src_valid at hr
 refine Con.of_ok 8 0 [.tmp 4] [(0,.s (.c (.loc 0 0))),(1,.s (.c (.d (.sl (List.map (eInt .i32) l)))))] Tryz.func69 rfl rfl rfl rfl rfl rfl rfl rfl fun w g M ρ _=>(Ok.seq (Ok.region (OkOps.y (.c (.d (.v (.slice none 0 0)))) (OkOps.nil (Ok.seq (Ok.region (OkOps.y (.c (.d (.sl (List.map (eInt .i32) l)))) (OkOps.q (triOfRunes (L:=l) rfl rfl trivial rfl) (OkOps.q (triRunes rfl rfl trivial rfl) (OkOps.y (.c (.d (.sl (List.map (eInt .i32) (runes (ofRunes l)))))) (OkOps.nil (Ok.ret ?_))))))))))))
 obtain rfl:=Option.some.inj hr
 exact ⟨_,rfl,.inl rfl,⟨rfl,trivial⟩⟩
theorem entry69 : Entry Tryz.prog 69:=⟨_,Tryz.func69,by kernel_rfl,by kernel_rfl⟩
theorem b_Src_Word_c (p_s : widgetrybase_Src) (p_n : Int) {r : Str × widgetrybase_Src} (hr : b_Src_Word p_s p_n = some r) : Con Tryz.prog 71 [.c (.loc 0 0),aI p_n] [(0,.blk [.d (.sl (List.map (eInt .i64) p_s.L)),cI p_s.At] 40)] (.s (aS r.1)) [(0,.blk [.d (.sl (List.map (eInt .i64) r.2.L)),cI r.2.At] 40)]:=by
 unfold b_Src_Word at hr
 refine Con.of_ok 28 0 [.tmp 4] [(0,.s (.c (.loc 0 0))),(1,.s (aI p_n))] Tryz.func71 rfl rfl rfl rfl rfl rfl rfl rfl fun w g M ρ _=>(Ok.seq (Ok.region (OkOps.y (aS (ByteArray.mk #[])) (OkOps.nil (Ok.seq (Ok.region (OkOps.y (.c (.loc 0 0)) (OkOps.y (aI p_n) (OkOps.y (aI (IntKind.i64.wrap (p_n + 1))) ?_)))))))))
 obtain ⟨x1,hx1,hr⟩:=bind_some hr
 refine OkOps.m 0 (triCl (tau [(0,0)]) (.s (aI x1.1)) [(0,.blk [.d (.sl (List.map (eInt .i64) x1.2.L)),cI x1.2.At] 40)] (b_Src_N_c _ _ hx1) rfl ⟨.inl rfl,.inl rfl,trivial⟩ trivial entry7 ⟨rfl,trivial⟩) (OkOps.y (aI x1.1) (OkOps.nil (Ok.seq (Ok.region (OkOps.y (aI x1.1) ?_)))))
 obtain ⟨x2,hx2,hr⟩:=bind_some hr
 refine OkOps.m 0 (triMkV (sz:=1) (enc:=(eInt .u8)) (zr:=0) (j:=1) hx2 rfl rfl rfl rfl rfl (fun _=>rfl) (by decide) trivial rfl rfl) (OkOps.y (.c (.own 1)) (OkOps.nil ?_))
 obtain ⟨k4,hk4,hr⟩:=jn_some hr
 refine Ok.join (fun (s3 : (List Int) × Int × (List Int))=>⟨[(6,.s (.c (.own 1)))],[(0,.blk [.d (.sl (List.map (eInt .i64) s3.1)),cI s3.2.1] 40),(1,.vec 1 (List.map (eInt .u8) s3.2.2))],0⟩) k4 r (fun s3 hr=>?_) ?_
 rw [hk4] at hr
 refine Ok.seq (Ok.region (OkOps.y (.c (.own 1)) (OkOps.conv (Conv.freeze (enc:=(eInt .u8)) (L:=s3.2.2) [6,26] 1 2 1 0 ⟨rfl,rfl,trivial⟩ rfl (fun _=>rfl) rfl) (OkOps.q (triOfBytes (L:=s3.2.2) rfl rfl trivial rfl) (OkOps.y (aS (ofBytes s3.2.2)) (OkOps.nil (Ok.ret ?_)))))))
 obtain rfl:=Option.some.inj hr
 exact ⟨_,rfl,.inl rfl,⟨rfl,trivial⟩⟩
 clear hk4
 refine Ok.seq (Ok.region (OkOps.y (aI 0) (OkOps.nil (Ok.block (Ok.loopK (fun (s5 : Int × (List Int) × Int × (List Int))=>⟨[(0,.s (.c (.loc 0 0))),(5,.s (aI x1.1)),(6,.s (.c (.own 1))),(7,.s (aI s5.1))],[(0,.blk [.d (.sl (List.map (eInt .i64) s5.2.1)),cI s5.2.2.1] 40),(1,.vec 1 (List.map (eInt .u8) s5.2.2.2))],0⟩) hr (Conv.mk (tau []) ⟨⟨_,rfl,.inl rfl⟩,⟨_,rfl,.inl rfl⟩,⟨_,rfl,.inl rfl⟩,⟨_,rfl,.inl rfl⟩,trivial⟩ ⟨rfl,rfl,trivial⟩ rfl rfl rfl rfl) ?_)))))
 clear hr
 intro again6 s5 hr
 unfold b_Src_Word_L1 at hr
 refine Ok.seq (Ok.seq (Ok.region (OkOps.y (aI s5.1) (OkOps.y (aI x1.1) (OkOps.y (aB (decide (s5.1 < x1.1))) (OkOps.nil ?_))))))
 refine Ok.cond (b:=decide (s5.1 < x1.1)) rfl (fun h7=>?_) (fun h7=>?_)
 have hr:=selT h7 hr
 refine Ok.skip (Ok.seq (Ok.block (Ok.region (OkOps.y (.c (.own 1)) (OkOps.y (aI s5.1) (OkOps.y (.c (.loc 0 0)) ?_))))))
 obtain ⟨x8,hx8,hr⟩:=bind_some hr
 refine OkOps.m 0 (triCl (tau [(0,0)]) (.s (aI x8.1)) [(0,.blk [.d (.sl (List.map (eInt .i64) x8.2.L)),cI x8.2.At] 40)] (b_Src_N_c _ _ hx8) rfl ⟨.inl rfl,.inl rfl,trivial⟩ trivial entry7 ⟨rfl,trivial⟩) (OkOps.y (aI (IntKind.i64.wrap (97 + x8.1))) (OkOps.y (.c (.d (.v (.int .u8 (IntKind.u8.wrap (IntKind.i64.wrap (97 + x8.1))))))) ?_))
 obtain ⟨x9,hx9,hr⟩:=bind_some hr
 refine OkOps.q (triIdxV (enc:=(eInt .u8)) (L:=s5.2.2.2) hx9 rfl rfl rfl rfl trivial rfl) (OkOps.w (triStoreV (enc:=(eInt .u8)) (L:=s5.2.2.2) (IntKind.u8.wrap (IntKind.i64.wrap (97 + x8.1))) (.inr (ixO_spec hx9).2) rfl rfl rfl rfl rfl rfl (fun _=>rfl) rfl) (OkOps.nil (Ok.region (OkOps.y (aI s5.1) (OkOps.y (aI (IntKind.i64.wrap (s5.1 + 1))) (OkOps.y (aI (IntKind.i64.wrap (s5.1 + 1))) (OkOps.nil ?_)))))))
 exact ⟨(IntKind.i64.wrap (s5.1 + 1),x8.2.L,x8.2.At,List.set s5.2.2.2 x9 (IntKind.u8.wrap (IntKind.i64.wrap (97 + x8.1)))),hr,(Conv.mk (tau []) ⟨⟨_,rfl,.inl rfl⟩,⟨_,rfl,.inl rfl⟩,⟨_,rfl,.inl rfl⟩,⟨_,rfl,.inl rfl⟩,trivial⟩ ⟨rfl,rfl,trivial⟩ rfl rfl rfl rfl)⟩
 have hr:=selF h7 hr
 refine Ok.exit ?_
 exact ⟨(s5.2.1,s5.2.2.1,s5.2.2.2),hr,(Conv.mk (tau []) ⟨⟨_,rfl,.inl rfl⟩,trivial⟩ ⟨rfl,rfl,trivial⟩ rfl rfl rfl rfl)⟩
theorem entry71 : Entry Tryz.prog 71:=⟨_,Tryz.func71,by kernel_rfl,by kernel_rfl⟩
theorem b_Src_Name_c (p_s : widgetrybase_Src) {r : Str × widgetrybase_Src} (hr : b_Src_Name p_s = some r) : Con Tryz.prog 67 [.c (.loc 0 0)] [(0,.blk [.d (.sl (List.map (eInt .i64) p_s.L)),cI p_s.At] 40)] (.s (aS r.1)) [(0,.blk [.d (.sl (List.map (eInt .i64) r.2.L)),cI r.2.At] 40)]:=by
 unfold b_Src_Name at hr
 refine Con.of_ok 12 0 [.tmp 2] [(0,.s (.c (.loc 0 0)))] Tryz.func67 rfl rfl rfl rfl rfl rfl rfl rfl fun w g M ρ _=>(Ok.seq (Ok.region (OkOps.y (aS (ByteArray.mk #[])) (OkOps.nil (Ok.seq (Ok.region (OkOps.m 0 (triBST (sz:=1) (enc:=eStr) (j:=1) ([(ByteArray.mk #[97]),(ByteArray.mk #[98]),(ByteArray.mk #[99]),(ByteArray.mk #[100]),(ByteArray.mk #[120]),(ByteArray.mk #[121]),(ByteArray.mk #[105,116,101,109]),(ByteArray.mk #[110,45,49])]) rfl rfl rfl rfl rfl rfl rfl rfl (fun _=>rfl) trivial rfl rfl) (OkOps.y (.c (.tl 1 (List.map eStr ([(ByteArray.mk #[97]),(ByteArray.mk #[98]),(ByteArray.mk #[99]),(ByteArray.mk #[100]),(ByteArray.mk #[120]),(ByteArray.mk #[121]),(ByteArray.mk #[105,116,101,109]),(ByteArray.mk #[110,45,49])])))) (OkOps.nil (Ok.seq (Ok.region (OkOps.y (.c (.tl 1 (List.map eStr ([(ByteArray.mk #[97]),(ByteArray.mk #[98]),(ByteArray.mk #[99]),(ByteArray.mk #[100]),(ByteArray.mk #[120]),(ByteArray.mk #[121]),(ByteArray.mk #[105,116,101,109]),(ByteArray.mk #[110,45,49])])))) (OkOps.y (.c (.loc 0 0)) (OkOps.y (.c (.tl 1 (List.map eStr ([(ByteArray.mk #[97]),(ByteArray.mk #[98]),(ByteArray.mk #[99]),(ByteArray.mk #[100]),(ByteArray.mk #[120]),(ByteArray.mk #[121]),(ByteArray.mk #[105,116,101,109]),(ByteArray.mk #[110,45,49])])))) (OkOps.q (triLen (enc:=eStr) ([(ByteArray.mk #[97]),(ByteArray.mk #[98]),(ByteArray.mk #[99]),(ByteArray.mk #[100]),(ByteArray.mk #[120]),(ByteArray.mk #[121]),(ByteArray.mk #[105,116,101,109]),(ByteArray.mk #[110,45,49])]) rfl rfl trivial rfl) ?_)))))))))))))))
 obtain ⟨x1,hx1,hr⟩:=bind_some hr
 refine OkOps.m 0 (triCl (tau [(0,0)]) (.s (aI x1.1)) [(0,.blk [.d (.sl (List.map (eInt .i64) x1.2.L)),cI x1.2.At] 40)] (b_Src_N_c _ _ hx1) rfl ⟨.inl rfl,.inl rfl,trivial⟩ trivial entry7 ⟨rfl,trivial⟩) ?_
 obtain ⟨x2,hx2,hr⟩:=bind_some hr
 refine OkOps.q (triIdx (enc:=eStr) (L:=[(ByteArray.mk #[97]),(ByteArray.mk #[98]),(ByteArray.mk #[99]),(ByteArray.mk #[100]),(ByteArray.mk #[120]),(ByteArray.mk #[121]),(ByteArray.mk #[105,116,101,109]),(ByteArray.mk #[110,45,49])]) (row:=[dS x2]) hx2 rfl rfl rfl rfl (fun _=>rfl) trivial rfl) (OkOps.y (aS x2) (OkOps.y (aS x2) (OkOps.nil (Ok.ret ?_))))
 obtain rfl:=Option.some.inj hr
 exact ⟨_,rfl,.inl rfl,⟨rfl,trivial⟩⟩
theorem entry67 : Entry Tryz.prog 67:=⟨_,Tryz.func67,by kernel_rfl,by kernel_rfl⟩
theorem b_number_c (p_n : Int) {r : AValue} (hr : b_number p_n = some r) : Con Tryz.prog 68 [aI p_n] [] (.s (.agg [cI r.Kind,cI r.N,cS r.S,.d (.sl (List.map AValue.cs r.L))])) []:=by
 unfold b_number at hr
 refine Con.of_ok 5 0 [.cell 2 85] [(0,.s (aI p_n))] Tryz.func68 rfl rfl rfl rfl rfl rfl rfl rfl fun w g M ρ _=>(Ok.seq (Ok.region (OkOps.m 0 (triAlloc (j:=0) (cs:=[cI 0,cI 0,cS ByteArray.empty,.d (.v (.slice none 0 0))]) rfl rfl rfl rfl) (OkOps.nil (Ok.seq (Ok.region (OkOps.y (aI p_n) (OkOps.y (.agg [cI 1,cI p_n,cS ByteArray.empty,.d (.v (.slice none 0 0))]) (OkOps.w (triStore (cs':=[cI 1,cI p_n,cS ByteArray.empty,.d (.v (.slice none 0 0))]) rfl rfl rfl rfl rfl rfl rfl rfl rfl) (OkOps.nil (Ok.ret ?_)))))))))))
 obtain rfl:=Option.some.inj hr
 exact ⟨_,rfl,.inr rfl,trivial⟩
theorem entry68 : Entry Tryz.prog 68:=⟨_,Tryz.func68,by kernel_rfl,by kernel_rfl⟩
theorem b_text_c (p_s : Str) {r : AValue} (hr : b_text p_s = some r) : Con Tryz.prog 65 [aS p_s] [] (.s (.agg [cI r.Kind,cI r.N,cS r.S,.d (.sl (List.map AValue.cs r.L))])) []:=by
 unfold b_text at hr
 refine Con.of_ok 5 0 [.cell 2 85] [(0,.s (aS p_s))] Tryz.func65 rfl rfl rfl rfl rfl rfl rfl rfl fun w g M ρ _=>(Ok.seq (Ok.region (OkOps.m 0 (triAlloc (j:=0) (cs:=[cI 0,cI 0,cS ByteArray.empty,.d (.v (.slice none 0 0))]) rfl rfl rfl rfl) (OkOps.nil (Ok.seq (Ok.region (OkOps.y (aS p_s) (OkOps.y (.agg [cI 3,cI 0,cS p_s,.d (.v (.slice none 0 0))]) (OkOps.w (triStore (cs':=[cI 3,cI 0,cS p_s,.d (.v (.slice none 0 0))]) rfl rfl rfl rfl rfl rfl rfl rfl rfl) (OkOps.nil (Ok.ret ?_)))))))))))
 obtain rfl:=Option.some.inj hr
 exact ⟨_,rfl,.inr rfl,trivial⟩
theorem entry65 : Entry Tryz.prog 65:=⟨_,Tryz.func65,by kernel_rfl,by kernel_rfl⟩
theorem b_flag_c (b : Int) {r : AValue} (hr : b_flag b = some r) : Con Tryz.prog 66 [aI b] [] (.s (.agg [cI r.Kind,cI r.N,cS r.S,.d (.sl (List.map AValue.cs r.L))])) []:=by
 unfold b_flag at hr
 refine Con.of_ok 5 0 [.cell 2 85] [(0,.s (aI b))] Tryz.func66 rfl rfl rfl rfl rfl rfl rfl rfl fun w g M ρ _=>(Ok.seq (Ok.region (OkOps.m 0 (triAlloc (j:=0) (cs:=[cI 0,cI 0,cS ByteArray.empty,.d (.v (.slice none 0 0))]) rfl rfl rfl rfl) (OkOps.nil (Ok.seq (Ok.region (OkOps.y (aI b) (OkOps.y (.agg [cI 2,cI b,cS ByteArray.empty,.d (.v (.slice none 0 0))]) (OkOps.w (triStore (cs':=[cI 2,cI b,cS ByteArray.empty,.d (.v (.slice none 0 0))]) rfl rfl rfl rfl rfl rfl rfl rfl rfl) (OkOps.nil (Ok.ret ?_)))))))))))
 obtain rfl:=Option.some.inj hr
 exact ⟨_,rfl,.inr rfl,trivial⟩
theorem entry66 : Entry Tryz.prog 66:=⟨_,Tryz.func66,by kernel_rfl,by kernel_rfl⟩
theorem entry72 : Entry Tryz.prog 72:=⟨_,Tryz.func72,by kernel_rfl,by kernel_rfl⟩
theorem b_Src_Like_B_c (self0 : widgetrybase_Src → AValue → Option (AValue × widgetrybase_Src)) (hself0 : ∀ (p_s : widgetrybase_Src) (v : AValue) {r : AValue × widgetrybase_Src},self0 p_s v = some r → Con Tryz.prog 72 [.c (.loc 0 0),.agg [cI v.Kind,cI v.N,cS v.S,.d (.sl (List.map AValue.cs v.L))]] [(0,.blk [.d (.sl (List.map (eInt .i64) p_s.L)),cI p_s.At] 40)] (.s (.agg [cI r.1.Kind,cI r.1.N,cS r.1.S,.d (.sl (List.map AValue.cs r.1.L))])) [(0,.blk [.d (.sl (List.map (eInt .i64) r.2.L)),cI r.2.At] 40)]) (p_s : widgetrybase_Src) (v : AValue) {r : AValue × widgetrybase_Src} (hr : b_Src_Like_B self0 p_s v = some r) : Con Tryz.prog 72 [.c (.loc 0 0),.agg [cI v.Kind,cI v.N,cS v.S,.d (.sl (List.map AValue.cs v.L))]] [(0,.blk [.d (.sl (List.map (eInt .i64) p_s.L)),cI p_s.At] 40)] (.s (.agg [cI r.1.Kind,cI r.1.N,cS r.1.S,.d (.sl (List.map AValue.cs r.1.L))])) [(0,.blk [.d (.sl (List.map (eInt .i64) r.2.L)),cI r.2.At] 40)]:=by
 unfold b_Src_Like_B at hr
 refine Con.of_ok 48 0 [.cell 4 85] [(0,.s (.c (.loc 0 0))),(1,.s (.agg [cI v.Kind,cI v.N,cS v.S,.d (.sl (List.map AValue.cs v.L))]))] Tryz.func72 rfl rfl rfl rfl rfl rfl rfl rfl fun w g M ρ _=>(Ok.seq (Ok.region (OkOps.m 0 (triBox (j:=1) (cs:=[cI v.Kind,cI v.N,cS v.S,.d (.sl (List.map AValue.cs v.L))]) rfl rfl rfl rfl rfl) (OkOps.m 0 (triAlloc (j:=2) (cs:=[cI 0,cI 0,cS ByteArray.empty,.d (.v (.slice none 0 0))]) rfl rfl rfl rfl) (OkOps.nil (Ok.seq (Ok.seq (Ok.region (OkOps.y (.c (.loc 1 0)) (OkOps.y (aI v.Kind) (OkOps.nil (Ok.block (Ok.seq (Ok.region (OkOps.y (aB (v.Kind == 1)) ?_)))))))))))))))
 refine OkOps.y (aB (v.Kind == 1)) (OkOps.nil ?_)
 refine Ok.cond (b:=v.Kind == 1) rfl (fun h1=>?_) (fun h1=>?_)
 have hr:=selT h1 hr
 refine Ok.seq (Ok.region (OkOps.y (.c (.loc 0 0)) ?_))
 obtain ⟨x2,hx2,hr⟩:=bind_some hr
 refine OkOps.m 0 (triCl (tau [(0,0)]) (.s (aI x2.1)) [(0,.blk [.d (.sl (List.map (eInt .i64) x2.2.L)),cI x2.2.At] 40)] (b_Src_Range_c _ _ _ hx2) rfl ⟨.inl rfl,.inl rfl,.inl rfl,trivial⟩ trivial entry8 ⟨rfl,trivial⟩) (OkOps.y (.agg [cI 1,cI x2.1,cS ByteArray.empty,.d (.v (.slice none 0 0))]) (OkOps.w (triStore (cs':=[cI 1,cI x2.1,cS ByteArray.empty,.d (.v (.slice none 0 0))]) rfl rfl rfl rfl rfl rfl rfl rfl rfl) (OkOps.nil (Ok.ret ?_))))
 obtain rfl:=Option.some.inj hr
 exact ⟨_,rfl,.inr rfl,⟨rfl,trivial⟩⟩
 have hr:=selF h1 hr
 refine Ok.seq (Ok.region (OkOps.y (aB (v.Kind == 2)) (OkOps.y (aB (v.Kind == 2)) (OkOps.nil ?_))))
 refine Ok.cond (b:=v.Kind == 2) rfl (fun h3=>?_) (fun h3=>?_)
 have hr:=selT h3 hr
 refine Ok.seq (Ok.region (OkOps.y (.c (.loc 0 0)) ?_))
 obtain ⟨x4,hx4,hr⟩:=bind_some hr
 refine OkOps.m 0 (triCl (tau [(0,0)]) (.s (aI x4.1)) [(0,.blk [.d (.sl (List.map (eInt .i64) x4.2.L)),cI x4.2.At] 40)] (b_Src_N_c _ _ hx4) rfl ⟨.inl rfl,.inl rfl,trivial⟩ trivial entry7 ⟨rfl,trivial⟩) (OkOps.y (.agg [cI 2,cI x4.1,cS ByteArray.empty,.d (.v (.slice none 0 0))]) (OkOps.w (triStore (cs':=[cI 2,cI x4.1,cS ByteArray.empty,.d (.v (.slice none 0 0))]) rfl rfl rfl rfl rfl rfl rfl rfl rfl) (OkOps.nil (Ok.ret ?_))))
 obtain rfl:=Option.some.inj hr
 exact ⟨_,rfl,.inr rfl,⟨rfl,trivial⟩⟩
 have hr:=selF h3 hr
 refine Ok.seq (Ok.region (OkOps.y (aB (v.Kind == 3)) (OkOps.y (aB (v.Kind == 3)) (OkOps.nil ?_))))
 refine Ok.cond (b:=v.Kind == 3) rfl (fun h5=>?_) (fun h5=>?_)
 have hr:=selT h5 hr
 refine Ok.seq (Ok.region (OkOps.y (.c (.loc 0 0)) ?_))
 obtain ⟨x6,hx6,hr⟩:=bind_some hr
 refine OkOps.m 0 (triCl (tau [(0,0)]) (.s (aS x6.1)) [(0,.blk [.d (.sl (List.map (eInt .i64) x6.2.L)),cI x6.2.At] 40)] (b_Src_Word_c _ _ hx6) rfl ⟨.inl rfl,.inl rfl,trivial⟩ trivial entry71 ⟨rfl,trivial⟩) (OkOps.y (.agg [cI 3,cI 0,cS x6.1,.d (.v (.slice none 0 0))]) (OkOps.w (triStore (cs':=[cI 3,cI 0,cS x6.1,.d (.v (.slice none 0 0))]) rfl rfl rfl rfl rfl rfl rfl rfl rfl) (OkOps.nil (Ok.ret ?_))))
 obtain rfl:=Option.some.inj hr
 exact ⟨_,rfl,.inr rfl,⟨rfl,trivial⟩⟩
 have hr:=selF h5 hr
 refine Ok.skip (Ok.seq (Ok.region (OkOps.y (.agg [cI 4,cI 0,cS ByteArray.empty,.d (.v (.slice none 0 0))]) (OkOps.m 0 (triAlloc (j:=3) (cs:=[cI 0,cI 0,cS ByteArray.empty,.d (.v (.slice none 0 0))]) rfl rfl rfl rfl) (OkOps.w (triStore (cs':=[cI 4,cI 0,cS ByteArray.empty,.d (.v (.slice none 0 0))]) rfl rfl rfl rfl rfl rfl rfl rfl rfl) (OkOps.nil ?_))))))
 obtain ⟨k8,hk8,hr⟩:=jn_some hr
 refine Ok.join (fun (s7 : (List Int) × Int × (List AValue))=>⟨[(4,.s (.c (.loc 2 0))),(5,.s (.c (.loc 3 0)))],[(0,.blk [.d (.sl (List.map (eInt .i64) s7.1)),cI s7.2.1] 40),(2,.blk [cI 0,cI 0,cS ByteArray.empty,.d (.v (.slice none 0 0))] 85),(3,.blk [cI 4,cI 0,cS ByteArray.empty,.tl 1008 (List.map AValue.cs s7.2.2)] 85),(1008,.tail 4)],0⟩) k8 r (fun s7 hr=>?_) ?_
 rw [hk8] at hr
 refine Ok.seq (Ok.region (OkOps.y (.agg [cI 4,cI 0,cS ByteArray.empty,.tl 1008 (List.map AValue.cs s7.2.2)]) (OkOps.w (triStore (cs':=[cI 4,cI 0,cS ByteArray.empty,.tl 1008 (List.map AValue.cs s7.2.2)]) rfl rfl rfl rfl rfl rfl rfl rfl rfl) (OkOps.nil (Ok.ret ?_)))))
 obtain rfl:=Option.some.inj hr
 exact ⟨_,rfl,.inr rfl,⟨rfl,trivial⟩⟩
 clear hk8
 refine Ok.seq (Ok.region (OkOps.y (aI 0) (OkOps.nil (Ok.block (Ok.loopK (fun (s9 : Int × (List Int) × Int × (List AValue))=>⟨[(0,.s (.c (.loc 0 0))),(3,.s (.c (.loc 1 0))),(4,.s (.c (.loc 2 0))),(5,.s (.c (.loc 3 0))),(6,.s (aI s9.1))],[(0,.blk [.d (.sl (List.map (eInt .i64) s9.2.1)),cI s9.2.2.1] 40),(1,.blk [cI v.Kind,cI v.N,cS v.S,.d (.sl (List.map AValue.cs v.L))] 85),(2,.blk [cI 0,cI 0,cS ByteArray.empty,.d (.v (.slice none 0 0))] 85),(3,.blk [cI 4,cI 0,cS ByteArray.empty,.tl 1013 (List.map AValue.cs s9.2.2.2)] 85),(1013,.tail 4)],0⟩) hr (Conv.trans (Conv.nilO 3 3 1016 4 [cI 4,cI 0,cS ByteArray.empty,.d (.v (.slice none 0 0))] [cI 4,cI 0,cS ByteArray.empty,.tl 1016 (List.map AValue.cs ([] : (List AValue)))] 85 0 rfl rfl rfl rfl) (Conv.mk (tau [(1013,1016)]) ⟨⟨_,rfl,.inl rfl⟩,⟨_,rfl,.inl rfl⟩,⟨_,rfl,.inl rfl⟩,⟨_,rfl,.inl rfl⟩,⟨_,rfl,.inl rfl⟩,trivial⟩ ⟨rfl,rfl,rfl,rfl,rfl,trivial⟩ rfl rfl rfl rfl)) ?_)))))
 clear hr
 intro again10 s9 hr
 unfold b_Src_Like_L1 at hr
 refine Ok.seq (Ok.seq (Ok.region (OkOps.y (aI s9.1) (OkOps.y (.c (.loc 1 3)) (OkOps.y (.c (.d (.sl (List.map AValue.cs v.L)))) (OkOps.q (triLen (enc:=AValue.cs) v.L rfl rfl trivial rfl) (OkOps.y (aB (decide (s9.1 < (v.L.length : Int)))) (OkOps.nil ?_))))))))
 refine Ok.cond (b:=decide (s9.1 < (v.L.length : Int))) rfl (fun h11=>?_) (fun h11=>?_)
 have hr:=selT h11 hr
 refine Ok.skip ?_
 obtain ⟨k13,hk13,hr⟩:=jn_some hr
 refine Ok.join (fun (s12 : (List Int) × Int × (List AValue))=>⟨[(0,.s (.c (.loc 0 0))),(3,.s (.c (.loc 1 0))),(4,.s (.c (.loc 2 0))),(5,.s (.c (.loc 3 0))),(6,.s (aI s9.1))],[(0,.blk [.d (.sl (List.map (eInt .i64) s12.1)),cI s12.2.1] 40),(1,.blk [cI v.Kind,cI v.N,cS v.S,.d (.sl (List.map AValue.cs v.L))] 85),(2,.blk [cI 0,cI 0,cS ByteArray.empty,.d (.v (.slice none 0 0))] 85),(3,.blk [cI 4,cI 0,cS ByteArray.empty,.tl 1017 (List.map AValue.cs s12.2.2)] 85),(1017,.tail 4)],0⟩) k13 r (fun s12 hr=>?_) ?_
 rw [hk13] at hr
 refine Ok.region (OkOps.y (aI s9.1) (OkOps.y (aI (IntKind.i64.wrap (s9.1 + 1))) (OkOps.y (aI (IntKind.i64.wrap (s9.1 + 1))) (OkOps.nil ?_))))
 exact ⟨(IntKind.i64.wrap (s9.1 + 1),s12.1,s12.2.1,s12.2.2),hr,(Conv.mk (tau [(1013,1017)]) ⟨⟨_,rfl,.inl rfl⟩,⟨_,rfl,.inl rfl⟩,⟨_,rfl,.inl rfl⟩,⟨_,rfl,.inl rfl⟩,⟨_,rfl,.inl rfl⟩,trivial⟩ ⟨rfl,rfl,rfl,rfl,rfl,trivial⟩ rfl rfl rfl rfl)⟩
 clear hk13
 refine Ok.block (Ok.seq (Ok.region (OkOps.y (.c (.loc 0 0)) ?_)))
 obtain ⟨x14,hx14,hr⟩:=bind_some hr
 refine OkOps.m 0 (triCl (tau [(0,0)]) (.s (aI x14.1)) [(0,.blk [.d (.sl (List.map (eInt .i64) x14.2.L)),cI x14.2.At] 40)] (b_Src_N_c _ _ hx14) rfl ⟨.inl rfl,.inl rfl,trivial⟩ trivial entry7 ⟨rfl,trivial⟩) (OkOps.y (aB (decide (x14.1 > 0))) (OkOps.nil ?_))
 refine Ok.cond (b:=decide (x14.1 > 0)) rfl (fun h15=>?_) (fun h15=>?_)
 have hr:=selT h15 hr
 refine Ok.regionD (by kernel_rfl) (OkD.x (.c (.loc 3 3)) rfl trivial rfl (OkD.x (.c (.tl 1013 (List.map AValue.cs s9.2.2.2))) rfl trivial rfl (OkD.x (.c (.loc 0 0)) rfl trivial rfl (OkD.x (.c (.loc 1 3)) rfl trivial rfl (OkD.x (.c (.d (.sl (List.map AValue.cs v.L)))) rfl trivial rfl (OkD.x (aI s9.1) rfl trivial rfl ?_))))))
 obtain ⟨x16,hx16,hr⟩:=bind_some hr
 refine OkD.q (triIdx (enc:=AValue.cs) (L:=v.L) (row:=[dI x16.Kind,dI x16.N,dS x16.S,.sl (List.map AValue.cs x16.L)]) hx16 (AValue.cs_eq _) rfl rfl rfl (fun x=>by rw [AValue.cs_eq];rfl) trivial rfl) ?_
 refine OkD.x (.agg [cI x16.Kind,cI x16.N,cS x16.S,.d (.sl (List.map AValue.cs x16.L))]) rfl trivial rfl ?_
 obtain ⟨x17,hx17,hr⟩:=bind_some hr
 refine OkD.m 0 (triCl (tau [(0,0)]) (.s (.agg [cI x17.1.Kind,cI x17.1.N,cS x17.1.S,.d (.sl (List.map AValue.cs x17.1.L))])) [(0,.blk [.d (.sl (List.map (eInt .i64) x17.2.L)),cI x17.2.At] 40)] (hself0 _ _ hx17) rfl ⟨.inl rfl,.inl rfl,trivial⟩ trivial entry72 ⟨rfl,trivial⟩) ?_
 refine OkD.m 0 (triBST (sz:=4) (enc:=AValue.cs) (j:=4) ([x17.1]) rfl rfl rfl rfl rfl (rows:=[[dI x17.1.Kind,dI x17.1.N,dS x17.1.S,.sl (List.map AValue.cs x17.1.L)]]) (by simp only [List.map,AValue.cs_eq]) rfl rfl (fun x=>by rw [AValue.cs_eq];rfl) trivial rfl rfl) ?_
 obtain ⟨x18,hx18,hr⟩:=bind_some hr
 refine OkD.m2 0 (triApp (enc:=AValue.cs) (L:=s9.2.2.2) (X:=[x17.1]) (j:=1013) (j':=5) hx18 rfl rfl rfl rfl rfl rfl (fun x=>by rw [AValue.cs_eq];rfl) (fun x=>by rw [AValue.cs_eq];rfl) (by decide) trivial rfl rfl) ?_
 refine OkD.x (.c (.loc 3 3)) rfl trivial rfl (OkD.w (triStore (cs':=[cI 4,cI 0,cS ByteArray.empty,.tl 5 (List.map AValue.cs x18)]) rfl rfl rfl rfl rfl rfl rfl rfl rfl) (OkD.nil (by kernel_rfl) ?_))
 exact ⟨(x17.2.L,x17.2.At,x18),hr,(Conv.mk (tau [(1017,5)]) ⟨⟨_,rfl,.inl rfl⟩,⟨_,rfl,.inl rfl⟩,⟨_,rfl,.inl rfl⟩,⟨_,rfl,.inl rfl⟩,⟨_,rfl,.inl rfl⟩,trivial⟩ ⟨rfl,rfl,rfl,rfl,rfl,trivial⟩ rfl rfl rfl rfl)⟩
 have hr:=selF h15 hr
 refine Ok.skip ?_
 exact ⟨(x14.2.L,x14.2.At,s9.2.2.2),hr,(Conv.mk (tau [(1017,1013)]) ⟨⟨_,rfl,.inl rfl⟩,⟨_,rfl,.inl rfl⟩,⟨_,rfl,.inl rfl⟩,⟨_,rfl,.inl rfl⟩,⟨_,rfl,.inl rfl⟩,trivial⟩ ⟨rfl,rfl,rfl,rfl,rfl,trivial⟩ rfl rfl rfl rfl)⟩
 have hr:=selF h11 hr
 refine Ok.exit ?_
 exact ⟨(s9.2.1,s9.2.2.1,s9.2.2.2),hr,(Conv.mk (tau [(1008,1013)]) ⟨⟨_,rfl,.inl rfl⟩,⟨_,rfl,.inl rfl⟩,trivial⟩ ⟨rfl,rfl,rfl,rfl,trivial⟩ rfl rfl rfl rfl)⟩
theorem b_Src_Like_all : ∀ n : Nat,(∀ (p_s : widgetrybase_Src) (v : AValue) {r : AValue × widgetrybase_Src},b_Src_Like n p_s v = some r → Con Tryz.prog 72 [.c (.loc 0 0),.agg [cI v.Kind,cI v.N,cS v.S,.d (.sl (List.map AValue.cs v.L))]] [(0,.blk [.d (.sl (List.map (eInt .i64) p_s.L)),cI p_s.At] 40)] (.s (.agg [cI r.1.Kind,cI r.1.N,cS r.1.S,.d (.sl (List.map AValue.cs r.1.L))])) [(0,.blk [.d (.sl (List.map (eInt .i64) r.2.L)),cI r.2.At] 40)]) ∧ True:=by
 intro n
 induction n with
 | zero=>exact ⟨(by intros;rename_i hr;cases hr),trivial⟩
 | succ n ih=>exact ⟨(by intros;rename_i hr;exact b_Src_Like_B_c _ ih.1 _ _ hr),trivial⟩
theorem b_Src_Like_c (n : Nat) (p_s : widgetrybase_Src) (v : AValue) {r : AValue × widgetrybase_Src} (hr : b_Src_Like n p_s v = some r) : Con Tryz.prog 72 [.c (.loc 0 0),.agg [cI v.Kind,cI v.N,cS v.S,.d (.sl (List.map AValue.cs v.L))]] [(0,.blk [.d (.sl (List.map (eInt .i64) p_s.L)),cI p_s.At] 40)] (.s (.agg [cI r.1.Kind,cI r.1.N,cS r.1.S,.d (.sl (List.map AValue.cs r.1.L))])) [(0,.blk [.d (.sl (List.map (eInt .i64) r.2.L)),cI r.2.At] 40)]:=(b_Src_Like_all n).1 p_s v hr
theorem entry52 : Entry Tryz.prog 52:=⟨_,Tryz.func52,by kernel_rfl,by kernel_rfl⟩
theorem b_Src_Value_B_c (self0 : widgetrybase_Src → Int → Option (AValue × widgetrybase_Src)) (hself0 : ∀ (p_s : widgetrybase_Src) (depth : Int) {r : AValue × widgetrybase_Src},self0 p_s depth = some r → Con Tryz.prog 52 [.c (.loc 0 0),aI depth] [(0,.blk [.d (.sl (List.map (eInt .i64) p_s.L)),cI p_s.At] 40)] (.s (.agg [cI r.1.Kind,cI r.1.N,cS r.1.S,.d (.sl (List.map AValue.cs r.1.L))])) [(0,.blk [.d (.sl (List.map (eInt .i64) r.2.L)),cI r.2.At] 40)]) (p_s : widgetrybase_Src) (depth : Int) {r : AValue × widgetrybase_Src} (hr : b_Src_Value_B self0 p_s depth = some r) : Con Tryz.prog 52 [.c (.loc 0 0),aI depth] [(0,.blk [.d (.sl (List.map (eInt .i64) p_s.L)),cI p_s.At] 40)] (.s (.agg [cI r.1.Kind,cI r.1.N,cS r.1.S,.d (.sl (List.map AValue.cs r.1.L))])) [(0,.blk [.d (.sl (List.map (eInt .i64) r.2.L)),cI r.2.At] 40)]:=by
 unfold b_Src_Value_B at hr
 refine Con.of_ok 65 0 [.cell 4 85] [(0,.s (.c (.loc 0 0))),(1,.s (aI depth))] Tryz.func52 rfl rfl rfl rfl rfl rfl rfl rfl fun w g M ρ _=>(Ok.seq (Ok.region (OkOps.m 0 (triAlloc (j:=1) (cs:=[cI 0,cI 0,cS ByteArray.empty,.d (.v (.slice none 0 0))]) rfl rfl rfl rfl) (OkOps.nil ?_))))
 obtain ⟨k2,hk2,hr⟩:=jn_some hr
 refine Ok.join (fun (s1 : (List Int) × Int)=>⟨[(0,.s (.c (.loc 0 0))),(4,.s (.c (.loc 1 0)))],[(0,.blk [.d (.sl (List.map (eInt .i64) s1.1)),cI s1.2] 40),(1,.blk [cI 0,cI 0,cS ByteArray.empty,.d (.v (.slice none 0 0))] 85)],0⟩) k2 r (fun s1 hr=>?_) ?_
 rw [hk2] at hr
 refine Ok.seq (Ok.region (OkOps.m 0 (triBST (sz:=1) (enc:=(eInt .i64)) (j:=2) ([0,1,2,3,(-1),7,10,1099511627776,(-1099511627776),1099511627775]) rfl rfl rfl rfl rfl rfl rfl rfl (fun _=>rfl) trivial rfl rfl) (OkOps.y (.c (.tl 2 (List.map (eInt .i64) ([0,1,2,3,(-1),7,10,1099511627776,(-1099511627776),1099511627775])))) (OkOps.nil (Ok.seq (Ok.region (OkOps.y (.c (.tl 2 (List.map (eInt .i64) ([0,1,2,3,(-1),7,10,1099511627776,(-1099511627776),1099511627775])))) (OkOps.y (.c (.loc 0 0)) (OkOps.y (.c (.tl 2 (List.map (eInt .i64) ([0,1,2,3,(-1),7,10,1099511627776,(-1099511627776),1099511627775])))) (OkOps.q (triLen (enc:=(eInt .i64)) ([0,1,2,3,(-1),7,10,1099511627776,(-1099511627776),1099511627775]) rfl rfl trivial rfl) ?_))))))))))
 obtain ⟨x3,hx3,hr⟩:=bind_some hr
 refine OkOps.m 0 (triCl (tau [(0,0)]) (.s (aI x3.1)) [(0,.blk [.d (.sl (List.map (eInt .i64) x3.2.L)),cI x3.2.At] 40)] (b_Src_N_c _ _ hx3) rfl ⟨.inl rfl,.inl rfl,trivial⟩ trivial entry7 ⟨rfl,trivial⟩) ?_
 obtain ⟨x4,hx4,hr⟩:=bind_some hr
 refine OkOps.q (triIdx (enc:=(eInt .i64)) (L:=[0,1,2,3,(-1),7,10,1099511627776,(-1099511627776),1099511627775]) (row:=[dI x4]) hx4 rfl rfl rfl rfl (fun _=>rfl) trivial rfl) (OkOps.y (aI x4) (OkOps.y (.agg [cI 1,cI x4,cS ByteArray.empty,.d (.v (.slice none 0 0))]) (OkOps.w (triStore (cs':=[cI 1,cI x4,cS ByteArray.empty,.d (.v (.slice none 0 0))]) rfl rfl rfl rfl rfl rfl rfl rfl rfl) (OkOps.nil (Ok.ret ?_)))))
 obtain rfl:=Option.some.inj hr
 exact ⟨_,rfl,.inr rfl,⟨rfl,trivial⟩⟩
 clear hk2
 refine Ok.seq (Ok.region (OkOps.y (.c (.loc 0 0)) ?_))
 obtain ⟨x5,hx5,hr⟩:=bind_some hr
 refine OkOps.m 0 (triCl (tau [(0,0)]) (.s (aI x5.1)) [(0,.blk [.d (.sl (List.map (eInt .i64) x5.2.L)),cI x5.2.At] 40)] (b_Src_N_c _ _ hx5) rfl ⟨.inl rfl,.inl rfl,trivial⟩ trivial entry7 ⟨rfl,trivial⟩) (OkOps.nil (Ok.block (Ok.seq (Ok.region (OkOps.y (aB (x5.1 == 0)) (OkOps.y (aB (x5.1 == 0)) (OkOps.nil ?_)))))))
 refine Ok.cond (b:=x5.1 == 0) rfl (fun h6=>?_) (fun h6=>?_)
 have hr:=selT h6 hr
 refine Ok.seq (Ok.region (OkOps.y (.c (.loc 0 0)) ?_))
 obtain ⟨x7,hx7,hr⟩:=bind_some hr
 refine OkOps.m 0 (triCl (tau [(0,0)]) (.s (aI x7.1)) [(0,.blk [.d (.sl (List.map (eInt .i64) x7.2.L)),cI x7.2.At] 40)] (b_Src_N_c _ _ hx7) rfl ⟨.inl rfl,.inl rfl,trivial⟩ trivial entry7 ⟨rfl,trivial⟩) (OkOps.y (.agg [cI 2,cI x7.1,cS ByteArray.empty,.d (.v (.slice none 0 0))]) (OkOps.w (triStore (cs':=[cI 2,cI x7.1,cS ByteArray.empty,.d (.v (.slice none 0 0))]) rfl rfl rfl rfl rfl rfl rfl rfl rfl) (OkOps.nil (Ok.ret ?_))))
 obtain rfl:=Option.some.inj hr
 exact ⟨_,rfl,.inr rfl,⟨rfl,trivial⟩⟩
 have hr:=selF h6 hr
 obtain ⟨k9,hk9,hr⟩:=jn_some hr
 refine Ok.join (fun (s8 : Bool)=>⟨[(0,.s (.c (.loc 0 0))),(1,.s (aI depth)),(4,.s (.c (.loc 1 0))),(11,.s (aI x5.1)),(17,.s (aB s8))],[(0,.blk [.d (.sl (List.map (eInt .i64) x5.2.L)),cI x5.2.At] 40),(1,.blk [cI 0,cI 0,cS ByteArray.empty,.d (.v (.slice none 0 0))] 85)],0⟩) k9 r (fun s8 hr=>?_) ?_
 rw [hk9] at hr
 refine Ok.cond (b:=s8) rfl (fun h10=>?_) (fun h10=>?_)
 have hr:=selT h10 hr
 refine Ok.seq (Ok.region (OkOps.y (.c (.loc 0 0)) ?_))
 obtain ⟨x11,hx11,hr⟩:=bind_some hr
 refine OkOps.m 0 (triCl (tau [(0,0)]) (.s (aS x11.1)) [(0,.blk [.d (.sl (List.map (eInt .i64) x11.2.L)),cI x11.2.At] 40)] (b_Src_Word_c _ _ hx11) rfl ⟨.inl rfl,.inl rfl,trivial⟩ trivial entry71 ⟨rfl,trivial⟩) (OkOps.y (.agg [cI 3,cI 0,cS x11.1,.d (.v (.slice none 0 0))]) (OkOps.w (triStore (cs':=[cI 3,cI 0,cS x11.1,.d (.v (.slice none 0 0))]) rfl rfl rfl rfl rfl rfl rfl rfl rfl) (OkOps.nil (Ok.ret ?_))))
 obtain rfl:=Option.some.inj hr
 exact ⟨_,rfl,.inr rfl,⟨rfl,trivial⟩⟩
 have hr:=selF h10 hr
 refine Ok.seq (Ok.region (OkOps.y (aB (x5.1 == 3)) (OkOps.y (aB (x5.1 == 3)) (OkOps.nil ?_))))
 refine Ok.cond (b:=x5.1 == 3) rfl (fun h12=>?_) (fun h12=>?_)
 have hr:=selT h12 hr
 refine Ok.seq (Ok.region (OkOps.y (aI depth) (OkOps.y (aB (decide (depth > 0))) (OkOps.nil ?_))))
 refine Ok.cond (b:=decide (depth > 0)) rfl (fun h13=>?_) (fun h13=>?_)
 have hr:=selT h13 hr
 refine Ok.seq (Ok.region (OkOps.y (.agg [cI 4,cI 0,cS ByteArray.empty,.d (.v (.slice none 0 0))]) (OkOps.m 0 (triAlloc (j:=3) (cs:=[cI 0,cI 0,cS ByteArray.empty,.d (.v (.slice none 0 0))]) rfl rfl rfl rfl) (OkOps.w (triStore (cs':=[cI 4,cI 0,cS ByteArray.empty,.d (.v (.slice none 0 0))]) rfl rfl rfl rfl rfl rfl rfl rfl rfl) (OkOps.nil ?_)))))
 obtain ⟨k15,hk15,hr⟩:=jn_some hr
 refine Ok.join (fun (s14 : (List Int) × Int × (List AValue))=>⟨[(4,.s (.c (.loc 1 0))),(5,.s (.c (.loc 3 0)))],[(0,.blk [.d (.sl (List.map (eInt .i64) s14.1)),cI s14.2.1] 40),(1,.blk [cI 0,cI 0,cS ByteArray.empty,.d (.v (.slice none 0 0))] 85),(3,.blk [cI 4,cI 0,cS ByteArray.empty,.tl 1011 (List.map AValue.cs s14.2.2)] 85),(1011,.tail 4)],0⟩) k15 r (fun s14 hr=>?_) ?_
 rw [hk15] at hr
 refine Ok.seq (Ok.region (OkOps.y (.agg [cI 4,cI 0,cS ByteArray.empty,.tl 1011 (List.map AValue.cs s14.2.2)]) (OkOps.w (triStore (cs':=[cI 4,cI 0,cS ByteArray.empty,.tl 1011 (List.map AValue.cs s14.2.2)]) rfl rfl rfl rfl rfl rfl rfl rfl rfl) (OkOps.nil (Ok.ret ?_)))))
 obtain rfl:=Option.some.inj hr
 exact ⟨_,rfl,.inr rfl,⟨rfl,trivial⟩⟩
 clear hk15
 refine Ok.seq (Ok.region (OkOps.y (.c (.loc 0 0)) ?_))
 obtain ⟨x16,hx16,hr⟩:=bind_some hr
 refine OkOps.m 0 (triCl (tau [(0,0)]) (.s (aI x16.1)) [(0,.blk [.d (.sl (List.map (eInt .i64) x16.2.L)),cI x16.2.At] 40)] (b_Src_N_c _ _ hx16) rfl ⟨.inl rfl,.inl rfl,trivial⟩ trivial entry7 ⟨rfl,trivial⟩) (OkOps.y (aI x16.1) (OkOps.nil (Ok.seq (Ok.region (OkOps.y (aI x16.1) (OkOps.y (aB (decide (x16.1 > 0))) (OkOps.nil ?_)))))))
 refine Ok.cond (b:=decide (x16.1 > 0)) rfl (fun h17=>?_) (fun h17=>?_)
 have hr:=selT h17 hr
 refine Ok.seq (Ok.region (OkOps.y (.c (.loc 0 0)) (OkOps.y (aI depth) (OkOps.y (aI (IntKind.i64.wrap (depth - 1))) ?_))))
 obtain ⟨x18,hx18,hr⟩:=bind_some hr
 refine OkOps.m 0 (triCl (tau [(0,0)]) (.s (.agg [cI x18.1.Kind,cI x18.1.N,cS x18.1.S,.d (.sl (List.map AValue.cs x18.1.L))])) [(0,.blk [.d (.sl (List.map (eInt .i64) x18.2.L)),cI x18.2.At] 40)] (hself0 _ _ hx18) rfl ⟨.inl rfl,.inl rfl,trivial⟩ trivial entry52 ⟨rfl,trivial⟩) (OkOps.m 0 (triAlloc (j:=4) (cs:=[cI 0,cI 0,cS ByteArray.empty,.d (.v (.slice none 0 0))]) rfl rfl rfl rfl) (OkOps.w (triStore (cs':=[cI x18.1.Kind,cI x18.1.N,cS x18.1.S,.d (.sl (List.map AValue.cs x18.1.L))]) rfl rfl rfl rfl rfl rfl rfl rfl rfl) (OkOps.nil (Ok.seq (Ok.region (OkOps.y (.c (.loc 3 3)) (OkOps.y (.c (.d (.v (.slice none 0 0)))) (OkOps.y (.agg [cI x18.1.Kind,cI x18.1.N,cS x18.1.S,.d (.sl (List.map AValue.cs x18.1.L))]) ?_))))))))
 refine OkOps.m 0 (triBST (sz:=4) (enc:=AValue.cs) (j:=5) ([x18.1]) rfl rfl rfl rfl rfl (rows:=[[dI x18.1.Kind,dI x18.1.N,dS x18.1.S,.sl (List.map AValue.cs x18.1.L)]]) (by simp only [List.map,AValue.cs_eq]) rfl rfl (fun x=>by rw [AValue.cs_eq];rfl) trivial rfl rfl) ?_
 obtain ⟨x19,hx19,hr⟩:=bind_some hr
 refine OkOps.m 0 (triApp0 (sz:=4) (enc:=AValue.cs) (X:=[x18.1]) (j':=6) hx19 rfl rfl rfl rfl rfl (fun x=>by rw [AValue.cs_eq];rfl) (fun x=>by rw [AValue.cs_eq];rfl) (by decide) trivial rfl rfl) ?_
 refine OkOps.y (.c (.loc 3 3)) (OkOps.w (triStore (cs':=[cI 4,cI 0,cS ByteArray.empty,.tl 6 (List.map AValue.cs x19)]) rfl rfl rfl rfl rfl rfl rfl rfl rfl) (OkOps.nil (Ok.seq (Ok.region (OkOps.y (aI 1) (OkOps.nil (Ok.block (Ok.loopK (fun (s20 : Int × (List Int) × Int × (List AValue))=>⟨[(0,.s (.c (.loc 0 0))),(4,.s (.c (.loc 1 0))),(5,.s (.c (.loc 3 0))),(6,.s (aI x16.1)),(7,.s (.c (.loc 4 0))),(8,.s (aI s20.1))],[(0,.blk [.d (.sl (List.map (eInt .i64) s20.2.1)),cI s20.2.2.1] 40),(1,.blk [cI 0,cI 0,cS ByteArray.empty,.d (.v (.slice none 0 0))] 85),(3,.blk [cI 4,cI 0,cS ByteArray.empty,.tl 1013 (List.map AValue.cs s20.2.2.2)] 85),(4,.blk [cI x18.1.Kind,cI x18.1.N,cS x18.1.S,.d (.sl (List.map AValue.cs x18.1.L))] 85),(1013,.tail 4)],0⟩) hr (Conv.mk (tau [(1013,6)]) ⟨⟨_,rfl,.inl rfl⟩,⟨_,rfl,.inl rfl⟩,⟨_,rfl,.inl rfl⟩,⟨_,rfl,.inl rfl⟩,⟨_,rfl,.inl rfl⟩,⟨_,rfl,.inl rfl⟩,trivial⟩ ⟨rfl,rfl,rfl,rfl,rfl,trivial⟩ rfl rfl rfl rfl) ?_))))))))
 clear hr
 intro again21 s20 hr
 unfold b_Src_Value_L1 at hr
 refine Ok.seq (Ok.seq (Ok.region (OkOps.y (aI s20.1) (OkOps.y (aI x16.1) (OkOps.y (aB (decide (s20.1 < x16.1))) (OkOps.nil ?_))))))
 refine Ok.cond (b:=decide (s20.1 < x16.1)) rfl (fun h22=>?_) (fun h22=>?_)
 have hr:=selT h22 hr
 refine Ok.skip (Ok.seq (Ok.block (Ok.regionD (by kernel_rfl) (OkD.x (.c (.loc 3 3)) rfl trivial rfl (OkD.x (.c (.tl 1013 (List.map AValue.cs s20.2.2.2))) rfl trivial rfl (OkD.x (.c (.loc 0 0)) rfl trivial rfl (OkD.x (.agg [cI x18.1.Kind,cI x18.1.N,cS x18.1.S,.d (.sl (List.map AValue.cs x18.1.L))]) rfl trivial rfl ?_)))))))
 obtain ⟨x23,hx23,hr⟩:=bind_some hr
 refine OkD.m 0 (triCl (tau [(0,0)]) (.s (.agg [cI x23.1.Kind,cI x23.1.N,cS x23.1.S,.d (.sl (List.map AValue.cs x23.1.L))])) [(0,.blk [.d (.sl (List.map (eInt .i64) x23.2.L)),cI x23.2.At] 40)] (b_Src_Like_c _ _ _ hx23) rfl ⟨.inl rfl,.inl rfl,trivial⟩ trivial entry72 ⟨rfl,trivial⟩) ?_
 refine OkD.m 0 (triBST (sz:=4) (enc:=AValue.cs) (j:=7) ([x23.1]) rfl rfl rfl rfl rfl (rows:=[[dI x23.1.Kind,dI x23.1.N,dS x23.1.S,.sl (List.map AValue.cs x23.1.L)]]) (by simp only [List.map,AValue.cs_eq]) rfl rfl (fun x=>by rw [AValue.cs_eq];rfl) trivial rfl rfl) ?_
 obtain ⟨x24,hx24,hr⟩:=bind_some hr
 refine OkD.m2 0 (triApp (enc:=AValue.cs) (L:=s20.2.2.2) (X:=[x23.1]) (j:=1013) (j':=8) hx24 rfl rfl rfl rfl rfl rfl (fun x=>by rw [AValue.cs_eq];rfl) (fun x=>by rw [AValue.cs_eq];rfl) (by decide) trivial rfl rfl) ?_
 refine OkD.x (.c (.loc 3 3)) rfl trivial rfl (OkD.w (triStore (cs':=[cI 4,cI 0,cS ByteArray.empty,.tl 8 (List.map AValue.cs x24)]) rfl rfl rfl rfl rfl rfl rfl rfl rfl) (OkD.nil (by kernel_rfl) (Ok.region (OkOps.y (aI s20.1) (OkOps.y (aI (IntKind.i64.wrap (s20.1 + 1))) (OkOps.y (aI (IntKind.i64.wrap (s20.1 + 1))) (OkOps.nil ?_)))))))
 exact ⟨(IntKind.i64.wrap (s20.1 + 1),x23.2.L,x23.2.At,x24),hr,(Conv.mk (tau [(1013,8)]) ⟨⟨_,rfl,.inl rfl⟩,⟨_,rfl,.inl rfl⟩,⟨_,rfl,.inl rfl⟩,⟨_,rfl,.inl rfl⟩,⟨_,rfl,.inl rfl⟩,⟨_,rfl,.inl rfl⟩,trivial⟩ ⟨rfl,rfl,rfl,rfl,rfl,trivial⟩ rfl rfl rfl rfl)⟩
 have hr:=selF h22 hr
 refine Ok.exit ?_
 exact ⟨(s20.2.1,s20.2.2.1,s20.2.2.2),hr,(Conv.mk (tau [(1011,1013)]) ⟨⟨_,rfl,.inl rfl⟩,⟨_,rfl,.inl rfl⟩,trivial⟩ ⟨rfl,rfl,rfl,rfl,trivial⟩ rfl rfl rfl rfl)⟩
 have hr:=selF h17 hr
 refine Ok.skip ?_
 exact ⟨(x16.2.L,x16.2.At,([] : (List AValue))),hr,(Conv.trans (Conv.nilO 3 3 1015 4 [cI 4,cI 0,cS ByteArray.empty,.d (.v (.slice none 0 0))] [cI 4,cI 0,cS ByteArray.empty,.tl 1015 (List.map AValue.cs ([] : (List AValue)))] 85 0 rfl rfl rfl rfl) (Conv.mk (tau [(1011,1015)]) ⟨⟨_,rfl,.inl rfl⟩,⟨_,rfl,.inl rfl⟩,trivial⟩ ⟨rfl,rfl,rfl,rfl,trivial⟩ rfl rfl rfl rfl))⟩
 have hr:=selF h13 hr
 refine Ok.skip ?_
 exact ⟨(x5.2.L,x5.2.At),hr,(Conv.mk (tau []) ⟨⟨_,rfl,.inl rfl⟩,⟨_,rfl,.inl rfl⟩,trivial⟩ ⟨rfl,rfl,trivial⟩ rfl rfl rfl rfl)⟩
 have hr:=selF h12 hr
 refine Ok.skip ?_
 exact ⟨(x5.2.L,x5.2.At),hr,(Conv.mk (tau []) ⟨⟨_,rfl,.inl rfl⟩,⟨_,rfl,.inl rfl⟩,trivial⟩ ⟨rfl,rfl,trivial⟩ rfl rfl rfl rfl)⟩
 clear hk9
 refine Ok.seq (Ok.region (OkOps.y (aB (x5.1 == 1)) (OkOps.y (aB (x5.1 == 1)) (OkOps.nil ?_))))
 refine Ok.cond (b:=x5.1 == 1) rfl (fun h25=>?_) (fun h25=>?_)
 have hr:=selT h25 hr
 refine Ok.skip ?_
 exact ⟨x5.1 == 1,hr,(Conv.mk (tau []) ⟨⟨_,rfl,.inl rfl⟩,⟨_,rfl,.inl rfl⟩,⟨_,rfl,.inl rfl⟩,⟨_,rfl,.inl rfl⟩,⟨_,rfl,.inl rfl⟩,trivial⟩ ⟨rfl,rfl,trivial⟩ rfl rfl rfl rfl)⟩
 have hr:=selF h25 hr
 refine Ok.region (OkOps.y (aB (x5.1 == 2)) (OkOps.y (aB (x5.1 == 2)) (OkOps.nil ?_)))
 exact ⟨x5.1 == 2,hr,(Conv.mk (tau []) ⟨⟨_,rfl,.inl rfl⟩,⟨_,rfl,.inl rfl⟩,⟨_,rfl,.inl rfl⟩,⟨_,rfl,.inl rfl⟩,⟨_,rfl,.inl rfl⟩,trivial⟩ ⟨rfl,rfl,trivial⟩ rfl rfl rfl rfl)⟩
theorem b_Src_Value_all : ∀ n : Nat,(∀ (p_s : widgetrybase_Src) (depth : Int) {r : AValue × widgetrybase_Src},b_Src_Value n p_s depth = some r → Con Tryz.prog 52 [.c (.loc 0 0),aI depth] [(0,.blk [.d (.sl (List.map (eInt .i64) p_s.L)),cI p_s.At] 40)] (.s (.agg [cI r.1.Kind,cI r.1.N,cS r.1.S,.d (.sl (List.map AValue.cs r.1.L))])) [(0,.blk [.d (.sl (List.map (eInt .i64) r.2.L)),cI r.2.At] 40)]) ∧ True:=by
 intro n
 induction n with
 | zero=>exact ⟨(by intros;rename_i hr;cases hr),trivial⟩
 | succ n ih=>exact ⟨(by intros;rename_i hr;exact b_Src_Value_B_c _ ih.1 _ _ hr),trivial⟩
theorem b_Src_Value_c (n : Nat) (p_s : widgetrybase_Src) (depth : Int) {r : AValue × widgetrybase_Src} (hr : b_Src_Value n p_s depth = some r) : Con Tryz.prog 52 [.c (.loc 0 0),aI depth] [(0,.blk [.d (.sl (List.map (eInt .i64) p_s.L)),cI p_s.At] 40)] (.s (.agg [cI r.1.Kind,cI r.1.N,cS r.1.S,.d (.sl (List.map AValue.cs r.1.L))])) [(0,.blk [.d (.sl (List.map (eInt .i64) r.2.L)),cI r.2.At] 40)]:=(b_Src_Value_all n).1 p_s depth hr
theorem b_Src_attrs_c (p_s : widgetrybase_Src) (kind : Int) {r : (List Attr) × widgetrybase_Src} (hr : b_Src_attrs p_s kind = some r) : Con Tryz.prog 51 [.c (.loc 0 0),aI kind] [(0,.blk [.d (.sl (List.map (eInt .i64) p_s.L)),cI p_s.At] 40)] (.s (.c (.d (.sl (List.map Attr.cs r.1))))) [(0,.blk [.d (.sl (List.map (eInt .i64) r.2.L)),cI r.2.At] 40)]:=by
 unfold b_Src_attrs at hr
 refine Con.of_ok 207 0 [.tmp 4] [(0,.s (.c (.loc 0 0))),(1,.s (aI kind))] Tryz.func51 rfl rfl rfl rfl rfl rfl rfl rfl fun w g M ρ _=>(Ok.seq (Ok.region (OkOps.y (.c (.d (.v (.slice none 0 0)))) (OkOps.nil (Ok.seq (Ok.region (OkOps.y (.c (.d (.v (.slice none 0 0)))) (OkOps.nil ?_))))))))
 obtain ⟨k2,hk2,hr⟩:=jn_some hr
 refine Ok.join (fun (s1 : (List Attr) × (List Int) × Int)=>⟨[(0,.s (.c (.loc 0 0))),(1,.s (aI kind)),(5,.s (.c (.tl 1000 (List.map Attr.cs s1.1))))],[(0,.blk [.d (.sl (List.map (eInt .i64) s1.2.1)),cI s1.2.2] 40),(1000,.tail 5)],0⟩) k2 r (fun s1 hr=>?_) ?_
 rw [hk2] at hr
 obtain ⟨k4,hk4,hr⟩:=jn_some hr
 refine Ok.join (fun (s3 : (List Attr) × (List Int) × Int)=>⟨[(0,.s (.c (.loc 0 0))),(1,.s (aI kind)),(5,.s (.c (.tl 1001 (List.map Attr.cs s3.1))))],[(0,.blk [.d (.sl (List.map (eInt .i64) s3.2.1)),cI s3.2.2] 40),(1001,.tail 5)],0⟩) k4 r (fun s3 hr=>?_) ?_
 rw [hk4] at hr
 obtain ⟨k6,hk6,hr⟩:=jn_some hr
 refine Ok.join (fun (s5 : (List Attr) × (List Int) × Int)=>⟨[(0,.s (.c (.loc 0 0))),(1,.s (aI kind)),(5,.s (.c (.tl 1002 (List.map Attr.cs s5.1))))],[(0,.blk [.d (.sl (List.map (eInt .i64) s5.2.1)),cI s5.2.2] 40),(1002,.tail 5)],0⟩) k6 r (fun s5 hr=>?_) ?_
 rw [hk6] at hr
 obtain ⟨k8,hk8,hr⟩:=jn_some hr
 refine Ok.join (fun (s7 : (List Attr) × (List Int) × Int)=>⟨[(0,.s (.c (.loc 0 0))),(1,.s (aI kind)),(5,.s (.c (.tl 1003 (List.map Attr.cs s7.1))))],[(0,.blk [.d (.sl (List.map (eInt .i64) s7.2.1)),cI s7.2.2] 40),(1003,.tail 5)],0⟩) k8 r (fun s7 hr=>?_) ?_
 rw [hk8] at hr
 obtain ⟨k10,hk10,hr⟩:=jn_some hr
 refine Ok.join (fun (s9 : (List Attr) × (List Int) × Int)=>⟨[(0,.s (.c (.loc 0 0))),(1,.s (aI kind)),(5,.s (.c (.tl 1014 (List.map Attr.cs s9.1))))],[(0,.blk [.d (.sl (List.map (eInt .i64) s9.2.1)),cI s9.2.2] 40),(1014,.tail 5)],0⟩) k10 r (fun s9 hr=>?_) ?_
 rw [hk10] at hr
 obtain ⟨k12,hk12,hr⟩:=jn_some hr
 refine Ok.join (fun (s11 : (List Attr) × (List Int) × Int)=>⟨[(0,.s (.c (.loc 0 0))),(1,.s (aI kind)),(5,.s (.c (.tl 1015 (List.map Attr.cs s11.1))))],[(0,.blk [.d (.sl (List.map (eInt .i64) s11.2.1)),cI s11.2.2] 40),(1015,.tail 5)],0⟩) k12 r (fun s11 hr=>?_) ?_
 rw [hk12] at hr
 obtain ⟨k14,hk14,hr⟩:=jn_some hr
 refine Ok.join (fun (s13 : (List Attr) × (List Int) × Int)=>⟨[(0,.s (.c (.loc 0 0))),(1,.s (aI kind)),(5,.s (.c (.tl 1016 (List.map Attr.cs s13.1))))],[(0,.blk [.d (.sl (List.map (eInt .i64) s13.2.1)),cI s13.2.2] 40),(1016,.tail 5)],0⟩) k14 r (fun s13 hr=>?_) ?_
 rw [hk14] at hr
 obtain ⟨k16,hk16,hr⟩:=jn_some hr
 refine Ok.join (fun (s15 : (List Attr) × (List Int) × Int)=>⟨[(0,.s (.c (.loc 0 0))),(1,.s (aI kind)),(5,.s (.c (.tl 1017 (List.map Attr.cs s15.1))))],[(0,.blk [.d (.sl (List.map (eInt .i64) s15.2.1)),cI s15.2.2] 40),(1017,.tail 5)],0⟩) k16 r (fun s15 hr=>?_) ?_
 rw [hk16] at hr
 obtain ⟨k18,hk18,hr⟩:=jn_some hr
 refine Ok.join (fun (s17 : (List Attr) × (List Int) × Int)=>⟨[(0,.s (.c (.loc 0 0))),(1,.s (aI kind)),(5,.s (.c (.tl 1018 (List.map Attr.cs s17.1))))],[(0,.blk [.d (.sl (List.map (eInt .i64) s17.2.1)),cI s17.2.2] 40),(1018,.tail 5)],0⟩) k18 r (fun s17 hr=>?_) ?_
 rw [hk18] at hr
 obtain ⟨k20,hk20,hr⟩:=jn_some hr
 refine Ok.join (fun (s19 : (List Attr) × (List Int) × Int)=>⟨[(0,.s (.c (.loc 0 0))),(1,.s (aI kind)),(5,.s (.c (.tl 1019 (List.map Attr.cs s19.1))))],[(0,.blk [.d (.sl (List.map (eInt .i64) s19.2.1)),cI s19.2.2] 40),(1019,.tail 5)],0⟩) k20 r (fun s19 hr=>?_) ?_
 rw [hk20] at hr
 obtain ⟨k22,hk22,hr⟩:=jn_some hr
 refine Ok.join (fun (s21 : (List Attr) × (List Int) × Int)=>⟨[(0,.s (.c (.loc 0 0))),(1,.s (aI kind)),(5,.s (.c (.tl 1020 (List.map Attr.cs s21.1))))],[(0,.blk [.d (.sl (List.map (eInt .i64) s21.2.1)),cI s21.2.2] 40),(1020,.tail 5)],0⟩) k22 r (fun s21 hr=>?_) ?_
 rw [hk22] at hr
 obtain ⟨k24,hk24,hr⟩:=jn_some hr
 refine Ok.join (fun (s23 : (List Attr) × (List Int) × Int)=>⟨[(0,.s (.c (.loc 0 0))),(1,.s (aI kind)),(5,.s (.c (.tl 1021 (List.map Attr.cs s23.1))))],[(0,.blk [.d (.sl (List.map (eInt .i64) s23.2.1)),cI s23.2.2] 40),(1021,.tail 5)],0⟩) k24 r (fun s23 hr=>?_) ?_
 rw [hk24] at hr
 obtain ⟨k26,hk26,hr⟩:=jn_some hr
 refine Ok.join (fun (s25 : (List Attr) × (List Int) × Int)=>⟨[(0,.s (.c (.loc 0 0))),(1,.s (aI kind)),(5,.s (.c (.tl 1022 (List.map Attr.cs s25.1))))],[(0,.blk [.d (.sl (List.map (eInt .i64) s25.2.1)),cI s25.2.2] 40),(1022,.tail 5)],0⟩) k26 r (fun s25 hr=>?_) ?_
 rw [hk26] at hr
 obtain ⟨k28,hk28,hr⟩:=jn_some hr
 refine Ok.join (fun (s27 : (List Attr) × (List Int) × Int)=>⟨[(0,.s (.c (.loc 0 0))),(1,.s (aI kind)),(5,.s (.c (.tl 1023 (List.map Attr.cs s27.1))))],[(0,.blk [.d (.sl (List.map (eInt .i64) s27.2.1)),cI s27.2.2] 40),(1023,.tail 5)],0⟩) k28 r (fun s27 hr=>?_) ?_
 rw [hk28] at hr
 obtain ⟨k30,hk30,hr⟩:=jn_some hr
 refine Ok.join (fun (s29 : (List Attr) × (List Int) × Int)=>⟨[(5,.s (.c (.tl 1024 (List.map Attr.cs s29.1))))],[(0,.blk [.d (.sl (List.map (eInt .i64) s29.2.1)),cI s29.2.2] 40),(1024,.tail 5)],0⟩) k30 r (fun s29 hr=>?_) ?_
 rw [hk30] at hr
 refine Ok.seq (Ok.region (OkOps.y (.c (.tl 1024 (List.map Attr.cs s29.1))) (OkOps.y (.c (.tl 1024 (List.map Attr.cs s29.1))) (OkOps.nil (Ok.ret ?_)))))
 obtain rfl:=Option.some.inj hr
 exact ⟨_,rfl,.inr rfl,⟨rfl,trivial⟩⟩
 clear hk30
 refine Ok.seq (Ok.region (OkOps.y (aI kind) (OkOps.y (aB (kind == 5)) (OkOps.y (aB (kind == 5)) (OkOps.q (triQG (x:=aI kind) rfl rfl trivial rfl) (OkOps.q (triQG (x:=aB (kind == 13)) rfl rfl ⟨fun h=>h,trivial⟩ rfl) ?_))))))
 refine OkOps.q (triOr rfl rfl (fun h=>by rw [h];rfl) rfl) ?_
 refine OkOps.y (aB ((kind == 5) || (kind == 13))) (OkOps.q (triQG (x:=.c (.loc 0 0)) rfl rfl trivial rfl) ?_)
 obtain ⟨x31,hx31,hr⟩:=bind_some hr
 refine OkOps.m 0 (triCallGW (tau [(0,0)]) (aI x31.1) [(0,.blk [.d (.sl (List.map (eInt .i64) x31.2.L)),cI x31.2.At] 40)] (fun hg=>b_Src_N_c _ _ (selT hg hx31)) (fun hg=>by cases selF hg hx31;rfl) rfl rfl ⟨.inl rfl,.inl rfl,trivial⟩ ⟨fun h=>h,trivial⟩ entry7 ⟨rfl,trivial⟩ rfl rfl rfl rfl rfl rfl rfl rfl) ?_
 refine OkOps.q (triQG (x:=aB (x31.1 == 0)) rfl rfl ⟨fun h=>h,trivial⟩ rfl) ?_
 refine OkOps.q (triOr rfl rfl (fun h=>by rw [h];rfl) rfl) ?_
 refine OkOps.nil ?_
 refine Ok.cond (b:=((kind == 5) || (kind == 13)) || (x31.1 == 0)) rfl (fun h32=>?_) (fun h32=>?_)
 have hr:=selT h32 hr
 refine Ok.region (OkOps.y (.c (.tl 1023 (List.map Attr.cs s27.1))) (OkOps.y (.c (.loc 0 0)) ?_))
 obtain ⟨x33,hx33,hr⟩:=bind_some hr
 refine OkOps.m 0 (triCl (tau [(0,0)]) (.s (aI x33.1)) [(0,.blk [.d (.sl (List.map (eInt .i64) x33.2.L)),cI x33.2.At] 40)] (b_Src_N_c _ _ hx33) rfl ⟨.inl rfl,.inl rfl,trivial⟩ trivial entry7 ⟨rfl,trivial⟩) ?_
 obtain ⟨x34,hx34,hr⟩:=bind_some hr
 refine OkOps.q (triCl (tau []) (.s (.agg [cI x34.Kind,cI x34.N,cS x34.S,.d (.sl (List.map AValue.cs x34.L))])) [] (b_number_c _ hx34) rfl ⟨.inl rfl,trivial⟩ trivial entry68 trivial) (OkOps.y (.agg [cS (ByteArray.mk #[119,105,100,116,104]),cI x34.Kind,cI x34.N,cS x34.S,.d (.sl (List.map AValue.cs x34.L))]) (OkOps.m 0 (triBST (sz:=5) (enc:=Attr.cs) (j:=1) ([(Attr.mk (ByteArray.mk #[119,105,100,116,104]) x34)]) rfl rfl rfl rfl rfl rfl rfl rfl (fun _=>rfl) trivial rfl rfl) ?_))
 obtain ⟨x35,hx35,hr⟩:=bind_some hr
 refine OkOps.m2 0 (triApp (enc:=Attr.cs) (L:=s27.1) (X:=[(Attr.mk (ByteArray.mk #[119,105,100,116,104]) x34)]) (j:=1023) (j':=2) hx35 rfl rfl rfl rfl rfl rfl (fun _=>rfl) (fun _=>rfl) (by decide) trivial rfl rfl) (OkOps.y (.c (.tl 2 (List.map Attr.cs x35))) (OkOps.nil ?_))
 exact ⟨(x35,x33.2.L,x33.2.At),hr,(Conv.mk (tau [(1024,2)]) ⟨⟨_,rfl,.inl rfl⟩,trivial⟩ ⟨rfl,rfl,trivial⟩ rfl rfl rfl rfl)⟩
 have hr:=selF h32 hr
 refine Ok.skip ?_
 exact ⟨(s27.1,x31.2.L,x31.2.At),hr,(Conv.mk (tau [(1024,1023)]) ⟨⟨_,rfl,.inl rfl⟩,trivial⟩ ⟨rfl,rfl,trivial⟩ rfl rfl rfl rfl)⟩
 clear hk28
 refine Ok.seq (Ok.region (OkOps.y (.c (.loc 0 0)) ?_))
 obtain ⟨x36,hx36,hr⟩:=bind_some hr
 refine OkOps.m 0 (triCl (tau [(0,0)]) (.s (aI x36.1)) [(0,.blk [.d (.sl (List.map (eInt .i64) x36.2.L)),cI x36.2.At] 40)] (b_Src_N_c _ _ hx36) rfl ⟨.inl rfl,.inl rfl,trivial⟩ trivial entry7 ⟨rfl,trivial⟩) (OkOps.y (aB (x36.1 == 0)) (OkOps.nil ?_))
 refine Ok.cond (b:=x36.1 == 0) rfl (fun h37=>?_) (fun h37=>?_)
 have hr:=selT h37 hr
 refine Ok.region (OkOps.y (.c (.tl 1022 (List.map Attr.cs s25.1))) (OkOps.y (.c (.loc 0 0)) ?_))
 obtain ⟨x38,hx38,hr⟩:=bind_some hr
 refine OkOps.m 0 (triCl (tau [(0,0)]) (.s (aI x38.1)) [(0,.blk [.d (.sl (List.map (eInt .i64) x38.2.L)),cI x38.2.At] 40)] (b_Src_N_c _ _ hx38) rfl ⟨.inl rfl,.inl rfl,trivial⟩ trivial entry7 ⟨rfl,trivial⟩) ?_
 obtain ⟨x39,hx39,hr⟩:=bind_some hr
 refine OkOps.q (triCl (tau []) (.s (.agg [cI x39.Kind,cI x39.N,cS x39.S,.d (.sl (List.map AValue.cs x39.L))])) [] (b_number_c _ hx39) rfl ⟨.inl rfl,trivial⟩ trivial entry68 trivial) (OkOps.y (.agg [cS (ByteArray.mk #[116,117,114,110]),cI x39.Kind,cI x39.N,cS x39.S,.d (.sl (List.map AValue.cs x39.L))]) (OkOps.m 0 (triBST (sz:=5) (enc:=Attr.cs) (j:=3) ([(Attr.mk (ByteArray.mk #[116,117,114,110]) x39)]) rfl rfl rfl rfl rfl rfl rfl rfl (fun _=>rfl) trivial rfl rfl) ?_))
 obtain ⟨x40,hx40,hr⟩:=bind_some hr
 refine OkOps.m2 0 (triApp (enc:=Attr.cs) (L:=s25.1) (X:=[(Attr.mk (ByteArray.mk #[116,117,114,110]) x39)]) (j:=1022) (j':=4) hx40 rfl rfl rfl rfl rfl rfl (fun _=>rfl) (fun _=>rfl) (by decide) trivial rfl rfl) (OkOps.y (.c (.tl 4 (List.map Attr.cs x40))) (OkOps.nil ?_))
 exact ⟨(x40,x38.2.L,x38.2.At),hr,(Conv.mk (tau [(1023,4)]) ⟨⟨_,rfl,.inl rfl⟩,⟨_,rfl,.inl rfl⟩,⟨_,rfl,.inl rfl⟩,trivial⟩ ⟨rfl,rfl,trivial⟩ rfl rfl rfl rfl)⟩
 have hr:=selF h37 hr
 refine Ok.skip ?_
 exact ⟨(s25.1,x36.2.L,x36.2.At),hr,(Conv.mk (tau [(1023,1022)]) ⟨⟨_,rfl,.inl rfl⟩,⟨_,rfl,.inl rfl⟩,⟨_,rfl,.inl rfl⟩,trivial⟩ ⟨rfl,rfl,trivial⟩ rfl rfl rfl rfl)⟩
 clear hk26
 refine Ok.seq (Ok.region (OkOps.y (.c (.loc 0 0)) ?_))
 obtain ⟨x41,hx41,hr⟩:=bind_some hr
 refine OkOps.m 0 (triCl (tau [(0,0)]) (.s (aI x41.1)) [(0,.blk [.d (.sl (List.map (eInt .i64) x41.2.L)),cI x41.2.At] 40)] (b_Src_N_c _ _ hx41) rfl ⟨.inl rfl,.inl rfl,trivial⟩ trivial entry7 ⟨rfl,trivial⟩) (OkOps.y (aB (x41.1 == 0)) (OkOps.nil ?_))
 refine Ok.cond (b:=x41.1 == 0) rfl (fun h42=>?_) (fun h42=>?_)
 have hr:=selT h42 hr
 refine Ok.region (OkOps.y (.c (.tl 1021 (List.map Attr.cs s23.1))) (OkOps.y (.c (.loc 0 0)) (OkOps.y (.c (.loc 0 0)) ?_)))
 obtain ⟨x43,hx43,hr⟩:=bind_some hr
 refine OkOps.m 0 (triCl (tau [(0,0)]) (.s (.c (.d (.sl (List.map (eInt .i32) x43.1))))) [(0,.blk [.d (.sl (List.map (eInt .i64) x43.2.L)),cI x43.2.At] 40)] (b_Src_Text_c _ _ hx43) rfl ⟨.inl rfl,.inl rfl,trivial⟩ trivial entry70 ⟨rfl,trivial⟩) ?_
 obtain ⟨x44,hx44,hr⟩:=bind_some hr
 refine OkOps.m 0 (triCl (tau [(0,0)]) (.s (.c (.d (.sl (List.map (eInt .i32) x44.1))))) [(0,.blk [.d (.sl (List.map (eInt .i64) x44.2.L)),cI x44.2.At] 40)] (b_Src_valid_c _ _ hx44) rfl ⟨.inl rfl,.inl rfl,trivial⟩ trivial entry69 ⟨rfl,trivial⟩) (OkOps.q (triOfRunes (L:=x44.1) rfl rfl trivial rfl) ?_)
 obtain ⟨x45,hx45,hr⟩:=bind_some hr
 refine OkOps.q (triCl (tau []) (.s (.agg [cI x45.Kind,cI x45.N,cS x45.S,.d (.sl (List.map AValue.cs x45.L))])) [] (b_text_c _ hx45) rfl ⟨.inl rfl,trivial⟩ trivial entry65 trivial) (OkOps.y (.agg [cS (ByteArray.mk #[116,101,120,116]),cI x45.Kind,cI x45.N,cS x45.S,.d (.sl (List.map AValue.cs x45.L))]) (OkOps.m 0 (triBST (sz:=5) (enc:=Attr.cs) (j:=5) ([(Attr.mk (ByteArray.mk #[116,101,120,116]) x45)]) rfl rfl rfl rfl rfl rfl rfl rfl (fun _=>rfl) trivial rfl rfl) ?_))
 obtain ⟨x46,hx46,hr⟩:=bind_some hr
 refine OkOps.m2 0 (triApp (enc:=Attr.cs) (L:=s23.1) (X:=[(Attr.mk (ByteArray.mk #[116,101,120,116]) x45)]) (j:=1021) (j':=6) hx46 rfl rfl rfl rfl rfl rfl (fun _=>rfl) (fun _=>rfl) (by decide) trivial rfl rfl) (OkOps.y (.c (.tl 6 (List.map Attr.cs x46))) (OkOps.nil ?_))
 exact ⟨(x46,x44.2.L,x44.2.At),hr,(Conv.mk (tau [(1022,6)]) ⟨⟨_,rfl,.inl rfl⟩,⟨_,rfl,.inl rfl⟩,⟨_,rfl,.inl rfl⟩,trivial⟩ ⟨rfl,rfl,trivial⟩ rfl rfl rfl rfl)⟩
 have hr:=selF h42 hr
 refine Ok.skip ?_
 exact ⟨(s23.1,x41.2.L,x41.2.At),hr,(Conv.mk (tau [(1022,1021)]) ⟨⟨_,rfl,.inl rfl⟩,⟨_,rfl,.inl rfl⟩,⟨_,rfl,.inl rfl⟩,trivial⟩ ⟨rfl,rfl,trivial⟩ rfl rfl rfl rfl)⟩
 clear hk24
 refine Ok.seq (Ok.region (OkOps.y (.c (.loc 0 0)) ?_))
 obtain ⟨x47,hx47,hr⟩:=bind_some hr
 refine OkOps.m 0 (triCl (tau [(0,0)]) (.s (aI x47.1)) [(0,.blk [.d (.sl (List.map (eInt .i64) x47.2.L)),cI x47.2.At] 40)] (b_Src_N_c _ _ hx47) rfl ⟨.inl rfl,.inl rfl,trivial⟩ trivial entry7 ⟨rfl,trivial⟩) (OkOps.y (aB (x47.1 == 0)) (OkOps.nil ?_))
 refine Ok.cond (b:=x47.1 == 0) rfl (fun h48=>?_) (fun h48=>?_)
 have hr:=selT h48 hr
 refine Ok.region (OkOps.y (.c (.tl 1020 (List.map Attr.cs s21.1))) (OkOps.y (.c (.loc 0 0)) ?_))
 obtain ⟨x49,hx49,hr⟩:=bind_some hr
 refine OkOps.m 0 (triCl (tau [(0,0)]) (.s (aI x49.1)) [(0,.blk [.d (.sl (List.map (eInt .i64) x49.2.L)),cI x49.2.At] 40)] (b_Src_N_c _ _ hx49) rfl ⟨.inl rfl,.inl rfl,trivial⟩ trivial entry7 ⟨rfl,trivial⟩) ?_
 obtain ⟨x50,hx50,hr⟩:=bind_some hr
 refine OkOps.q (triCl (tau []) (.s (.agg [cI x50.Kind,cI x50.N,cS x50.S,.d (.sl (List.map AValue.cs x50.L))])) [] (b_number_c _ hx50) rfl ⟨.inl rfl,trivial⟩ trivial entry68 trivial) (OkOps.y (.agg [cS (ByteArray.mk #[115,112,97,110]),cI x50.Kind,cI x50.N,cS x50.S,.d (.sl (List.map AValue.cs x50.L))]) (OkOps.m 0 (triBST (sz:=5) (enc:=Attr.cs) (j:=7) ([(Attr.mk (ByteArray.mk #[115,112,97,110]) x50)]) rfl rfl rfl rfl rfl rfl rfl rfl (fun _=>rfl) trivial rfl rfl) ?_))
 obtain ⟨x51,hx51,hr⟩:=bind_some hr
 refine OkOps.m2 0 (triApp (enc:=Attr.cs) (L:=s21.1) (X:=[(Attr.mk (ByteArray.mk #[115,112,97,110]) x50)]) (j:=1020) (j':=8) hx51 rfl rfl rfl rfl rfl rfl (fun _=>rfl) (fun _=>rfl) (by decide) trivial rfl rfl) (OkOps.y (.c (.tl 8 (List.map Attr.cs x51))) (OkOps.nil ?_))
 exact ⟨(x51,x49.2.L,x49.2.At),hr,(Conv.mk (tau [(1021,8)]) ⟨⟨_,rfl,.inl rfl⟩,⟨_,rfl,.inl rfl⟩,⟨_,rfl,.inl rfl⟩,trivial⟩ ⟨rfl,rfl,trivial⟩ rfl rfl rfl rfl)⟩
 have hr:=selF h48 hr
 refine Ok.skip ?_
 exact ⟨(s21.1,x47.2.L,x47.2.At),hr,(Conv.mk (tau [(1021,1020)]) ⟨⟨_,rfl,.inl rfl⟩,⟨_,rfl,.inl rfl⟩,⟨_,rfl,.inl rfl⟩,trivial⟩ ⟨rfl,rfl,trivial⟩ rfl rfl rfl rfl)⟩
 clear hk22
 refine Ok.seq (Ok.region (OkOps.y (.c (.loc 0 0)) ?_))
 obtain ⟨x52,hx52,hr⟩:=bind_some hr
 refine OkOps.m 0 (triCl (tau [(0,0)]) (.s (aI x52.1)) [(0,.blk [.d (.sl (List.map (eInt .i64) x52.2.L)),cI x52.2.At] 40)] (b_Src_N_c _ _ hx52) rfl ⟨.inl rfl,.inl rfl,trivial⟩ trivial entry7 ⟨rfl,trivial⟩) (OkOps.y (aB (x52.1 == 0)) (OkOps.nil ?_))
 refine Ok.cond (b:=x52.1 == 0) rfl (fun h53=>?_) (fun h53=>?_)
 have hr:=selT h53 hr
 refine Ok.region (OkOps.y (.c (.tl 1019 (List.map Attr.cs s19.1))) (OkOps.y (.c (.loc 0 0)) ?_))
 obtain ⟨x54,hx54,hr⟩:=bind_some hr
 refine OkOps.m 0 (triCl (tau [(0,0)]) (.s (aI x54.1)) [(0,.blk [.d (.sl (List.map (eInt .i64) x54.2.L)),cI x54.2.At] 40)] (b_Src_N_c _ _ hx54) rfl ⟨.inl rfl,.inl rfl,trivial⟩ trivial entry7 ⟨rfl,trivial⟩) ?_
 obtain ⟨x55,hx55,hr⟩:=bind_some hr
 refine OkOps.q (triCl (tau []) (.s (.agg [cI x55.Kind,cI x55.N,cS x55.S,.d (.sl (List.map AValue.cs x55.L))])) [] (b_number_c _ hx55) rfl ⟨.inl rfl,trivial⟩ trivial entry68 trivial) (OkOps.y (.agg [cS (ByteArray.mk #[115,99,97,108,101]),cI x55.Kind,cI x55.N,cS x55.S,.d (.sl (List.map AValue.cs x55.L))]) (OkOps.m 0 (triBST (sz:=5) (enc:=Attr.cs) (j:=9) ([(Attr.mk (ByteArray.mk #[115,99,97,108,101]) x55)]) rfl rfl rfl rfl rfl rfl rfl rfl (fun _=>rfl) trivial rfl rfl) ?_))
 obtain ⟨x56,hx56,hr⟩:=bind_some hr
 refine OkOps.m2 0 (triApp (enc:=Attr.cs) (L:=s19.1) (X:=[(Attr.mk (ByteArray.mk #[115,99,97,108,101]) x55)]) (j:=1019) (j':=10) hx56 rfl rfl rfl rfl rfl rfl (fun _=>rfl) (fun _=>rfl) (by decide) trivial rfl rfl) (OkOps.y (.c (.tl 10 (List.map Attr.cs x56))) (OkOps.nil ?_))
 exact ⟨(x56,x54.2.L,x54.2.At),hr,(Conv.mk (tau [(1020,10)]) ⟨⟨_,rfl,.inl rfl⟩,⟨_,rfl,.inl rfl⟩,⟨_,rfl,.inl rfl⟩,trivial⟩ ⟨rfl,rfl,trivial⟩ rfl rfl rfl rfl)⟩
 have hr:=selF h53 hr
 refine Ok.skip ?_
 exact ⟨(s19.1,x52.2.L,x52.2.At),hr,(Conv.mk (tau [(1020,1019)]) ⟨⟨_,rfl,.inl rfl⟩,⟨_,rfl,.inl rfl⟩,⟨_,rfl,.inl rfl⟩,trivial⟩ ⟨rfl,rfl,trivial⟩ rfl rfl rfl rfl)⟩
 clear hk20
 refine Ok.seq (Ok.region (OkOps.y (.c (.loc 0 0)) ?_))
 obtain ⟨x57,hx57,hr⟩:=bind_some hr
 refine OkOps.m 0 (triCl (tau [(0,0)]) (.s (aI x57.1)) [(0,.blk [.d (.sl (List.map (eInt .i64) x57.2.L)),cI x57.2.At] 40)] (b_Src_N_c _ _ hx57) rfl ⟨.inl rfl,.inl rfl,trivial⟩ trivial entry7 ⟨rfl,trivial⟩) (OkOps.y (aB (x57.1 == 0)) (OkOps.nil ?_))
 refine Ok.cond (b:=x57.1 == 0) rfl (fun h58=>?_) (fun h58=>?_)
 have hr:=selT h58 hr
 refine Ok.region (OkOps.y (.c (.tl 1018 (List.map Attr.cs s17.1))) ?_)
 obtain ⟨x59,hx59,hr⟩:=bind_some hr
 refine OkOps.q (triCl (tau []) (.s (.agg [cI x59.Kind,cI x59.N,cS x59.S,.d (.sl (List.map AValue.cs x59.L))])) [] (b_flag_c _ hx59) rfl ⟨.inl rfl,trivial⟩ trivial entry66 trivial) (OkOps.y (.agg [cS (ByteArray.mk #[112,105,110,110,101,100]),cI x59.Kind,cI x59.N,cS x59.S,.d (.sl (List.map AValue.cs x59.L))]) (OkOps.m 0 (triBST (sz:=5) (enc:=Attr.cs) (j:=11) ([(Attr.mk (ByteArray.mk #[112,105,110,110,101,100]) x59)]) rfl rfl rfl rfl rfl rfl rfl rfl (fun _=>rfl) trivial rfl rfl) ?_))
 obtain ⟨x60,hx60,hr⟩:=bind_some hr
 refine OkOps.m2 0 (triApp (enc:=Attr.cs) (L:=s17.1) (X:=[(Attr.mk (ByteArray.mk #[112,105,110,110,101,100]) x59)]) (j:=1018) (j':=12) hx60 rfl rfl rfl rfl rfl rfl (fun _=>rfl) (fun _=>rfl) (by decide) trivial rfl rfl) (OkOps.y (.c (.tl 12 (List.map Attr.cs x60))) (OkOps.nil ?_))
 exact ⟨(x60,x57.2.L,x57.2.At),hr,(Conv.mk (tau [(1019,12)]) ⟨⟨_,rfl,.inl rfl⟩,⟨_,rfl,.inl rfl⟩,⟨_,rfl,.inl rfl⟩,trivial⟩ ⟨rfl,rfl,trivial⟩ rfl rfl rfl rfl)⟩
 have hr:=selF h58 hr
 refine Ok.skip ?_
 exact ⟨(s17.1,x57.2.L,x57.2.At),hr,(Conv.mk (tau [(1019,1018)]) ⟨⟨_,rfl,.inl rfl⟩,⟨_,rfl,.inl rfl⟩,⟨_,rfl,.inl rfl⟩,trivial⟩ ⟨rfl,rfl,trivial⟩ rfl rfl rfl rfl)⟩
 clear hk18
 refine Ok.seq (Ok.region (OkOps.y (.c (.loc 0 0)) ?_))
 obtain ⟨x61,hx61,hr⟩:=bind_some hr
 refine OkOps.m 0 (triCl (tau [(0,0)]) (.s (aI x61.1)) [(0,.blk [.d (.sl (List.map (eInt .i64) x61.2.L)),cI x61.2.At] 40)] (b_Src_N_c _ _ hx61) rfl ⟨.inl rfl,.inl rfl,trivial⟩ trivial entry7 ⟨rfl,trivial⟩) (OkOps.y (aB (x61.1 == 0)) (OkOps.nil ?_))
 refine Ok.cond (b:=x61.1 == 0) rfl (fun h62=>?_) (fun h62=>?_)
 have hr:=selT h62 hr
 refine Ok.region (OkOps.y (.c (.tl 1017 (List.map Attr.cs s15.1))) (OkOps.y (.c (.loc 0 0)) ?_))
 obtain ⟨x63,hx63,hr⟩:=bind_some hr
 refine OkOps.m 0 (triCl (tau [(0,0)]) (.s (aI x63.1)) [(0,.blk [.d (.sl (List.map (eInt .i64) x63.2.L)),cI x63.2.At] 40)] (b_Src_N_c _ _ hx63) rfl ⟨.inl rfl,.inl rfl,trivial⟩ trivial entry7 ⟨rfl,trivial⟩) (OkOps.y (aI (IntKind.i64.wrap (97 + x63.1))) (OkOps.y (.c (.d (.v (.int .u8 (IntKind.u8.wrap (IntKind.i64.wrap (97 + x63.1))))))) (OkOps.m 0 (triBST (sz:=1) (enc:=(eInt .u8)) (j:=13) ([IntKind.u8.wrap (IntKind.i64.wrap (97 + x63.1))]) rfl rfl rfl rfl rfl rfl rfl rfl (fun _=>rfl) trivial rfl rfl) (OkOps.q (triOfBytes (L:=[IntKind.u8.wrap (IntKind.i64.wrap (97 + x63.1))]) rfl rfl trivial rfl) ?_))))
 obtain ⟨x64,hx64,hr⟩:=bind_some hr
 refine OkOps.q (triCat hx64 rfl rfl trivial rfl) ?_
 obtain ⟨x65,hx65,hr⟩:=bind_some hr
 refine OkOps.q (triCl (tau []) (.s (.agg [cI x65.Kind,cI x65.N,cS x65.S,.d (.sl (List.map AValue.cs x65.L))])) [] (b_text_c _ hx65) rfl ⟨.inl rfl,trivial⟩ trivial entry65 trivial) (OkOps.y (.agg [cS (ByteArray.mk #[108,101,102,116]),cI x65.Kind,cI x65.N,cS x65.S,.d (.sl (List.map AValue.cs x65.L))]) (OkOps.m 0 (triBST (sz:=5) (enc:=Attr.cs) (j:=14) ([(Attr.mk (ByteArray.mk #[108,101,102,116]) x65)]) rfl rfl rfl rfl rfl rfl rfl rfl (fun _=>rfl) trivial rfl rfl) ?_))
 obtain ⟨x66,hx66,hr⟩:=bind_some hr
 refine OkOps.m2 0 (triApp (enc:=Attr.cs) (L:=s15.1) (X:=[(Attr.mk (ByteArray.mk #[108,101,102,116]) x65)]) (j:=1017) (j':=15) hx66 rfl rfl rfl rfl rfl rfl (fun _=>rfl) (fun _=>rfl) (by decide) trivial rfl rfl) (OkOps.y (.c (.tl 15 (List.map Attr.cs x66))) (OkOps.nil ?_))
 exact ⟨(x66,x63.2.L,x63.2.At),hr,(Conv.mk (tau [(1018,15)]) ⟨⟨_,rfl,.inl rfl⟩,⟨_,rfl,.inl rfl⟩,⟨_,rfl,.inl rfl⟩,trivial⟩ ⟨rfl,rfl,trivial⟩ rfl rfl rfl rfl)⟩
 have hr:=selF h62 hr
 refine Ok.skip ?_
 exact ⟨(s15.1,x61.2.L,x61.2.At),hr,(Conv.mk (tau [(1018,1017)]) ⟨⟨_,rfl,.inl rfl⟩,⟨_,rfl,.inl rfl⟩,⟨_,rfl,.inl rfl⟩,trivial⟩ ⟨rfl,rfl,trivial⟩ rfl rfl rfl rfl)⟩
 clear hk16
 refine Ok.seq (Ok.region (OkOps.y (.c (.loc 0 0)) ?_))
 obtain ⟨x67,hx67,hr⟩:=bind_some hr
 refine OkOps.m 0 (triCl (tau [(0,0)]) (.s (aI x67.1)) [(0,.blk [.d (.sl (List.map (eInt .i64) x67.2.L)),cI x67.2.At] 40)] (b_Src_N_c _ _ hx67) rfl ⟨.inl rfl,.inl rfl,trivial⟩ trivial entry7 ⟨rfl,trivial⟩) (OkOps.y (aB (x67.1 == 0)) (OkOps.nil ?_))
 refine Ok.cond (b:=x67.1 == 0) rfl (fun h68=>?_) (fun h68=>?_)
 have hr:=selT h68 hr
 refine Ok.region (OkOps.y (.c (.tl 1016 (List.map Attr.cs s13.1))) (OkOps.y (.c (.loc 0 0)) ?_))
 obtain ⟨x69,hx69,hr⟩:=bind_some hr
 refine OkOps.m 0 (triCl (tau [(0,0)]) (.s (aI x69.1)) [(0,.blk [.d (.sl (List.map (eInt .i64) x69.2.L)),cI x69.2.At] 40)] (b_Src_N_c _ _ hx69) rfl ⟨.inl rfl,.inl rfl,trivial⟩ trivial entry7 ⟨rfl,trivial⟩) ?_
 obtain ⟨x70,hx70,hr⟩:=bind_some hr
 refine OkOps.q (triCl (tau []) (.s (.agg [cI x70.Kind,cI x70.N,cS x70.S,.d (.sl (List.map AValue.cs x70.L))])) [] (b_flag_c _ hx70) rfl ⟨.inl rfl,trivial⟩ trivial entry66 trivial) (OkOps.y (.agg [cS (ByteArray.mk #[104,105,100,100,101,110]),cI x70.Kind,cI x70.N,cS x70.S,.d (.sl (List.map AValue.cs x70.L))]) (OkOps.m 0 (triBST (sz:=5) (enc:=Attr.cs) (j:=16) ([(Attr.mk (ByteArray.mk #[104,105,100,100,101,110]) x70)]) rfl rfl rfl rfl rfl rfl rfl rfl (fun _=>rfl) trivial rfl rfl) ?_))
 obtain ⟨x71,hx71,hr⟩:=bind_some hr
 refine OkOps.m2 0 (triApp (enc:=Attr.cs) (L:=s13.1) (X:=[(Attr.mk (ByteArray.mk #[104,105,100,100,101,110]) x70)]) (j:=1016) (j':=17) hx71 rfl rfl rfl rfl rfl rfl (fun _=>rfl) (fun _=>rfl) (by decide) trivial rfl rfl) (OkOps.y (.c (.tl 17 (List.map Attr.cs x71))) (OkOps.nil ?_))
 exact ⟨(x71,x69.2.L,x69.2.At),hr,(Conv.mk (tau [(1017,17)]) ⟨⟨_,rfl,.inl rfl⟩,⟨_,rfl,.inl rfl⟩,⟨_,rfl,.inl rfl⟩,trivial⟩ ⟨rfl,rfl,trivial⟩ rfl rfl rfl rfl)⟩
 have hr:=selF h68 hr
 refine Ok.skip ?_
 exact ⟨(s13.1,x67.2.L,x67.2.At),hr,(Conv.mk (tau [(1017,1016)]) ⟨⟨_,rfl,.inl rfl⟩,⟨_,rfl,.inl rfl⟩,⟨_,rfl,.inl rfl⟩,trivial⟩ ⟨rfl,rfl,trivial⟩ rfl rfl rfl rfl)⟩
 clear hk14
 refine Ok.seq (Ok.region (OkOps.y (aI kind) (OkOps.y (aB (kind == 5)) (OkOps.y (aB (kind == 5)) (OkOps.q (triQG (x:=aI kind) rfl rfl trivial rfl) (OkOps.q (triQG (x:=aB (kind == 13)) rfl rfl ⟨fun h=>h,trivial⟩ rfl) ?_))))))
 refine OkOps.q (triOr rfl rfl (fun h=>by rw [h];rfl) rfl) ?_
 refine OkOps.y (aB ((kind == 5) || (kind == 13))) (OkOps.q (triQG (x:=.c (.loc 0 0)) rfl rfl trivial rfl) ?_)
 obtain ⟨x72,hx72,hr⟩:=bind_some hr
 refine OkOps.m 0 (triCallGW (tau [(0,0)]) (aI x72.1) [(0,.blk [.d (.sl (List.map (eInt .i64) x72.2.L)),cI x72.2.At] 40)] (fun hg=>b_Src_N_c _ _ (selT hg hx72)) (fun hg=>by cases selF hg hx72;rfl) rfl rfl ⟨.inl rfl,.inl rfl,trivial⟩ ⟨fun h=>h,trivial⟩ entry7 ⟨rfl,trivial⟩ rfl rfl rfl rfl rfl rfl rfl rfl) ?_
 refine OkOps.q (triQG (x:=aB (x72.1 == 0)) rfl rfl ⟨fun h=>h,trivial⟩ rfl) ?_
 refine OkOps.q (triOr rfl rfl (fun h=>by rw [h];rfl) rfl) ?_
 refine OkOps.nil ?_
 refine Ok.cond (b:=((kind == 5) || (kind == 13)) || (x72.1 == 0)) rfl (fun h73=>?_) (fun h73=>?_)
 have hr:=selT h73 hr
 refine Ok.region (OkOps.y (.c (.tl 1015 (List.map Attr.cs s11.1))) (OkOps.y (.c (.loc 0 0)) ?_))
 obtain ⟨x74,hx74,hr⟩:=bind_some hr
 refine OkOps.m 0 (triCl (tau [(0,0)]) (.s (aI x74.1)) [(0,.blk [.d (.sl (List.map (eInt .i64) x74.2.L)),cI x74.2.At] 40)] (b_Src_N_c _ _ hx74) rfl ⟨.inl rfl,.inl rfl,trivial⟩ trivial entry7 ⟨rfl,trivial⟩) ?_
 obtain ⟨x75,hx75,hr⟩:=bind_some hr
 refine OkOps.q (triCl (tau []) (.s (.agg [cI x75.Kind,cI x75.N,cS x75.S,.d (.sl (List.map AValue.cs x75.L))])) [] (b_number_c _ hx75) rfl ⟨.inl rfl,trivial⟩ trivial entry68 trivial) (OkOps.y (.agg [cS (ByteArray.mk #[104,101,105,103,104,116]),cI x75.Kind,cI x75.N,cS x75.S,.d (.sl (List.map AValue.cs x75.L))]) (OkOps.m 0 (triBST (sz:=5) (enc:=Attr.cs) (j:=18) ([(Attr.mk (ByteArray.mk #[104,101,105,103,104,116]) x75)]) rfl rfl rfl rfl rfl rfl rfl rfl (fun _=>rfl) trivial rfl rfl) ?_))
 obtain ⟨x76,hx76,hr⟩:=bind_some hr
 refine OkOps.m2 0 (triApp (enc:=Attr.cs) (L:=s11.1) (X:=[(Attr.mk (ByteArray.mk #[104,101,105,103,104,116]) x75)]) (j:=1015) (j':=19) hx76 rfl rfl rfl rfl rfl rfl (fun _=>rfl) (fun _=>rfl) (by decide) trivial rfl rfl) (OkOps.y (.c (.tl 19 (List.map Attr.cs x76))) (OkOps.nil ?_))
 exact ⟨(x76,x74.2.L,x74.2.At),hr,(Conv.mk (tau [(1016,19)]) ⟨⟨_,rfl,.inl rfl⟩,⟨_,rfl,.inl rfl⟩,⟨_,rfl,.inl rfl⟩,trivial⟩ ⟨rfl,rfl,trivial⟩ rfl rfl rfl rfl)⟩
 have hr:=selF h73 hr
 refine Ok.skip ?_
 exact ⟨(s11.1,x72.2.L,x72.2.At),hr,(Conv.mk (tau [(1016,1015)]) ⟨⟨_,rfl,.inl rfl⟩,⟨_,rfl,.inl rfl⟩,⟨_,rfl,.inl rfl⟩,trivial⟩ ⟨rfl,rfl,trivial⟩ rfl rfl rfl rfl)⟩
 clear hk12
 refine Ok.seq (Ok.region (OkOps.y (.c (.loc 0 0)) ?_))
 obtain ⟨x77,hx77,hr⟩:=bind_some hr
 refine OkOps.m 0 (triCl (tau [(0,0)]) (.s (aI x77.1)) [(0,.blk [.d (.sl (List.map (eInt .i64) x77.2.L)),cI x77.2.At] 40)] (b_Src_N_c _ _ hx77) rfl ⟨.inl rfl,.inl rfl,trivial⟩ trivial entry7 ⟨rfl,trivial⟩) (OkOps.y (aB (x77.1 == 0)) (OkOps.nil ?_))
 refine Ok.cond (b:=x77.1 == 0) rfl (fun h78=>?_) (fun h78=>?_)
 have hr:=selT h78 hr
 refine Ok.region (OkOps.y (.c (.tl 1014 (List.map Attr.cs s9.1))) (OkOps.y (.c (.loc 0 0)) ?_))
 obtain ⟨x79,hx79,hr⟩:=bind_some hr
 refine OkOps.m 0 (triCl (tau [(0,0)]) (.s (aI x79.1)) [(0,.blk [.d (.sl (List.map (eInt .i64) x79.2.L)),cI x79.2.At] 40)] (b_Src_N_c _ _ hx79) rfl ⟨.inl rfl,.inl rfl,trivial⟩ trivial entry7 ⟨rfl,trivial⟩) ?_
 obtain ⟨x80,hx80,hr⟩:=bind_some hr
 refine OkOps.q (triCl (tau []) (.s (.agg [cI x80.Kind,cI x80.N,cS x80.S,.d (.sl (List.map AValue.cs x80.L))])) [] (b_flag_c _ hx80) rfl ⟨.inl rfl,trivial⟩ trivial entry66 trivial) (OkOps.y (.agg [cS (ByteArray.mk #[100,105,115,97,98,108,101,100]),cI x80.Kind,cI x80.N,cS x80.S,.d (.sl (List.map AValue.cs x80.L))]) (OkOps.m 0 (triBST (sz:=5) (enc:=Attr.cs) (j:=20) ([(Attr.mk (ByteArray.mk #[100,105,115,97,98,108,101,100]) x80)]) rfl rfl rfl rfl rfl rfl rfl rfl (fun _=>rfl) trivial rfl rfl) ?_))
 obtain ⟨x81,hx81,hr⟩:=bind_some hr
 refine OkOps.m2 0 (triApp (enc:=Attr.cs) (L:=s9.1) (X:=[(Attr.mk (ByteArray.mk #[100,105,115,97,98,108,101,100]) x80)]) (j:=1014) (j':=21) hx81 rfl rfl rfl rfl rfl rfl (fun _=>rfl) (fun _=>rfl) (by decide) trivial rfl rfl) (OkOps.y (.c (.tl 21 (List.map Attr.cs x81))) (OkOps.nil ?_))
 exact ⟨(x81,x79.2.L,x79.2.At),hr,(Conv.mk (tau [(1015,21)]) ⟨⟨_,rfl,.inl rfl⟩,⟨_,rfl,.inl rfl⟩,⟨_,rfl,.inl rfl⟩,trivial⟩ ⟨rfl,rfl,trivial⟩ rfl rfl rfl rfl)⟩
 have hr:=selF h78 hr
 refine Ok.skip ?_
 exact ⟨(s9.1,x77.2.L,x77.2.At),hr,(Conv.mk (tau [(1015,1014)]) ⟨⟨_,rfl,.inl rfl⟩,⟨_,rfl,.inl rfl⟩,⟨_,rfl,.inl rfl⟩,trivial⟩ ⟨rfl,rfl,trivial⟩ rfl rfl rfl rfl)⟩
 clear hk10
 refine Ok.seq (Ok.region (OkOps.y (.c (.loc 0 0)) ?_))
 obtain ⟨x82,hx82,hr⟩:=bind_some hr
 refine OkOps.m 0 (triCl (tau [(0,0)]) (.s (aI x82.1)) [(0,.blk [.d (.sl (List.map (eInt .i64) x82.2.L)),cI x82.2.At] 40)] (b_Src_N_c _ _ hx82) rfl ⟨.inl rfl,.inl rfl,trivial⟩ trivial entry7 ⟨rfl,trivial⟩) (OkOps.y (aB (x82.1 == 0)) (OkOps.nil ?_))
 refine Ok.cond (b:=x82.1 == 0) rfl (fun h83=>?_) (fun h83=>?_)
 have hr:=selT h83 hr
 refine Ok.seq (Ok.region (OkOps.y (.agg [cI 4,cI 0,cS ByteArray.empty,.d (.v (.slice none 0 0))]) (OkOps.m 0 (triAlloc (j:=22) (cs:=[cI 0,cI 0,cS ByteArray.empty,.d (.v (.slice none 0 0))]) rfl rfl rfl rfl) (OkOps.w (triStore (cs':=[cI 4,cI 0,cS ByteArray.empty,.d (.v (.slice none 0 0))]) rfl rfl rfl rfl rfl rfl rfl rfl rfl) (OkOps.nil ?_)))))
 obtain ⟨k85,hk85,hr⟩:=jn_some hr
 refine Ok.join (fun (s84 : (List Int) × Int × (List AValue))=>⟨[(0,.s (.c (.loc 0 0))),(1,.s (aI kind)),(5,.s (.c (.tl 1003 (List.map Attr.cs s7.1)))),(6,.s (.c (.loc 22 0)))],[(0,.blk [.d (.sl (List.map (eInt .i64) s84.1)),cI s84.2.1] 40),(22,.blk [cI 4,cI 0,cS ByteArray.empty,.tl 1029 (List.map AValue.cs s84.2.2)] 85),(1003,.tail 5),(1029,.tail 4)],0⟩) k85 r (fun s84 hr=>?_) ?_
 rw [hk85] at hr
 refine Ok.region (OkOps.y (.c (.tl 1003 (List.map Attr.cs s7.1))) (OkOps.y (.agg [cI 4,cI 0,cS ByteArray.empty,.tl 1029 (List.map AValue.cs s84.2.2)]) (OkOps.y (.agg [cS (ByteArray.mk #[99,111,108,117,109,110,115]),cI 4,cI 0,cS ByteArray.empty,.tl 1029 (List.map AValue.cs s84.2.2)]) (OkOps.m 0 (triBST (sz:=5) (enc:=Attr.cs) (j:=23) ([(Attr.mk (ByteArray.mk #[99,111,108,117,109,110,115]) (AValue.mk 4 0 ByteArray.empty s84.2.2))]) rfl rfl rfl rfl rfl rfl rfl rfl (fun _=>rfl) trivial rfl rfl) ?_))))
 obtain ⟨x86,hx86,hr⟩:=bind_some hr
 refine OkOps.m2 0 (triApp (enc:=Attr.cs) (L:=s7.1) (X:=[(Attr.mk (ByteArray.mk #[99,111,108,117,109,110,115]) (AValue.mk 4 0 ByteArray.empty s84.2.2))]) (j:=1003) (j':=24) hx86 rfl rfl rfl rfl rfl rfl (fun _=>rfl) (fun _=>rfl) (by decide) trivial rfl rfl) (OkOps.y (.c (.tl 24 (List.map Attr.cs x86))) (OkOps.nil ?_))
 exact ⟨(x86,s84.1,s84.2.1),hr,(Conv.mk (tau [(1014,24)]) ⟨⟨_,rfl,.inl rfl⟩,⟨_,rfl,.inl rfl⟩,⟨_,rfl,.inl rfl⟩,trivial⟩ ⟨rfl,rfl,trivial⟩ rfl rfl rfl rfl)⟩
 clear hk85
 refine Ok.seq (Ok.region (OkOps.y (.c (.loc 0 0)) ?_))
 obtain ⟨x87,hx87,hr⟩:=bind_some hr
 refine OkOps.m 0 (triCl (tau [(0,0)]) (.s (aI x87.1)) [(0,.blk [.d (.sl (List.map (eInt .i64) x87.2.L)),cI x87.2.At] 40)] (b_Src_Range_c _ _ _ hx87) rfl ⟨.inl rfl,.inl rfl,.inl rfl,trivial⟩ trivial entry8 ⟨rfl,trivial⟩) (OkOps.y (aI x87.1) (OkOps.nil (Ok.block (Ok.loopK (fun (s88 : Int × (List Int) × Int × (List AValue))=>⟨[(0,.s (.c (.loc 0 0))),(1,.s (aI kind)),(5,.s (.c (.tl 1003 (List.map Attr.cs s7.1)))),(6,.s (.c (.loc 22 0))),(7,.s (aI s88.1))],[(0,.blk [.d (.sl (List.map (eInt .i64) s88.2.1)),cI s88.2.2.1] 40),(22,.blk [cI 4,cI 0,cS ByteArray.empty,.tl 1032 (List.map AValue.cs s88.2.2.2)] 85),(1003,.tail 5),(1032,.tail 4)],0⟩) hr (Conv.trans (Conv.nilO 22 3 1034 4 [cI 4,cI 0,cS ByteArray.empty,.d (.v (.slice none 0 0))] [cI 4,cI 0,cS ByteArray.empty,.tl 1034 (List.map AValue.cs ([] : (List AValue)))] 85 0 rfl rfl rfl rfl) (Conv.mk (tau [(1032,1034)]) ⟨⟨_,rfl,.inl rfl⟩,⟨_,rfl,.inl rfl⟩,⟨_,rfl,.inl rfl⟩,⟨_,rfl,.inl rfl⟩,⟨_,rfl,.inl rfl⟩,trivial⟩ ⟨rfl,rfl,rfl,rfl,trivial⟩ rfl rfl rfl rfl)) ?_))))
 clear hr
 intro again89 s88 hr
 unfold b_Src_attrs_L1 at hr
 refine Ok.seq (Ok.seq (Ok.region (OkOps.y (aI s88.1) (OkOps.y (aB (decide (s88.1 > 0))) (OkOps.nil ?_)))))
 refine Ok.cond (b:=decide (s88.1 > 0)) rfl (fun h90=>?_) (fun h90=>?_)
 have hr:=selT h90 hr
 refine Ok.skip (Ok.seq (Ok.block (Ok.regionD (by kernel_rfl) (OkD.x (.c (.loc 22 3)) rfl trivial rfl (OkD.x (.c (.tl 1032 (List.map AValue.cs s88.2.2.2))) rfl trivial rfl (OkD.m 0 (triBST (sz:=1) (enc:=(eInt .i64)) (j:=25) ([0,0,30,50,(-1),(-2)]) rfl rfl rfl rfl rfl rfl rfl rfl (fun _=>rfl) trivial rfl rfl) (OkD.x (.c (.loc 0 0)) rfl trivial rfl ?_)))))))
 obtain ⟨x91,hx91,hr⟩:=bind_some hr
 refine OkD.m 0 (triCl (tau [(0,0)]) (.s (aI x91.1)) [(0,.blk [.d (.sl (List.map (eInt .i64) x91.2.L)),cI x91.2.At] 40)] (b_Src_N_c _ _ hx91) rfl ⟨.inl rfl,.inl rfl,trivial⟩ trivial entry7 ⟨rfl,trivial⟩) ?_
 obtain ⟨x92,hx92,hr⟩:=bind_some hr
 refine OkD.q (triIdx (enc:=(eInt .i64)) (L:=[0,0,30,50,(-1),(-2)]) (row:=[dI x92]) hx92 rfl rfl rfl rfl (fun _=>rfl) trivial rfl) (OkD.x (aI x92) rfl trivial rfl ?_)
 obtain ⟨x93,hx93,hr⟩:=bind_some hr
 refine OkD.q (triCl (tau []) (.s (.agg [cI x93.Kind,cI x93.N,cS x93.S,.d (.sl (List.map AValue.cs x93.L))])) [] (b_number_c _ hx93) rfl ⟨.inl rfl,trivial⟩ trivial entry68 trivial) ?_
 refine OkD.m 0 (triBST (sz:=4) (enc:=AValue.cs) (j:=26) ([x93]) rfl rfl rfl rfl rfl (rows:=[[dI x93.Kind,dI x93.N,dS x93.S,.sl (List.map AValue.cs x93.L)]]) (by simp only [List.map,AValue.cs_eq]) rfl rfl (fun x=>by rw [AValue.cs_eq];rfl) trivial rfl rfl) ?_
 obtain ⟨x94,hx94,hr⟩:=bind_some hr
 refine OkD.m2 0 (triApp (enc:=AValue.cs) (L:=s88.2.2.2) (X:=[x93]) (j:=1032) (j':=27) hx94 rfl rfl rfl rfl rfl rfl (fun x=>by rw [AValue.cs_eq];rfl) (fun x=>by rw [AValue.cs_eq];rfl) (by decide) trivial rfl rfl) ?_
 refine OkD.x (.c (.loc 22 3)) rfl trivial rfl (OkD.w (triStore (cs':=[cI 4,cI 0,cS ByteArray.empty,.tl 27 (List.map AValue.cs x94)]) rfl rfl rfl rfl rfl rfl rfl rfl rfl) (OkD.nil (by kernel_rfl) (Ok.region (OkOps.y (aI s88.1) (OkOps.y (aI (IntKind.i64.wrap (s88.1 - 1))) (OkOps.y (aI (IntKind.i64.wrap (s88.1 - 1))) (OkOps.nil ?_)))))))
 exact ⟨(IntKind.i64.wrap (s88.1 - 1),x91.2.L,x91.2.At,x94),hr,(Conv.mk (tau [(1032,27)]) ⟨⟨_,rfl,.inl rfl⟩,⟨_,rfl,.inl rfl⟩,⟨_,rfl,.inl rfl⟩,⟨_,rfl,.inl rfl⟩,⟨_,rfl,.inl rfl⟩,trivial⟩ ⟨rfl,rfl,rfl,rfl,trivial⟩ rfl rfl rfl rfl)⟩
 have hr:=selF h90 hr
 refine Ok.exit ?_
 exact ⟨(s88.2.1,s88.2.2.1,s88.2.2.2),hr,(Conv.mk (tau [(1029,1032)]) ⟨⟨_,rfl,.inl rfl⟩,⟨_,rfl,.inl rfl⟩,⟨_,rfl,.inl rfl⟩,⟨_,rfl,.inl rfl⟩,trivial⟩ ⟨rfl,rfl,rfl,rfl,trivial⟩ rfl rfl rfl rfl)⟩
 have hr:=selF h83 hr
 refine Ok.skip ?_
 exact ⟨(s7.1,x82.2.L,x82.2.At),hr,(Conv.mk (tau [(1014,1003)]) ⟨⟨_,rfl,.inl rfl⟩,⟨_,rfl,.inl rfl⟩,⟨_,rfl,.inl rfl⟩,trivial⟩ ⟨rfl,rfl,trivial⟩ rfl rfl rfl rfl)⟩
 clear hk8
 refine Ok.seq (Ok.region (OkOps.y (.c (.loc 0 0)) ?_))
 obtain ⟨x95,hx95,hr⟩:=bind_some hr
 refine OkOps.m 0 (triCl (tau [(0,0)]) (.s (aI x95.1)) [(0,.blk [.d (.sl (List.map (eInt .i64) x95.2.L)),cI x95.2.At] 40)] (b_Src_N_c _ _ hx95) rfl ⟨.inl rfl,.inl rfl,trivial⟩ trivial entry7 ⟨rfl,trivial⟩) (OkOps.y (aB (x95.1 == 0)) (OkOps.nil ?_))
 refine Ok.cond (b:=x95.1 == 0) rfl (fun h96=>?_) (fun h96=>?_)
 have hr:=selT h96 hr
 refine Ok.region (OkOps.y (.c (.tl 1002 (List.map Attr.cs s5.1))) (OkOps.y (.c (.loc 0 0)) ?_))
 obtain ⟨x97,hx97,hr⟩:=bind_some hr
 refine OkOps.m 0 (triCl (tau [(0,0)]) (.s (aS x97.1)) [(0,.blk [.d (.sl (List.map (eInt .i64) x97.2.L)),cI x97.2.At] 40)] (b_Src_Name_c _ hx97) rfl ⟨.inl rfl,trivial⟩ trivial entry67 ⟨rfl,trivial⟩) ?_
 obtain ⟨x98,hx98,hr⟩:=bind_some hr
 refine OkOps.q (triCl (tau []) (.s (.agg [cI x98.Kind,cI x98.N,cS x98.S,.d (.sl (List.map AValue.cs x98.L))])) [] (b_text_c _ hx98) rfl ⟨.inl rfl,trivial⟩ trivial entry65 trivial) (OkOps.y (.agg [cS (ByteArray.mk #[99,108,97,115,115]),cI x98.Kind,cI x98.N,cS x98.S,.d (.sl (List.map AValue.cs x98.L))]) (OkOps.m 0 (triBST (sz:=5) (enc:=Attr.cs) (j:=28) ([(Attr.mk (ByteArray.mk #[99,108,97,115,115]) x98)]) rfl rfl rfl rfl rfl rfl rfl rfl (fun _=>rfl) trivial rfl rfl) ?_))
 obtain ⟨x99,hx99,hr⟩:=bind_some hr
 refine OkOps.m2 0 (triApp (enc:=Attr.cs) (L:=s5.1) (X:=[(Attr.mk (ByteArray.mk #[99,108,97,115,115]) x98)]) (j:=1002) (j':=29) hx99 rfl rfl rfl rfl rfl rfl (fun _=>rfl) (fun _=>rfl) (by decide) trivial rfl rfl) (OkOps.y (.c (.tl 29 (List.map Attr.cs x99))) (OkOps.nil ?_))
 exact ⟨(x99,x97.2.L,x97.2.At),hr,(Conv.mk (tau [(1003,29)]) ⟨⟨_,rfl,.inl rfl⟩,⟨_,rfl,.inl rfl⟩,⟨_,rfl,.inl rfl⟩,trivial⟩ ⟨rfl,rfl,trivial⟩ rfl rfl rfl rfl)⟩
 have hr:=selF h96 hr
 refine Ok.skip ?_
 exact ⟨(s5.1,x95.2.L,x95.2.At),hr,(Conv.mk (tau [(1003,1002)]) ⟨⟨_,rfl,.inl rfl⟩,⟨_,rfl,.inl rfl⟩,⟨_,rfl,.inl rfl⟩,trivial⟩ ⟨rfl,rfl,trivial⟩ rfl rfl rfl rfl)⟩
 clear hk6
 refine Ok.seq (Ok.region (OkOps.y (.c (.loc 0 0)) ?_))
 obtain ⟨x100,hx100,hr⟩:=bind_some hr
 refine OkOps.m 0 (triCl (tau [(0,0)]) (.s (aI x100.1)) [(0,.blk [.d (.sl (List.map (eInt .i64) x100.2.L)),cI x100.2.At] 40)] (b_Src_N_c _ _ hx100) rfl ⟨.inl rfl,.inl rfl,trivial⟩ trivial entry7 ⟨rfl,trivial⟩) (OkOps.y (aB (x100.1 == 0)) (OkOps.nil ?_))
 refine Ok.cond (b:=x100.1 == 0) rfl (fun h101=>?_) (fun h101=>?_)
 have hr:=selT h101 hr
 refine Ok.region (OkOps.y (.c (.tl 1001 (List.map Attr.cs s3.1))) (OkOps.y (.c (.loc 0 0)) ?_))
 obtain ⟨x102,hx102,hr⟩:=bind_some hr
 refine OkOps.m 0 (triCl (tau [(0,0)]) (.s (aI x102.1)) [(0,.blk [.d (.sl (List.map (eInt .i64) x102.2.L)),cI x102.2.At] 40)] (b_Src_N_c _ _ hx102) rfl ⟨.inl rfl,.inl rfl,trivial⟩ trivial entry7 ⟨rfl,trivial⟩) ?_
 obtain ⟨x103,hx103,hr⟩:=bind_some hr
 refine OkOps.q (triCl (tau []) (.s (.agg [cI x103.Kind,cI x103.N,cS x103.S,.d (.sl (List.map AValue.cs x103.L))])) [] (b_flag_c _ hx103) rfl ⟨.inl rfl,trivial⟩ trivial entry66 trivial) (OkOps.y (.agg [cS (ByteArray.mk #[99,104,101,99,107,101,100]),cI x103.Kind,cI x103.N,cS x103.S,.d (.sl (List.map AValue.cs x103.L))]) (OkOps.m 0 (triBST (sz:=5) (enc:=Attr.cs) (j:=30) ([(Attr.mk (ByteArray.mk #[99,104,101,99,107,101,100]) x103)]) rfl rfl rfl rfl rfl rfl rfl rfl (fun _=>rfl) trivial rfl rfl) ?_))
 obtain ⟨x104,hx104,hr⟩:=bind_some hr
 refine OkOps.m2 0 (triApp (enc:=Attr.cs) (L:=s3.1) (X:=[(Attr.mk (ByteArray.mk #[99,104,101,99,107,101,100]) x103)]) (j:=1001) (j':=31) hx104 rfl rfl rfl rfl rfl rfl (fun _=>rfl) (fun _=>rfl) (by decide) trivial rfl rfl) (OkOps.y (.c (.tl 31 (List.map Attr.cs x104))) (OkOps.nil ?_))
 exact ⟨(x104,x102.2.L,x102.2.At),hr,(Conv.mk (tau [(1002,31)]) ⟨⟨_,rfl,.inl rfl⟩,⟨_,rfl,.inl rfl⟩,⟨_,rfl,.inl rfl⟩,trivial⟩ ⟨rfl,rfl,trivial⟩ rfl rfl rfl rfl)⟩
 have hr:=selF h101 hr
 refine Ok.skip ?_
 exact ⟨(s3.1,x100.2.L,x100.2.At),hr,(Conv.mk (tau [(1002,1001)]) ⟨⟨_,rfl,.inl rfl⟩,⟨_,rfl,.inl rfl⟩,⟨_,rfl,.inl rfl⟩,trivial⟩ ⟨rfl,rfl,trivial⟩ rfl rfl rfl rfl)⟩
 clear hk4
 refine Ok.seq (Ok.region (OkOps.y (.c (.loc 0 0)) ?_))
 obtain ⟨x105,hx105,hr⟩:=bind_some hr
 refine OkOps.m 0 (triCl (tau [(0,0)]) (.s (aI x105.1)) [(0,.blk [.d (.sl (List.map (eInt .i64) x105.2.L)),cI x105.2.At] 40)] (b_Src_N_c _ _ hx105) rfl ⟨.inl rfl,.inl rfl,trivial⟩ trivial entry7 ⟨rfl,trivial⟩) (OkOps.y (aB (x105.1 == 0)) (OkOps.nil ?_))
 refine Ok.cond (b:=x105.1 == 0) rfl (fun h106=>?_) (fun h106=>?_)
 have hr:=selT h106 hr
 refine Ok.region (OkOps.y (.c (.tl 1000 (List.map Attr.cs s1.1))) (OkOps.y (.c (.loc 0 0)) ?_))
 obtain ⟨x107,hx107,hr⟩:=bind_some hr
 refine OkOps.m 0 (triCl (tau [(0,0)]) (.s (aI x107.1)) [(0,.blk [.d (.sl (List.map (eInt .i64) x107.2.L)),cI x107.2.At] 40)] (b_Src_N_c _ _ hx107) rfl ⟨.inl rfl,.inl rfl,trivial⟩ trivial entry7 ⟨rfl,trivial⟩) (OkOps.y (aI (IntKind.i64.wrap (97 + x107.1))) (OkOps.y (.c (.d (.v (.int .u8 (IntKind.u8.wrap (IntKind.i64.wrap (97 + x107.1))))))) (OkOps.m 0 (triBST (sz:=1) (enc:=(eInt .u8)) (j:=32) ([IntKind.u8.wrap (IntKind.i64.wrap (97 + x107.1))]) rfl rfl rfl rfl rfl rfl rfl rfl (fun _=>rfl) trivial rfl rfl) (OkOps.q (triOfBytes (L:=[IntKind.u8.wrap (IntKind.i64.wrap (97 + x107.1))]) rfl rfl trivial rfl) ?_))))
 obtain ⟨x108,hx108,hr⟩:=bind_some hr
 refine OkOps.q (triCat hx108 rfl rfl trivial rfl) ?_
 obtain ⟨x109,hx109,hr⟩:=bind_some hr
 refine OkOps.q (triCl (tau []) (.s (.agg [cI x109.Kind,cI x109.N,cS x109.S,.d (.sl (List.map AValue.cs x109.L))])) [] (b_text_c _ hx109) rfl ⟨.inl rfl,trivial⟩ trivial entry65 trivial) (OkOps.y (.agg [cS (ByteArray.mk #[97,108,105,103,110,108,101,102,116]),cI x109.Kind,cI x109.N,cS x109.S,.d (.sl (List.map AValue.cs x109.L))]) (OkOps.m 0 (triBST (sz:=5) (enc:=Attr.cs) (j:=33) ([(Attr.mk (ByteArray.mk #[97,108,105,103,110,108,101,102,116]) x109)]) rfl rfl rfl rfl rfl rfl rfl rfl (fun _=>rfl) trivial rfl rfl) ?_))
 obtain ⟨x110,hx110,hr⟩:=bind_some hr
 refine OkOps.m2 0 (triApp (enc:=Attr.cs) (L:=s1.1) (X:=[(Attr.mk (ByteArray.mk #[97,108,105,103,110,108,101,102,116]) x109)]) (j:=1000) (j':=34) hx110 rfl rfl rfl rfl rfl rfl (fun _=>rfl) (fun _=>rfl) (by decide) trivial rfl rfl) (OkOps.y (.c (.tl 34 (List.map Attr.cs x110))) (OkOps.nil ?_))
 exact ⟨(x110,x107.2.L,x107.2.At),hr,(Conv.mk (tau [(1001,34)]) ⟨⟨_,rfl,.inl rfl⟩,⟨_,rfl,.inl rfl⟩,⟨_,rfl,.inl rfl⟩,trivial⟩ ⟨rfl,rfl,trivial⟩ rfl rfl rfl rfl)⟩
 have hr:=selF h106 hr
 refine Ok.skip ?_
 exact ⟨(s1.1,x105.2.L,x105.2.At),hr,(Conv.mk (tau [(1001,1000)]) ⟨⟨_,rfl,.inl rfl⟩,⟨_,rfl,.inl rfl⟩,⟨_,rfl,.inl rfl⟩,trivial⟩ ⟨rfl,rfl,trivial⟩ rfl rfl rfl rfl)⟩
 clear hk2
 refine Ok.seq (Ok.region (OkOps.y (.c (.loc 0 0)) ?_))
 obtain ⟨x111,hx111,hr⟩:=bind_some hr
 refine OkOps.m 0 (triCl (tau [(0,0)]) (.s (aI x111.1)) [(0,.blk [.d (.sl (List.map (eInt .i64) x111.2.L)),cI x111.2.At] 40)] (b_Src_N_c _ _ hx111) rfl ⟨.inl rfl,.inl rfl,trivial⟩ trivial entry7 ⟨rfl,trivial⟩) (OkOps.y (aB (x111.1 == 0)) (OkOps.nil ?_))
 refine Ok.cond (b:=x111.1 == 0) rfl (fun h112=>?_) (fun h112=>?_)
 have hr:=selT h112 hr
 refine Ok.region (OkOps.y (.c (.d (.v (.slice none 0 0)))) (OkOps.y (.c (.loc 0 0)) ?_))
 obtain ⟨x113,hx113,hr⟩:=bind_some hr
 refine OkOps.m 0 (triCl (tau [(0,0)]) (.s (aI x113.1)) [(0,.blk [.d (.sl (List.map (eInt .i64) x113.2.L)),cI x113.2.At] 40)] (b_Src_N_c _ _ hx113) rfl ⟨.inl rfl,.inl rfl,trivial⟩ trivial entry7 ⟨rfl,trivial⟩) (OkOps.y (aI (IntKind.i64.wrap (97 + x113.1))) (OkOps.y (.c (.d (.v (.int .u8 (IntKind.u8.wrap (IntKind.i64.wrap (97 + x113.1))))))) (OkOps.m 0 (triBST (sz:=1) (enc:=(eInt .u8)) (j:=35) ([IntKind.u8.wrap (IntKind.i64.wrap (97 + x113.1))]) rfl rfl rfl rfl rfl rfl rfl rfl (fun _=>rfl) trivial rfl rfl) (OkOps.q (triOfBytes (L:=[IntKind.u8.wrap (IntKind.i64.wrap (97 + x113.1))]) rfl rfl trivial rfl) ?_))))
 obtain ⟨x114,hx114,hr⟩:=bind_some hr
 refine OkOps.q (triCat hx114 rfl rfl trivial rfl) ?_
 obtain ⟨x115,hx115,hr⟩:=bind_some hr
 refine OkOps.q (triCl (tau []) (.s (.agg [cI x115.Kind,cI x115.N,cS x115.S,.d (.sl (List.map AValue.cs x115.L))])) [] (b_text_c _ hx115) rfl ⟨.inl rfl,trivial⟩ trivial entry65 trivial) (OkOps.y (.agg [cS (ByteArray.mk #[97,98,111,118,101]),cI x115.Kind,cI x115.N,cS x115.S,.d (.sl (List.map AValue.cs x115.L))]) (OkOps.m 0 (triBST (sz:=5) (enc:=Attr.cs) (j:=36) ([(Attr.mk (ByteArray.mk #[97,98,111,118,101]) x115)]) rfl rfl rfl rfl rfl rfl rfl rfl (fun _=>rfl) trivial rfl rfl) ?_))
 obtain ⟨x116,hx116,hr⟩:=bind_some hr
 refine OkOps.m 0 (triApp0 (sz:=5) (enc:=Attr.cs) (X:=[(Attr.mk (ByteArray.mk #[97,98,111,118,101]) x115)]) (j':=37) hx116 rfl rfl rfl rfl rfl (fun _=>rfl) (fun _=>rfl) (by decide) trivial rfl rfl) (OkOps.y (.c (.tl 37 (List.map Attr.cs x116))) (OkOps.nil ?_))
 exact ⟨(x116,x113.2.L,x113.2.At),hr,(Conv.mk (tau [(1000,37)]) ⟨⟨_,rfl,.inl rfl⟩,⟨_,rfl,.inl rfl⟩,⟨_,rfl,.inl rfl⟩,trivial⟩ ⟨rfl,rfl,trivial⟩ rfl rfl rfl rfl)⟩
 have hr:=selF h112 hr
 refine Ok.skip ?_
 exact ⟨(([] : (List Attr)),x111.2.L,x111.2.At),hr,(Conv.trans (Conv.nil 5 1035 5 0 rfl rfl) (Conv.mk (tau [(1000,1035)]) ⟨⟨_,rfl,.inl rfl⟩,⟨_,rfl,.inl rfl⟩,⟨_,rfl,.inl rfl⟩,trivial⟩ ⟨rfl,rfl,trivial⟩ rfl rfl rfl rfl))⟩
theorem entry51 : Entry Tryz.prog 51:=⟨_,Tryz.func51,by kernel_rfl,by kernel_rfl⟩
theorem entry31 : Entry Tryz.prog 31:=⟨_,Tryz.func31,by kernel_rfl,by kernel_rfl⟩
theorem b_Src_view_B_c (self0 : widgetrybase_Src → Int → Option (View × widgetrybase_Src)) (hself0 : ∀ (p_s : widgetrybase_Src) (depth : Int) {r : View × widgetrybase_Src},self0 p_s depth = some r → Con Tryz.prog 31 [.c (.loc 0 0),aI depth] [(0,.blk [.d (.sl (List.map (eInt .i64) p_s.L)),cI p_s.At] 40)] (.s (.agg [cI r.1.Kind,cS r.1.Key,.d (.sl (List.map Attr.cs r.1.Attrs)),.d (.sl (List.map Action.cs r.1.Actions)),.d (.sl (List.map View.cs r.1.Kids))])) [(0,.blk [.d (.sl (List.map (eInt .i64) r.2.L)),cI r.2.At] 40)]) (p_s : widgetrybase_Src) (depth : Int) {r : View × widgetrybase_Src} (hr : b_Src_view_B self0 p_s depth = some r) : Con Tryz.prog 31 [.c (.loc 0 0),aI depth] [(0,.blk [.d (.sl (List.map (eInt .i64) p_s.L)),cI p_s.At] 40)] (.s (.agg [cI r.1.Kind,cS r.1.Key,.d (.sl (List.map Attr.cs r.1.Attrs)),.d (.sl (List.map Action.cs r.1.Actions)),.d (.sl (List.map View.cs r.1.Kids))])) [(0,.blk [.d (.sl (List.map (eInt .i64) r.2.L)),cI r.2.At] 40)]:=by
 unfold b_Src_view_B at hr
 refine Con.of_ok 102 0 [.cell 4 46] [(0,.s (.c (.loc 0 0))),(1,.s (aI depth))] Tryz.func31 rfl rfl rfl rfl rfl rfl rfl rfl fun w g M ρ _=>(Ok.seq (Ok.region (OkOps.m 0 (triAlloc (j:=1) (cs:=[cI 0,cS ByteArray.empty,.d (.v (.slice none 0 0)),.d (.v (.slice none 0 0)),.d (.v (.slice none 0 0))]) rfl rfl rfl rfl) (OkOps.nil (Ok.seq (Ok.region (OkOps.m 0 (triBST (sz:=1) (enc:=(eInt .i64)) (j:=2) ([1,1,2,3,4,5,6,7,8,9,10,11,12,13]) rfl rfl rfl rfl rfl rfl rfl rfl (fun _=>rfl) trivial rfl rfl) (OkOps.y (.c (.tl 2 (List.map (eInt .i64) ([1,1,2,3,4,5,6,7,8,9,10,11,12,13])))) (OkOps.nil (Ok.seq (Ok.region (OkOps.y (.c (.tl 2 (List.map (eInt .i64) ([1,1,2,3,4,5,6,7,8,9,10,11,12,13])))) (OkOps.y (.c (.loc 0 0)) (OkOps.y (.c (.tl 2 (List.map (eInt .i64) ([1,1,2,3,4,5,6,7,8,9,10,11,12,13])))) (OkOps.q (triLen (enc:=(eInt .i64)) ([1,1,2,3,4,5,6,7,8,9,10,11,12,13]) rfl rfl trivial rfl) ?_)))))))))))))))
 obtain ⟨x1,hx1,hr⟩:=bind_some hr
 refine OkOps.m 0 (triCl (tau [(0,0)]) (.s (aI x1.1)) [(0,.blk [.d (.sl (List.map (eInt .i64) x1.2.L)),cI x1.2.At] 40)] (b_Src_N_c _ _ hx1) rfl ⟨.inl rfl,.inl rfl,trivial⟩ trivial entry7 ⟨rfl,trivial⟩) ?_
 obtain ⟨x2,hx2,hr⟩:=bind_some hr
 refine OkOps.q (triIdx (enc:=(eInt .i64)) (L:=[1,1,2,3,4,5,6,7,8,9,10,11,12,13]) (row:=[dI x2]) hx2 rfl rfl rfl rfl (fun _=>rfl) trivial rfl) (OkOps.y (aI x2) (OkOps.y (.agg [cI x2,cS ByteArray.empty,.d (.v (.slice none 0 0)),.d (.v (.slice none 0 0)),.d (.v (.slice none 0 0))]) (OkOps.m 0 (triAlloc (j:=3) (cs:=[cI 0,cS ByteArray.empty,.d (.v (.slice none 0 0)),.d (.v (.slice none 0 0)),.d (.v (.slice none 0 0))]) rfl rfl rfl rfl) (OkOps.w (triStore (cs':=[cI x2,cS ByteArray.empty,.d (.v (.slice none 0 0)),.d (.v (.slice none 0 0)),.d (.v (.slice none 0 0))]) rfl rfl rfl rfl rfl rfl rfl rfl rfl) (OkOps.nil ?_)))))
 obtain ⟨k4,hk4,hr⟩:=jn_some hr
 refine Ok.join (fun (s3 : Int)=>⟨[(0,.s (.c (.loc 0 0))),(1,.s (aI depth)),(4,.s (.c (.loc 1 0))),(6,.s (.c (.loc 3 0)))],[(0,.blk [.d (.sl (List.map (eInt .i64) x1.2.L)),cI x1.2.At] 40),(1,.blk [cI 0,cS ByteArray.empty,.d (.v (.slice none 0 0)),.d (.v (.slice none 0 0)),.d (.v (.slice none 0 0))] 46),(3,.blk [cI s3,cS ByteArray.empty,.d (.v (.slice none 0 0)),.d (.v (.slice none 0 0)),.d (.v (.slice none 0 0))] 46)],0⟩) k4 r (fun s3 hr=>?_) ?_
 rw [hk4] at hr
 refine Ok.seq (Ok.region (OkOps.y (.c (.loc 0 0)) (OkOps.y (.c (.loc 3 0)) (OkOps.y (aI s3) ?_))))
 obtain ⟨x5,hx5,hr⟩:=bind_some hr
 refine OkOps.m 0 (triCl (tau [(0,0)]) (.s (.c (.d (.sl (List.map Attr.cs x5.1))))) [(0,.blk [.d (.sl (List.map (eInt .i64) x5.2.L)),cI x5.2.At] 40)] (b_Src_attrs_c _ _ hx5) rfl ⟨.inl rfl,.inl rfl,trivial⟩ trivial entry51 ⟨rfl,trivial⟩) (OkOps.y (.c (.loc 3 2)) (OkOps.w (triStore (cs':=[cI s3,cS ByteArray.empty,.d (.sl (List.map Attr.cs x5.1)),.d (.v (.slice none 0 0)),.d (.v (.slice none 0 0))]) rfl rfl rfl rfl rfl rfl rfl rfl rfl) (OkOps.nil ?_)))
 obtain ⟨k7,hk7,hr⟩:=jn_some hr
 refine Ok.join (fun (s6 : (List Int) × Int × (List Action))=>⟨[(0,.s (.c (.loc 0 0))),(1,.s (aI depth)),(4,.s (.c (.loc 1 0))),(6,.s (.c (.loc 3 0)))],[(0,.blk [.d (.sl (List.map (eInt .i64) s6.1)),cI s6.2.1] 40),(1,.blk [cI 0,cS ByteArray.empty,.d (.v (.slice none 0 0)),.d (.v (.slice none 0 0)),.d (.v (.slice none 0 0))] 46),(3,.blk [cI s3,cS ByteArray.empty,.d (.sl (List.map Attr.cs x5.1)),.tl 1000 (List.map Action.cs s6.2.2),.d (.v (.slice none 0 0))] 46),(1000,.tail 4)],0⟩) k7 r (fun s6 hr=>?_) ?_
 rw [hk7] at hr
 refine Ok.seq (Ok.seq (Ok.region (OkOps.y (aI depth) (OkOps.y (aB (decide (depth ≤ 0))) (OkOps.nil ?_)))))
 refine Ok.cond (b:=decide (depth ≤ 0)) rfl (fun h8=>?_) (fun h8=>?_)
 have hr:=selT h8 hr
 refine Ok.seq (Ok.region (OkOps.y (.agg [cI s3,cS ByteArray.empty,.d (.sl (List.map Attr.cs x5.1)),.tl 1000 (List.map Action.cs s6.2.2),.d (.v (.slice none 0 0))]) (OkOps.w (triStore (cs':=[cI s3,cS ByteArray.empty,.d (.sl (List.map Attr.cs x5.1)),.tl 1000 (List.map Action.cs s6.2.2),.d (.v (.slice none 0 0))]) rfl rfl rfl rfl rfl rfl rfl rfl rfl) (OkOps.nil (Ok.ret ?_)))))
 obtain rfl:=Option.some.inj hr
 exact ⟨_,rfl,.inr rfl,⟨rfl,trivial⟩⟩
 have hr:=selF h8 hr
 refine Ok.skip (Ok.seq (Ok.region (OkOps.y (.c (.loc 0 0)) ?_)))
 obtain ⟨x9,hx9,hr⟩:=bind_some hr
 refine OkOps.m 0 (triCl (tau [(0,0)]) (.s (aI x9.1)) [(0,.blk [.d (.sl (List.map (eInt .i64) x9.2.L)),cI x9.2.At] 40)] (b_Src_N_c _ _ hx9) rfl ⟨.inl rfl,.inl rfl,trivial⟩ trivial entry7 ⟨rfl,trivial⟩) (OkOps.y (aI x9.1) (OkOps.nil (Ok.seq (Ok.region (OkOps.y (.c (.loc 0 0)) ?_)))))
 obtain ⟨x10,hx10,hr⟩:=bind_some hr
 refine OkOps.m 0 (triCl (tau [(0,0)]) (.s (aI x10.1)) [(0,.blk [.d (.sl (List.map (eInt .i64) x10.2.L)),cI x10.2.At] 40)] (b_Src_N_c _ _ hx10) rfl ⟨.inl rfl,.inl rfl,trivial⟩ trivial entry7 ⟨rfl,trivial⟩) (OkOps.y (aB (x10.1 == 0)) (OkOps.y (aB (x10.1 == 0)) (OkOps.nil ?_)))
 obtain ⟨k12,hk12,hr⟩:=jn_some hr
 refine Ok.join (fun (s11 : (List Int) × Int × (List View))=>⟨[(4,.s (.c (.loc 1 0))),(6,.s (.c (.loc 3 0)))],[(0,.blk [.d (.sl (List.map (eInt .i64) s11.1)),cI s11.2.1] 40),(1,.blk [cI 0,cS ByteArray.empty,.d (.v (.slice none 0 0)),.d (.v (.slice none 0 0)),.d (.v (.slice none 0 0))] 46),(3,.blk [cI s3,cS ByteArray.empty,.d (.sl (List.map Attr.cs x5.1)),.tl 1000 (List.map Action.cs s6.2.2),.tl 1011 (List.map View.cs s11.2.2)] 46),(1000,.tail 4),(1011,.tail 5)],0⟩) k12 r (fun s11 hr=>?_) ?_
 rw [hk12] at hr
 refine Ok.seq (Ok.region (OkOps.y (.agg [cI s3,cS ByteArray.empty,.d (.sl (List.map Attr.cs x5.1)),.tl 1000 (List.map Action.cs s6.2.2),.tl 1011 (List.map View.cs s11.2.2)]) (OkOps.w (triStore (cs':=[cI s3,cS ByteArray.empty,.d (.sl (List.map Attr.cs x5.1)),.tl 1000 (List.map Action.cs s6.2.2),.tl 1011 (List.map View.cs s11.2.2)]) rfl rfl rfl rfl rfl rfl rfl rfl rfl) (OkOps.nil (Ok.ret ?_)))))
 obtain rfl:=Option.some.inj hr
 exact ⟨_,rfl,.inr rfl,⟨rfl,trivial⟩⟩
 clear hk12
 refine Ok.seq (Ok.region (OkOps.y (aI 0) (OkOps.nil (Ok.block (Ok.loopK (fun (s13 : Int × (List Int) × Int × (List View))=>⟨[(0,.s (.c (.loc 0 0))),(1,.s (aI depth)),(4,.s (.c (.loc 1 0))),(6,.s (.c (.loc 3 0))),(7,.s (aI x9.1)),(8,.s (aB (x10.1 == 0))),(9,.s (aI s13.1))],[(0,.blk [.d (.sl (List.map (eInt .i64) s13.2.1)),cI s13.2.2.1] 40),(1,.blk [cI 0,cS ByteArray.empty,.d (.v (.slice none 0 0)),.d (.v (.slice none 0 0)),.d (.v (.slice none 0 0))] 46),(3,.blk [cI s3,cS ByteArray.empty,.d (.sl (List.map Attr.cs x5.1)),.tl 1000 (List.map Action.cs s6.2.2),.tl 1016 (List.map View.cs s13.2.2.2)] 46),(1000,.tail 4),(1016,.tail 5)],0⟩) hr (Conv.trans (Conv.nilO 3 4 1021 5 [cI s3,cS ByteArray.empty,.d (.sl (List.map Attr.cs x5.1)),.tl 1000 (List.map Action.cs s6.2.2),.d (.v (.slice none 0 0))] [cI s3,cS ByteArray.empty,.d (.sl (List.map Attr.cs x5.1)),.tl 1000 (List.map Action.cs s6.2.2),.tl 1021 (List.map View.cs ([] : (List View)))] 46 0 rfl rfl rfl rfl) (Conv.mk (tau [(1016,1021)]) ⟨⟨_,rfl,.inl rfl⟩,⟨_,rfl,.inl rfl⟩,⟨_,rfl,.inl rfl⟩,⟨_,rfl,.inl rfl⟩,⟨_,rfl,.inl rfl⟩,⟨_,rfl,.inl rfl⟩,⟨_,rfl,.inl rfl⟩,trivial⟩ ⟨rfl,rfl,rfl,rfl,rfl,trivial⟩ rfl rfl rfl rfl)) ?_)))))
 clear hr
 intro again14 s13 hr
 unfold b_Src_view_L2 at hr
 refine Ok.seq (Ok.seq (Ok.region (OkOps.y (aI s13.1) (OkOps.y (aI x9.1) (OkOps.y (aB (decide (s13.1 < x9.1))) (OkOps.nil ?_))))))
 refine Ok.cond (b:=decide (s13.1 < x9.1)) rfl (fun h15=>?_) (fun h15=>?_)
 have hr:=selT h15 hr
 refine Ok.skip ?_
 obtain ⟨k17,hk17,hr⟩:=jn_some hr
 refine Ok.join (fun (s16 : (List Int) × Int × (List View))=>⟨[(0,.s (.c (.loc 0 0))),(1,.s (aI depth)),(4,.s (.c (.loc 1 0))),(6,.s (.c (.loc 3 0))),(7,.s (aI x9.1)),(8,.s (aB (x10.1 == 0))),(9,.s (aI s13.1))],[(0,.blk [.d (.sl (List.map (eInt .i64) s16.1)),cI s16.2.1] 40),(1,.blk [cI 0,cS ByteArray.empty,.d (.v (.slice none 0 0)),.d (.v (.slice none 0 0)),.d (.v (.slice none 0 0))] 46),(3,.blk [cI s3,cS ByteArray.empty,.d (.sl (List.map Attr.cs x5.1)),.tl 1000 (List.map Action.cs s6.2.2),.tl 1022 (List.map View.cs s16.2.2)] 46),(1000,.tail 4),(1022,.tail 5)],0⟩) k17 r (fun s16 hr=>?_) ?_
 rw [hk17] at hr
 refine Ok.region (OkOps.y (aI s13.1) (OkOps.y (aI (IntKind.i64.wrap (s13.1 + 1))) (OkOps.y (aI (IntKind.i64.wrap (s13.1 + 1))) (OkOps.nil ?_))))
 exact ⟨(IntKind.i64.wrap (s13.1 + 1),s16.1,s16.2.1,s16.2.2),hr,(Conv.mk (tau [(1016,1022)]) ⟨⟨_,rfl,.inl rfl⟩,⟨_,rfl,.inl rfl⟩,⟨_,rfl,.inl rfl⟩,⟨_,rfl,.inl rfl⟩,⟨_,rfl,.inl rfl⟩,⟨_,rfl,.inl rfl⟩,⟨_,rfl,.inl rfl⟩,trivial⟩ ⟨rfl,rfl,rfl,rfl,rfl,trivial⟩ rfl rfl rfl rfl)⟩
 clear hk17
 refine Ok.block (Ok.seq (Ok.region (OkOps.y (.c (.loc 0 0)) (OkOps.y (aI depth) (OkOps.y (aI (IntKind.i64.wrap (depth - 1))) ?_)))))
 obtain ⟨x18,hx18,hr⟩:=bind_some hr
 refine OkOps.m 0 (triCl (tau [(0,0)]) (.s (.agg [cI x18.1.Kind,cS x18.1.Key,.d (.sl (List.map Attr.cs x18.1.Attrs)),.d (.sl (List.map Action.cs x18.1.Actions)),.d (.sl (List.map View.cs x18.1.Kids))])) [(0,.blk [.d (.sl (List.map (eInt .i64) x18.2.L)),cI x18.2.At] 40)] (hself0 _ _ hx18) rfl ⟨.inl rfl,.inl rfl,trivial⟩ trivial entry31 ⟨rfl,trivial⟩) (OkOps.m 0 (triAlloc (j:=4) (cs:=[cI 0,cS ByteArray.empty,.d (.v (.slice none 0 0)),.d (.v (.slice none 0 0)),.d (.v (.slice none 0 0))]) rfl rfl rfl rfl) (OkOps.w (triStore (cs':=[cI x18.1.Kind,cS x18.1.Key,.d (.sl (List.map Attr.cs x18.1.Attrs)),.d (.sl (List.map Action.cs x18.1.Actions)),.d (.sl (List.map View.cs x18.1.Kids))]) rfl rfl rfl rfl rfl rfl rfl rfl rfl) (OkOps.nil ?_)))
 obtain ⟨k20,hk20,hr⟩:=jn_some hr
 refine Ok.join (fun (s19 : (List Int) × Int × Str)=>⟨[(0,.s (.c (.loc 0 0))),(1,.s (aI depth)),(4,.s (.c (.loc 1 0))),(6,.s (.c (.loc 3 0))),(7,.s (aI x9.1)),(8,.s (aB (x10.1 == 0))),(9,.s (aI s13.1)),(10,.s (.c (.loc 4 0)))],[(0,.blk [.d (.sl (List.map (eInt .i64) s19.1)),cI s19.2.1] 40),(1,.blk [cI 0,cS ByteArray.empty,.d (.v (.slice none 0 0)),.d (.v (.slice none 0 0)),.d (.v (.slice none 0 0))] 46),(3,.blk [cI s3,cS ByteArray.empty,.d (.sl (List.map Attr.cs x5.1)),.tl 1000 (List.map Action.cs s6.2.2),.tl 1016 (List.map View.cs s13.2.2.2)] 46),(4,.blk [cI x18.1.Kind,cS s19.2.2,.d (.sl (List.map Attr.cs x18.1.Attrs)),.d (.sl (List.map Action.cs x18.1.Actions)),.d (.sl (List.map View.cs x18.1.Kids))] 46),(1000,.tail 4),(1016,.tail 5)],0⟩) k20 r (fun s19 hr=>?_) ?_
 rw [hk20] at hr
 refine Ok.seq (Ok.region (OkOps.y (aB false) (OkOps.nil ?_)))
 obtain ⟨k22,hk22,hr⟩:=jn_some hr
 refine Ok.join (fun (s21 : Bool)=>⟨[(0,.s (.c (.loc 0 0))),(1,.s (aI depth)),(4,.s (.c (.loc 1 0))),(6,.s (.c (.loc 3 0))),(7,.s (aI x9.1)),(8,.s (aB (x10.1 == 0))),(9,.s (aI s13.1)),(10,.s (.c (.loc 4 0))),(11,.s (aB s21))],[(0,.blk [.d (.sl (List.map (eInt .i64) s19.1)),cI s19.2.1] 40),(1,.blk [cI 0,cS ByteArray.empty,.d (.v (.slice none 0 0)),.d (.v (.slice none 0 0)),.d (.v (.slice none 0 0))] 46),(3,.blk [cI s3,cS ByteArray.empty,.d (.sl (List.map Attr.cs x5.1)),.tl 1000 (List.map Action.cs s6.2.2),.tl 1016 (List.map View.cs s13.2.2.2)] 46),(4,.blk [cI x18.1.Kind,cS s19.2.2,.d (.sl (List.map Attr.cs x18.1.Attrs)),.d (.sl (List.map Action.cs x18.1.Actions)),.d (.sl (List.map View.cs x18.1.Kids))] 46),(1000,.tail 4),(1016,.tail 5)],0⟩) k22 r (fun s21 hr=>?_) ?_
 rw [hk22] at hr
 refine Ok.seq (Ok.region (OkOps.y (aB s21) (OkOps.y (aB (!s21)) (OkOps.nil ?_))))
 refine Ok.cond (b:=!s21) rfl (fun h23=>?_) (fun h23=>?_)
 have hr:=selT h23 hr
 refine Ok.region (OkOps.y (.c (.loc 3 4)) (OkOps.y (.c (.tl 1016 (List.map View.cs s13.2.2.2))) (OkOps.y (.agg [cI x18.1.Kind,cS s19.2.2,.d (.sl (List.map Attr.cs x18.1.Attrs)),.d (.sl (List.map Action.cs x18.1.Actions)),.d (.sl (List.map View.cs x18.1.Kids))]) ?_)))
 refine OkOps.m 0 (triBST (sz:=5) (enc:=View.cs) (j:=5) ([(View.mk x18.1.Kind s19.2.2 x18.1.Attrs x18.1.Actions x18.1.Kids)]) rfl rfl rfl rfl rfl (rows:=[[dI x18.1.Kind,dS s19.2.2,.sl (List.map Attr.cs x18.1.Attrs),.sl (List.map Action.cs x18.1.Actions),.sl (List.map View.cs x18.1.Kids)]]) (by simp only [List.map,View.cs_eq]) rfl rfl (fun x=>by rw [View.cs_eq];rfl) trivial rfl rfl) ?_
 obtain ⟨x24,hx24,hr⟩:=bind_some hr
 refine OkOps.m2 0 (triApp (enc:=View.cs) (L:=s13.2.2.2) (X:=[(View.mk x18.1.Kind s19.2.2 x18.1.Attrs x18.1.Actions x18.1.Kids)]) (j:=1016) (j':=6) hx24 rfl rfl rfl rfl rfl rfl (fun x=>by rw [View.cs_eq];rfl) (fun x=>by rw [View.cs_eq];rfl) (by decide) trivial rfl rfl) ?_
 refine OkOps.y (.c (.loc 3 4)) (OkOps.w (triStore (cs':=[cI s3,cS ByteArray.empty,.d (.sl (List.map Attr.cs x5.1)),.tl 1000 (List.map Action.cs s6.2.2),.tl 6 (List.map View.cs x24)]) rfl rfl rfl rfl rfl rfl rfl rfl rfl) (OkOps.nil ?_))
 exact ⟨(s19.1,s19.2.1,x24),hr,(Conv.mk (tau [(1022,6)]) ⟨⟨_,rfl,.inl rfl⟩,⟨_,rfl,.inl rfl⟩,⟨_,rfl,.inl rfl⟩,⟨_,rfl,.inl rfl⟩,⟨_,rfl,.inl rfl⟩,⟨_,rfl,.inl rfl⟩,⟨_,rfl,.inl rfl⟩,trivial⟩ ⟨rfl,rfl,rfl,rfl,rfl,trivial⟩ rfl rfl rfl rfl)⟩
 have hr:=selF h23 hr
 refine Ok.skip ?_
 exact ⟨(s19.1,s19.2.1,s13.2.2.2),hr,(Conv.mk (tau [(1022,1016)]) ⟨⟨_,rfl,.inl rfl⟩,⟨_,rfl,.inl rfl⟩,⟨_,rfl,.inl rfl⟩,⟨_,rfl,.inl rfl⟩,⟨_,rfl,.inl rfl⟩,⟨_,rfl,.inl rfl⟩,⟨_,rfl,.inl rfl⟩,trivial⟩ ⟨rfl,rfl,rfl,rfl,rfl,trivial⟩ rfl rfl rfl rfl)⟩
 clear hk22
 refine Ok.seq (Ok.region (OkOps.y (aI 0) (OkOps.nil (Ok.block (Ok.loopK (fun (s25 : Bool × Int)=>⟨[(0,.s (.c (.loc 0 0))),(1,.s (aI depth)),(4,.s (.c (.loc 1 0))),(6,.s (.c (.loc 3 0))),(7,.s (aI x9.1)),(8,.s (aB (x10.1 == 0))),(9,.s (aI s13.1)),(10,.s (.c (.loc 4 0))),(11,.s (aB s25.1)),(12,.s (aI s25.2))],[(0,.blk [.d (.sl (List.map (eInt .i64) s19.1)),cI s19.2.1] 40),(1,.blk [cI 0,cS ByteArray.empty,.d (.v (.slice none 0 0)),.d (.v (.slice none 0 0)),.d (.v (.slice none 0 0))] 46),(3,.blk [cI s3,cS ByteArray.empty,.d (.sl (List.map Attr.cs x5.1)),.tl 1000 (List.map Action.cs s6.2.2),.tl 1016 (List.map View.cs s13.2.2.2)] 46),(4,.blk [cI x18.1.Kind,cS s19.2.2,.d (.sl (List.map Attr.cs x18.1.Attrs)),.d (.sl (List.map Action.cs x18.1.Actions)),.d (.sl (List.map View.cs x18.1.Kids))] 46),(1000,.tail 4),(1016,.tail 5)],0⟩) hr (Conv.mk (tau []) ⟨⟨_,rfl,.inl rfl⟩,⟨_,rfl,.inl rfl⟩,⟨_,rfl,.inl rfl⟩,⟨_,rfl,.inl rfl⟩,⟨_,rfl,.inl rfl⟩,⟨_,rfl,.inl rfl⟩,⟨_,rfl,.inl rfl⟩,⟨_,rfl,.inl rfl⟩,⟨_,rfl,.inl rfl⟩,⟨_,rfl,.inl rfl⟩,trivial⟩ ⟨rfl,rfl,rfl,rfl,rfl,rfl,trivial⟩ rfl rfl rfl rfl) ?_)))))
 clear hr
 intro again26 s25 hr
 unfold b_Src_view_L1 at hr
 refine Ok.seq (Ok.seq (Ok.region (OkOps.y (aI s25.2) (OkOps.y (.c (.loc 3 4)) (OkOps.y (.c (.tl 1016 (List.map View.cs s13.2.2.2))) (OkOps.q (triLen (enc:=View.cs) s13.2.2.2 rfl rfl trivial rfl) (OkOps.y (aB (decide (s25.2 < (s13.2.2.2.length : Int)))) (OkOps.nil ?_))))))))
 refine Ok.cond (b:=decide (s25.2 < (s13.2.2.2.length : Int))) rfl (fun h27=>?_) (fun h27=>?_)
 have hr:=selT h27 hr
 refine Ok.skip (Ok.seq (Ok.block (Ok.regionD (by kernel_rfl) (OkD.x (aB s25.1) rfl trivial rfl (OkD.x (aB s25.1) rfl trivial rfl (OkD.q (triQG (x:=.c (.loc 4 1)) rfl rfl trivial rfl) (OkD.q (triQG (x:=aS s19.2.2) rfl rfl ⟨fun h=>h,trivial⟩ rfl) (OkD.q (triQG (x:=aB (!(s19.2.2.toList == (ByteArray.mk #[]).toList))) rfl rfl ⟨fun h=>h,trivial⟩ rfl) (OkD.q (triQG (x:=aB (!(s19.2.2.toList == (ByteArray.mk #[]).toList))) rfl rfl ⟨fun h=>h,trivial⟩ rfl) (OkD.q (triQG (x:=.c (.loc 3 4)) rfl rfl trivial rfl) (OkD.q (triQG (x:=.c (.tl 1016 (List.map View.cs s13.2.2.2))) rfl rfl ⟨fun h=>h,trivial⟩ rfl) (OkD.q (triQG (x:=aI s25.2) rfl rfl trivial rfl) ?_))))))))))))
 obtain ⟨x28,hx28,hr⟩:=bind_some hr
 refine OkD.q (triIdxG (enc:=View.cs) (L:=s13.2.2.2) (row:=[dI x28.Kind,dS x28.Key,.sl (List.map Attr.cs x28.Attrs),.sl (List.map Action.cs x28.Actions),.sl (List.map View.cs x28.Kids)]) (gO_t hx28) (View.cs_eq _) rfl rfl rfl rfl (fun x=>by rw [View.cs_eq];rfl) ⟨fun h=>h,⟨fun h=>h,trivial⟩⟩ rfl) ?_
 refine OkD.q (triQG (x:=.c (.pt [dS x28.Key,.sl (List.map Attr.cs x28.Attrs),.sl (List.map Action.cs x28.Actions),.sl (List.map View.cs x28.Kids)])) rfl rfl ⟨fun h=>h,trivial⟩ rfl) (OkD.q (triQG (x:=aS x28.Key) rfl rfl ⟨fun h=>h,trivial⟩ rfl) (OkD.q (triQG (x:=.c (.loc 4 1)) rfl rfl trivial rfl) (OkD.q (triQG (x:=aS s19.2.2) rfl rfl ⟨fun h=>h,trivial⟩ rfl) (OkD.q (triQG (x:=aB (x28.Key.toList == s19.2.2.toList)) rfl rfl ⟨fun h=>h,⟨fun h=>h,trivial⟩⟩ rfl) ?_))))
 refine OkD.q (triAndG rfl rfl rfl (fun h=>h) (fun h h2=>by rw [h,h2];rfl) rfl) ?_
 refine OkD.q (triOr rfl rfl (fun h=>by rw [h];rfl) rfl) ?_
 refine OkD.x (aB (s25.1 || ((!(s19.2.2.toList == (ByteArray.mk #[]).toList)) && (x28.Key.toList == s19.2.2.toList)))) rfl trivial rfl (OkD.nil (by kernel_rfl) (Ok.region (OkOps.y (aI s25.2) (OkOps.y (aI (IntKind.i64.wrap (s25.2 + 1))) (OkOps.y (aI (IntKind.i64.wrap (s25.2 + 1))) (OkOps.nil ?_))))))
 exact ⟨(s25.1 || ((!(s19.2.2.toList == (ByteArray.mk #[]).toList)) && (x28.Key.toList == s19.2.2.toList)),IntKind.i64.wrap (s25.2 + 1)),hr,(Conv.mk (tau []) ⟨⟨_,rfl,.inl rfl⟩,⟨_,rfl,.inl rfl⟩,⟨_,rfl,.inl rfl⟩,⟨_,rfl,.inl rfl⟩,⟨_,rfl,.inl rfl⟩,⟨_,rfl,.inl rfl⟩,⟨_,rfl,.inl rfl⟩,⟨_,rfl,.inl rfl⟩,⟨_,rfl,.inl rfl⟩,⟨_,rfl,.inl rfl⟩,trivial⟩ ⟨rfl,rfl,rfl,rfl,rfl,rfl,trivial⟩ rfl rfl rfl rfl)⟩
 have hr:=selF h27 hr
 refine Ok.exit ?_
 exact ⟨s25.1,hr,(Conv.mk (tau []) ⟨⟨_,rfl,.inl rfl⟩,⟨_,rfl,.inl rfl⟩,⟨_,rfl,.inl rfl⟩,⟨_,rfl,.inl rfl⟩,⟨_,rfl,.inl rfl⟩,⟨_,rfl,.inl rfl⟩,⟨_,rfl,.inl rfl⟩,⟨_,rfl,.inl rfl⟩,⟨_,rfl,.inl rfl⟩,trivial⟩ ⟨rfl,rfl,rfl,rfl,rfl,rfl,trivial⟩ rfl rfl rfl rfl)⟩
 clear hk20
 refine Ok.seq (Ok.region (OkOps.y (aB (x10.1 == 0)) (OkOps.y (aB (x10.1 == 0)) (OkOps.q (triQG (x:=.c (.loc 0 0)) rfl rfl trivial rfl) ?_))))
 obtain ⟨x29,hx29,hr⟩:=bind_some hr
 refine OkOps.m 0 (triCallGW (tau [(0,0)]) (aI x29.1) [(0,.blk [.d (.sl (List.map (eInt .i64) x29.2.L)),cI x29.2.At] 40)] (fun hg=>b_Src_N_c _ _ (selT hg hx29)) (fun hg=>by cases selF hg hx29;rfl) rfl rfl ⟨.inl rfl,.inl rfl,trivial⟩ ⟨fun h=>h,trivial⟩ entry7 ⟨rfl,trivial⟩ rfl rfl rfl rfl rfl rfl rfl rfl) ?_
 refine OkOps.q (triQG (x:=aB (x29.1 == 0)) rfl rfl ⟨fun h=>h,trivial⟩ rfl) ?_
 refine OkOps.q (triOr rfl rfl (fun h=>by rw [h];rfl) rfl) ?_
 refine OkOps.nil ?_
 refine Ok.cond (b:=(x10.1 == 0) || (x29.1 == 0)) rfl (fun h30=>?_) (fun h30=>?_)
 have hr:=selT h30 hr
 refine Ok.region (OkOps.y (.c (.loc 0 0)) ?_)
 obtain ⟨x31,hx31,hr⟩:=bind_some hr
 refine OkOps.m 0 (triCl (tau [(0,0)]) (.s (aI x31.1)) [(0,.blk [.d (.sl (List.map (eInt .i64) x31.2.L)),cI x31.2.At] 40)] (b_Src_N_c _ _ hx31) rfl ⟨.inl rfl,.inl rfl,trivial⟩ trivial entry7 ⟨rfl,trivial⟩) (OkOps.y (aI (IntKind.i64.wrap (97 + x31.1))) (OkOps.y (.c (.d (.v (.int .u8 (IntKind.u8.wrap (IntKind.i64.wrap (97 + x31.1))))))) (OkOps.m 0 (triBST (sz:=1) (enc:=(eInt .u8)) (j:=7) ([107,IntKind.u8.wrap (IntKind.i64.wrap (97 + x31.1))]) rfl rfl rfl rfl rfl rfl rfl rfl (fun _=>rfl) trivial rfl rfl) (OkOps.q (triOfBytes (L:=[107,IntKind.u8.wrap (IntKind.i64.wrap (97 + x31.1))]) rfl rfl trivial rfl) (OkOps.y (.c (.loc 4 1)) (OkOps.w (triStore (cs':=[cI x18.1.Kind,cS (ofBytes ([107,IntKind.u8.wrap (IntKind.i64.wrap (97 + x31.1))])),.d (.sl (List.map Attr.cs x18.1.Attrs)),.d (.sl (List.map Action.cs x18.1.Actions)),.d (.sl (List.map View.cs x18.1.Kids))]) rfl rfl rfl rfl rfl rfl rfl rfl rfl) (OkOps.nil ?_)))))))
 exact ⟨(x31.2.L,x31.2.At,ofBytes ([107,IntKind.u8.wrap (IntKind.i64.wrap (97 + x31.1))])),hr,(Conv.mk (tau []) ⟨⟨_,rfl,.inl rfl⟩,⟨_,rfl,.inl rfl⟩,⟨_,rfl,.inl rfl⟩,⟨_,rfl,.inl rfl⟩,⟨_,rfl,.inl rfl⟩,⟨_,rfl,.inl rfl⟩,⟨_,rfl,.inl rfl⟩,⟨_,rfl,.inl rfl⟩,trivial⟩ ⟨rfl,rfl,rfl,rfl,rfl,rfl,trivial⟩ rfl rfl rfl rfl)⟩
 have hr:=selF h30 hr
 refine Ok.skip ?_
 exact ⟨(x29.2.L,x29.2.At,x18.1.Key),hr,(Conv.mk (tau []) ⟨⟨_,rfl,.inl rfl⟩,⟨_,rfl,.inl rfl⟩,⟨_,rfl,.inl rfl⟩,⟨_,rfl,.inl rfl⟩,⟨_,rfl,.inl rfl⟩,⟨_,rfl,.inl rfl⟩,⟨_,rfl,.inl rfl⟩,⟨_,rfl,.inl rfl⟩,trivial⟩ ⟨rfl,rfl,rfl,rfl,rfl,rfl,trivial⟩ rfl rfl rfl rfl)⟩
 have hr:=selF h15 hr
 refine Ok.exit ?_
 exact ⟨(s13.2.1,s13.2.2.1,s13.2.2.2),hr,(Conv.mk (tau [(1011,1016)]) ⟨⟨_,rfl,.inl rfl⟩,⟨_,rfl,.inl rfl⟩,trivial⟩ ⟨rfl,rfl,rfl,rfl,rfl,trivial⟩ rfl rfl rfl rfl)⟩
 clear hk7
 refine Ok.seq (Ok.region (OkOps.y (.c (.loc 0 0)) ?_))
 obtain ⟨x32,hx32,hr⟩:=bind_some hr
 refine OkOps.m 0 (triCl (tau [(0,0)]) (.s (aI x32.1)) [(0,.blk [.d (.sl (List.map (eInt .i64) x32.2.L)),cI x32.2.At] 40)] (b_Src_N_c _ _ hx32) rfl ⟨.inl rfl,.inl rfl,trivial⟩ trivial entry7 ⟨rfl,trivial⟩) (OkOps.y (aB (x32.1 == 0)) (OkOps.nil ?_))
 refine Ok.cond (b:=x32.1 == 0) rfl (fun h33=>?_) (fun h33=>?_)
 have hr:=selT h33 hr
 refine Ok.region (OkOps.y (.c (.loc 0 0)) ?_)
 obtain ⟨x34,hx34,hr⟩:=bind_some hr
 refine OkOps.m 0 (triCl (tau [(0,0)]) (.s (.agg [cI x34.1.Kind,cI x34.1.N,cS x34.1.S,.d (.sl (List.map AValue.cs x34.1.L))])) [(0,.blk [.d (.sl (List.map (eInt .i64) x34.2.L)),cI x34.2.At] 40)] (b_Src_Value_c _ _ _ hx34) rfl ⟨.inl rfl,.inl rfl,trivial⟩ trivial entry52 ⟨rfl,trivial⟩) ?_
 refine OkOps.m 0 (triBST (sz:=4) (enc:=AValue.cs) (j:=8) ([x34.1]) rfl rfl rfl rfl rfl (rows:=[[dI x34.1.Kind,dI x34.1.N,dS x34.1.S,.sl (List.map AValue.cs x34.1.L)]]) (by simp only [List.map,AValue.cs_eq]) rfl rfl (fun x=>by rw [AValue.cs_eq];rfl) trivial rfl rfl) ?_
 refine OkOps.y (.agg [cS (ByteArray.mk #[112,114,101,115,115]),cS (ByteArray.mk #[47]),cS (ByteArray.mk #[103,111]),.tl 8 (List.map AValue.cs ([x34.1]))]) (OkOps.m 0 (triBST (sz:=4) (enc:=Action.cs) (j:=9) ([(Action.mk (ByteArray.mk #[112,114,101,115,115]) (ByteArray.mk #[47]) (ByteArray.mk #[103,111]) ([x34.1]))]) rfl rfl rfl rfl rfl rfl rfl rfl (fun _=>rfl) trivial rfl rfl) (OkOps.y (.c (.loc 3 3)) (OkOps.w (triStore (cs':=[cI s3,cS ByteArray.empty,.d (.sl (List.map Attr.cs x5.1)),.tl 9 (List.map Action.cs ([(Action.mk (ByteArray.mk #[112,114,101,115,115]) (ByteArray.mk #[47]) (ByteArray.mk #[103,111]) ([x34.1]))])),.d (.v (.slice none 0 0))]) rfl rfl rfl rfl rfl rfl rfl rfl rfl) (OkOps.nil ?_))))
 exact ⟨(x34.2.L,x34.2.At,[(Action.mk (ByteArray.mk #[112,114,101,115,115]) (ByteArray.mk #[47]) (ByteArray.mk #[103,111]) ([x34.1]))]),hr,(Conv.mk (tau [(1000,9)]) ⟨⟨_,rfl,.inl rfl⟩,⟨_,rfl,.inl rfl⟩,⟨_,rfl,.inl rfl⟩,⟨_,rfl,.inl rfl⟩,trivial⟩ ⟨rfl,rfl,rfl,rfl,trivial⟩ rfl rfl rfl rfl)⟩
 have hr:=selF h33 hr
 refine Ok.skip ?_
 exact ⟨(x32.2.L,x32.2.At,([] : (List Action))),hr,(Conv.trans (Conv.nilO 3 3 1023 4 [cI s3,cS ByteArray.empty,.d (.sl (List.map Attr.cs x5.1)),.d (.v (.slice none 0 0)),.d (.v (.slice none 0 0))] [cI s3,cS ByteArray.empty,.d (.sl (List.map Attr.cs x5.1)),.tl 1023 (List.map Action.cs ([] : (List Action))),.d (.v (.slice none 0 0))] 46 0 rfl rfl rfl rfl) (Conv.mk (tau [(1000,1023)]) ⟨⟨_,rfl,.inl rfl⟩,⟨_,rfl,.inl rfl⟩,⟨_,rfl,.inl rfl⟩,⟨_,rfl,.inl rfl⟩,trivial⟩ ⟨rfl,rfl,rfl,rfl,trivial⟩ rfl rfl rfl rfl))⟩
 clear hk4
 refine Ok.seq (Ok.region (OkOps.y (aI depth) (OkOps.y (aB (decide (depth > 2))) (OkOps.nil ?_))))
 refine Ok.cond (b:=decide (depth > 2)) rfl (fun h35=>?_) (fun h35=>?_)
 have hr:=selT h35 hr
 refine Ok.region (OkOps.y (.c (.loc 3 0)) (OkOps.w (triStore (cs':=[cI 1,cS ByteArray.empty,.d (.v (.slice none 0 0)),.d (.v (.slice none 0 0)),.d (.v (.slice none 0 0))]) rfl rfl rfl rfl rfl rfl rfl rfl rfl) (OkOps.nil ?_)))
 exact ⟨1,hr,(Conv.mk (tau []) ⟨⟨_,rfl,.inl rfl⟩,⟨_,rfl,.inl rfl⟩,⟨_,rfl,.inl rfl⟩,⟨_,rfl,.inl rfl⟩,trivial⟩ ⟨rfl,rfl,rfl,trivial⟩ rfl rfl rfl rfl)⟩
 have hr:=selF h35 hr
 refine Ok.skip ?_
 exact ⟨x2,hr,(Conv.mk (tau []) ⟨⟨_,rfl,.inl rfl⟩,⟨_,rfl,.inl rfl⟩,⟨_,rfl,.inl rfl⟩,⟨_,rfl,.inl rfl⟩,trivial⟩ ⟨rfl,rfl,rfl,trivial⟩ rfl rfl rfl rfl)⟩
theorem b_Src_view_all : ∀ n : Nat,(∀ (p_s : widgetrybase_Src) (depth : Int) {r : View × widgetrybase_Src},b_Src_view n p_s depth = some r → Con Tryz.prog 31 [.c (.loc 0 0),aI depth] [(0,.blk [.d (.sl (List.map (eInt .i64) p_s.L)),cI p_s.At] 40)] (.s (.agg [cI r.1.Kind,cS r.1.Key,.d (.sl (List.map Attr.cs r.1.Attrs)),.d (.sl (List.map Action.cs r.1.Actions)),.d (.sl (List.map View.cs r.1.Kids))])) [(0,.blk [.d (.sl (List.map (eInt .i64) r.2.L)),cI r.2.At] 40)]) ∧ True:=by
 intro n
 induction n with
 | zero=>exact ⟨(by intros;rename_i hr;cases hr),trivial⟩
 | succ n ih=>exact ⟨(by intros;rename_i hr;exact b_Src_view_B_c _ ih.1 _ _ hr),trivial⟩
theorem b_Src_view_c (n : Nat) (p_s : widgetrybase_Src) (depth : Int) {r : View × widgetrybase_Src} (hr : b_Src_view n p_s depth = some r) : Con Tryz.prog 31 [.c (.loc 0 0),aI depth] [(0,.blk [.d (.sl (List.map (eInt .i64) p_s.L)),cI p_s.At] 40)] (.s (.agg [cI r.1.Kind,cS r.1.Key,.d (.sl (List.map Attr.cs r.1.Attrs)),.d (.sl (List.map Action.cs r.1.Actions)),.d (.sl (List.map View.cs r.1.Kids))])) [(0,.blk [.d (.sl (List.map (eInt .i64) r.2.L)),cI r.2.At] 40)]:=(b_Src_view_all n).1 p_s depth hr
theorem b_Src_View_c (p_s : widgetrybase_Src) (depth : Int) {r : View × widgetrybase_Src} (hr : b_Src_View p_s depth = some r) : Con Tryz.prog 11 [.c (.loc 0 0),aI depth] [(0,.blk [.d (.sl (List.map (eInt .i64) p_s.L)),cI p_s.At] 40)] (.s (.agg [cI r.1.Kind,cS r.1.Key,.d (.sl (List.map Attr.cs r.1.Attrs)),.d (.sl (List.map Action.cs r.1.Actions)),.d (.sl (List.map View.cs r.1.Kids))])) [(0,.blk [.d (.sl (List.map (eInt .i64) r.2.L)),cI r.2.At] 40)]:=by
 unfold b_Src_View at hr
 refine Con.of_ok 14 0 [.cell 4 46] [(0,.s (.c (.loc 0 0))),(1,.s (aI depth))] Tryz.func11 rfl rfl rfl rfl rfl rfl rfl rfl fun w g M ρ _=>(Ok.seq (Ok.region (OkOps.m 0 (triAlloc (j:=1) (cs:=[cI 0,cS ByteArray.empty,.d (.v (.slice none 0 0)),.d (.v (.slice none 0 0)),.d (.v (.slice none 0 0))]) rfl rfl rfl rfl) (OkOps.nil (Ok.seq (Ok.region (OkOps.y (.c (.loc 0 0)) (OkOps.y (aI depth) ?_))))))))
 obtain ⟨x1,hx1,hr⟩:=bind_some hr
 refine OkOps.m 0 (triCl (tau [(0,0)]) (.s (.agg [cI x1.1.Kind,cS x1.1.Key,.d (.sl (List.map Attr.cs x1.1.Attrs)),.d (.sl (List.map Action.cs x1.1.Actions)),.d (.sl (List.map View.cs x1.1.Kids))])) [(0,.blk [.d (.sl (List.map (eInt .i64) x1.2.L)),cI x1.2.At] 40)] (b_Src_view_c _ _ _ hx1) rfl ⟨.inl rfl,.inl rfl,trivial⟩ trivial entry31 ⟨rfl,trivial⟩) (OkOps.m 0 (triAlloc (j:=2) (cs:=[cI 0,cS ByteArray.empty,.d (.v (.slice none 0 0)),.d (.v (.slice none 0 0)),.d (.v (.slice none 0 0))]) rfl rfl rfl rfl) (OkOps.w (triStore (cs':=[cI x1.1.Kind,cS x1.1.Key,.d (.sl (List.map Attr.cs x1.1.Attrs)),.d (.sl (List.map Action.cs x1.1.Actions)),.d (.sl (List.map View.cs x1.1.Kids))]) rfl rfl rfl rfl rfl rfl rfl rfl rfl) (OkOps.nil (Ok.seq (Ok.seq (Ok.region (OkOps.y (.agg [cI x1.1.Kind,cS x1.1.Key,.d (.sl (List.map Attr.cs x1.1.Attrs)),.d (.sl (List.map Action.cs x1.1.Actions)),.d (.sl (List.map View.cs x1.1.Kids))]) ?_)))))))
 obtain ⟨x2,hx2,hr⟩:=bind_some hr
 refine OkOps.q (triCl (tau []) (.s (aI x2)) [] (r14_Validate_c _ hx2) rfl ⟨.inl rfl,trivial⟩ trivial entry29 trivial) (OkOps.y (aB (x2 != 0)) (OkOps.nil ?_))
 refine Ok.cond (b:=x2 != 0) rfl (fun h3=>?_) (fun h3=>?_)
 have hr:=selT h3 hr
 refine Ok.seq (Ok.region (OkOps.y (.agg [cI 1,cS ByteArray.empty,.d (.v (.slice none 0 0)),.d (.v (.slice none 0 0)),.d (.v (.slice none 0 0))]) (OkOps.w (triStore (cs':=[cI 1,cS ByteArray.empty,.d (.v (.slice none 0 0)),.d (.v (.slice none 0 0)),.d (.v (.slice none 0 0))]) rfl rfl rfl rfl rfl rfl rfl rfl rfl) (OkOps.nil (Ok.ret ?_)))))
 obtain rfl:=Option.some.inj hr
 exact ⟨_,rfl,.inr rfl,⟨rfl,trivial⟩⟩
 have hr:=selF h3 hr
 refine Ok.skip (Ok.seq (Ok.region (OkOps.y (.agg [cI x1.1.Kind,cS x1.1.Key,.d (.sl (List.map Attr.cs x1.1.Attrs)),.d (.sl (List.map Action.cs x1.1.Actions)),.d (.sl (List.map View.cs x1.1.Kids))]) (OkOps.w (triStore (cs':=[cI x1.1.Kind,cS x1.1.Key,.d (.sl (List.map Attr.cs x1.1.Attrs)),.d (.sl (List.map Action.cs x1.1.Actions)),.d (.sl (List.map View.cs x1.1.Kids))]) rfl rfl rfl rfl rfl rfl rfl rfl rfl) (OkOps.nil (Ok.ret ?_))))))
 obtain rfl:=Option.some.inj hr
 exact ⟨_,rfl,.inl rfl,⟨rfl,trivial⟩⟩
theorem entry11 : Entry Tryz.prog 11:=⟨_,Tryz.func11,by kernel_rfl,by kernel_rfl⟩
end Go.Proofs.YtcfegecdlbbeaaaGreatDoor
end
section
set_option maxRecDepth 100000
namespace Go.Proofs.YtcfegecdlbbeaaaGreatDoor
open Go Go.E2
theorem entry30 : Entry Tryz.prog 30:=⟨_,Tryz.func30,by kernel_rfl,by kernel_rfl⟩
theorem r14_build_B_c (self0 : View → Int → Tree → Option Tree) (hself0 : ∀ (v : View) (parent : Int) (t : Tree) {r : Tree},self0 v parent t = some r → Con Tryz.prog 30 [.agg [cI v.Kind,cS v.Key,.d (.sl (List.map Attr.cs v.Attrs)),.d (.sl (List.map Action.cs v.Actions)),.d (.sl (List.map View.cs v.Kids))],aI parent,.agg [cI t.Root,cI t.Next,.own 0]] [(0,.vec 7 (List.map Node.cs t.Nodes))] (.s (.agg [cI r.Root,cI r.Next,.own 2000])) [(0,.dead),(2000,.vec 7 (List.map Node.cs r.Nodes))]) (v : View) (parent : Int) (t : Tree) {r : Tree} (hr : r14_build_B self0 v parent t = some r) : Con Tryz.prog 30 [.agg [cI v.Kind,cS v.Key,.d (.sl (List.map Attr.cs v.Attrs)),.d (.sl (List.map Action.cs v.Actions)),.d (.sl (List.map View.cs v.Kids))],aI parent,.agg [cI t.Root,cI t.Next,.own 0]] [(0,.vec 7 (List.map Node.cs t.Nodes))] (.s (.agg [cI r.Root,cI r.Next,.own 2000])) [(0,.dead),(2000,.vec 7 (List.map Node.cs r.Nodes))]:=by
 unfold r14_build_B at hr
 refine Con.of_ok 63 0 [.cell 6 27] [(0,.s (.agg [cI v.Kind,cS v.Key,.d (.sl (List.map Attr.cs v.Attrs)),.d (.sl (List.map Action.cs v.Actions)),.d (.sl (List.map View.cs v.Kids))])),(1,.s (aI parent)),(2,.s (.agg [cI t.Root,cI t.Next,.own 0]))] Tryz.func30 rfl rfl rfl rfl rfl rfl rfl rfl fun w g M ρ _=>(Ok.seq (Ok.region (OkOps.m 0 (triBox (j:=1) (cs:=[cI v.Kind,cS v.Key,.d (.sl (List.map Attr.cs v.Attrs)),.d (.sl (List.map Action.cs v.Actions)),.d (.sl (List.map View.cs v.Kids))]) rfl rfl rfl rfl rfl) (OkOps.m 0 (triBox (j:=2) (cs:=[cI t.Root,cI t.Next,.own 0]) rfl rfl rfl rfl rfl) (OkOps.m 0 (triAlloc (j:=3) (cs:=[cI 0,cI 0,.d (.v (.slice none 0 0))]) rfl rfl rfl rfl) (OkOps.nil (Ok.seq (Ok.region (OkOps.y (.c (.loc 2 1)) (OkOps.y (aI t.Next) (OkOps.y (aI t.Next) (OkOps.nil (Ok.seq (Ok.region (OkOps.y (.c (.loc 2 2)) ?_)))))))))))))))
 refine OkOps.y (.c (.own 0)) (OkOps.q (triLenV (enc:=Node.cs) t.Nodes rfl rfl rfl rfl) (OkOps.y (aI (t.Nodes.length : Int)) (OkOps.nil (Ok.seq (Ok.region (OkOps.y (.c (.loc 2 2)) (OkOps.y (.c (.own 0)) (OkOps.y (aI t.Next) (OkOps.y (aI parent) (OkOps.y (.c (.loc 1 0)) (OkOps.y (aI v.Kind) (OkOps.y (.c (.loc 1 1)) (OkOps.y (aS v.Key) (OkOps.y (.c (.loc 1 2)) (OkOps.y (.c (.d (.sl (List.map Attr.cs v.Attrs)))) ?_)))))))))))))))
 refine OkOps.y (.c (.loc 1 3)) (OkOps.y (.c (.d (.sl (List.map Action.cs v.Actions)))) (OkOps.y (.agg [cI t.Next,cI parent,cI v.Kind,cS v.Key,.d (.sl (List.map Attr.cs v.Attrs)),.d (.sl (List.map Action.cs v.Actions)),.d (.v (.slice none 0 0))]) (OkOps.m 0 (triBST (sz:=7) (enc:=Node.cs) (j:=4) ([(Node.mk t.Next parent v.Kind v.Key v.Attrs v.Actions ([] : (List Int)))]) rfl rfl rfl rfl rfl rfl rfl rfl (fun _=>rfl) trivial rfl rfl) ?_)))
 obtain ⟨x1,hx1,hr⟩:=bind_some hr
 refine OkOps.m2 0 (triAppV (enc:=Node.cs) (L:=t.Nodes) (X:=[(Node.mk t.Next parent v.Kind v.Key v.Attrs v.Actions ([] : (List Int)))]) (j:=0) (j':=5) hx1 rfl rfl rfl rfl rfl rfl (fun _=>rfl) (fun _=>rfl) trivial rfl rfl) (OkOps.y (.c (.loc 2 2)) (OkOps.w (triStoreF (cs':=[cI t.Root,cI t.Next,.own 5]) rfl rfl rfl rfl rfl rfl rfl rfl) (OkOps.nil (Ok.seq (Ok.region (OkOps.y (.c (.loc 2 1)) (OkOps.y (aI t.Next) (OkOps.y (aI (IntKind.i64.wrap (t.Next + 1))) (OkOps.y (.c (.loc 2 1)) (OkOps.w (triStore (cs':=[cI t.Root,cI (IntKind.i64.wrap (t.Next + 1)),.own 5]) rfl rfl rfl rfl rfl rfl rfl rfl rfl) (OkOps.nil (Ok.seq (Ok.region (OkOps.y (.c (.d (.v (.slice none 0 0)))) (OkOps.nil ?_)))))))))))))))
 obtain ⟨k3,hk3,hr⟩:=jn_some hr
 refine Ok.join (fun (s2 : (List Int) × Int × Int × (List Node))=>⟨[(5,.s (.c (.loc 2 0))),(6,.s (.c (.loc 3 0))),(8,.s (aI (t.Nodes.length : Int))),(9,.s (.c (.tl 1007 (List.map (eInt .i64) s2.1))))],[(0,.dead),(2,.blk [cI s2.2.1,cI s2.2.2.1,.own 1008] 27),(3,.blk [cI 0,cI 0,.d (.v (.slice none 0 0))] 27),(1007,.tail 1),(1008,.vec 7 (List.map Node.cs s2.2.2.2))],0⟩) k3 r (fun s2 hr=>?_) ?_
 rw [hk3] at hr
 refine Ok.seq (Ok.region (OkOps.y (.c (.loc 2 2)) (OkOps.y (.c (.own 1008)) (OkOps.y (aI (t.Nodes.length : Int)) (OkOps.y (.c (.tl 1007 (List.map (eInt .i64) s2.1))) ?_)))))
 obtain ⟨x4,hx4,hr⟩:=bind_some hr
 refine OkOps.q (triIdxV (enc:=Node.cs) (L:=s2.2.2.2) hx4 rfl rfl rfl rfl trivial rfl) (OkOps.q (triFldV (o:=6) (enc:=Node.cs) (L:=s2.2.2.2) rfl rfl rfl (by have:=(ixO_spec hx4).2;omega) rfl) ?_)
 obtain ⟨x5,hx5,hr⟩:=bind_some hr
 refine OkOps.w (triStoreVF (n:=1) (enc:=Node.cs) (L:=s2.2.2.2) (z:=(Node.mk x5.ID x5.Parent x5.Kind x5.Key x5.Attrs x5.Actions s2.1)) hx5 rfl rfl rfl rfl rfl rfl rfl rfl (by decide) (fun _=>rfl) rfl) (OkOps.nil (Ok.seq (Ok.region (OkOps.y (.agg [cI s2.2.1,cI s2.2.2.1,.own 1008]) (OkOps.w (triStoreF (cs':=[cI s2.2.1,cI s2.2.2.1,.own 1008]) rfl rfl rfl rfl rfl rfl rfl rfl) (OkOps.nil (Ok.conv (T:=⟨[(6,.s (.c (.loc 3 0)))],[(0,.dead),(3,.blk [cI s2.2.1,cI s2.2.2.1,.own 2000] 27),(2000,.vec 7 (List.map Node.cs (List.set s2.2.2.2 x4 (Node.mk x5.ID x5.Parent x5.Kind x5.Key x5.Attrs x5.Actions s2.1))))],0⟩) (Conv.mk (tau [(2000,1008)]) ⟨⟨_,rfl,.inl rfl⟩,trivial⟩ ⟨rfl,rfl,trivial⟩ rfl rfl rfl rfl) (Ok.ret ?_))))))))
 obtain rfl:=Option.some.inj hr
 exact ⟨_,rfl,.inl rfl,⟨(fun h=>by cases h),rfl,trivial⟩⟩
 clear hk3
 refine Ok.seq (Ok.region (OkOps.y (aI 0) (OkOps.nil (Ok.block (Ok.loopK (fun (s6 : (List Int) × Int × Int × Int × (List Node))=>⟨[(3,.s (.c (.loc 1 0))),(5,.s (.c (.loc 2 0))),(6,.s (.c (.loc 3 0))),(7,.s (aI t.Next)),(8,.s (aI (t.Nodes.length : Int))),(9,.s (.c (.tl 1012 (List.map (eInt .i64) s6.1)))),(10,.s (aI s6.2.1))],[(0,.dead),(1,.blk [cI v.Kind,cS v.Key,.d (.sl (List.map Attr.cs v.Attrs)),.d (.sl (List.map Action.cs v.Actions)),.d (.sl (List.map View.cs v.Kids))] 46),(2,.blk [cI s6.2.2.1,cI s6.2.2.2.1,.own 1013] 27),(3,.blk [cI 0,cI 0,.d (.v (.slice none 0 0))] 27),(1012,.tail 1),(1013,.vec 7 (List.map Node.cs s6.2.2.2.2))],0⟩) hr (Conv.trans (Conv.nil 9 1016 1 0 rfl rfl) (Conv.mk (tau [(1012,1016),(1013,5)]) ⟨⟨_,rfl,.inl rfl⟩,⟨_,rfl,.inl rfl⟩,⟨_,rfl,.inl rfl⟩,⟨_,rfl,.inl rfl⟩,⟨_,rfl,.inl rfl⟩,⟨_,rfl,.inl rfl⟩,⟨_,rfl,.inl rfl⟩,trivial⟩ ⟨rfl,rfl,rfl,rfl,rfl,trivial⟩ rfl rfl rfl rfl)) ?_)))))
 clear hr
 intro again7 s6 hr
 unfold r14_build_L1 at hr
 refine Ok.seq (Ok.seq (Ok.region (OkOps.y (aI s6.2.1) (OkOps.y (.c (.loc 1 4)) (OkOps.y (.c (.d (.sl (List.map View.cs v.Kids)))) (OkOps.q (triLen (enc:=View.cs) v.Kids rfl rfl trivial rfl) (OkOps.y (aB (decide (s6.2.1 < (v.Kids.length : Int)))) (OkOps.nil ?_))))))))
 refine Ok.cond (b:=decide (s6.2.1 < (v.Kids.length : Int))) rfl (fun h8=>?_) (fun h8=>?_)
 have hr:=selT h8 hr
 refine Ok.skip (Ok.seq (Ok.block (Ok.seq (Ok.region (OkOps.y (.c (.tl 1012 (List.map (eInt .i64) s6.1))) (OkOps.y (.c (.loc 2 1)) (OkOps.y (aI s6.2.2.2.1) (OkOps.m 0 (triBST (sz:=1) (enc:=(eInt .i64)) (j:=6) ([s6.2.2.2.1]) rfl rfl rfl rfl rfl rfl rfl rfl (fun _=>rfl) trivial rfl rfl) ?_))))))))
 obtain ⟨x9,hx9,hr⟩:=bind_some hr
 refine OkOps.m2 0 (triApp (enc:=(eInt .i64)) (L:=s6.1) (X:=[s6.2.2.2.1]) (j:=1012) (j':=7) hx9 rfl rfl rfl rfl rfl rfl (fun _=>rfl) (fun _=>rfl) (by decide) trivial rfl rfl) (OkOps.y (.c (.tl 7 (List.map (eInt .i64) x9))) (OkOps.nil (Ok.regionD (by kernel_rfl) (OkD.x (.c (.loc 1 4)) rfl trivial rfl (OkD.x (.c (.d (.sl (List.map View.cs v.Kids)))) rfl trivial rfl (OkD.x (aI s6.2.1) rfl trivial rfl ?_))))))
 obtain ⟨x10,hx10,hr⟩:=bind_some hr
 refine OkD.q (triIdx (enc:=View.cs) (L:=v.Kids) (row:=[dI x10.Kind,dS x10.Key,.sl (List.map Attr.cs x10.Attrs),.sl (List.map Action.cs x10.Actions),.sl (List.map View.cs x10.Kids)]) hx10 (View.cs_eq _) rfl rfl rfl (fun x=>by rw [View.cs_eq];rfl) trivial rfl) ?_
 refine OkD.x (.agg [cI x10.Kind,cS x10.Key,.d (.sl (List.map Attr.cs x10.Attrs)),.d (.sl (List.map Action.cs x10.Actions)),.d (.sl (List.map View.cs x10.Kids))]) rfl trivial rfl (OkD.x (aI t.Next) rfl trivial rfl (OkD.x (.agg [cI s6.2.2.1,cI s6.2.2.2.1,.own 1013]) rfl trivial rfl ?_))
 obtain ⟨x11,hx11,hr⟩:=bind_some hr
 refine OkD.m2 0 (triCall (tau [(0,1013),(2000,8)]) (.s (.agg [cI x11.Root,cI x11.Next,.own 8])) [(1013,.dead),(8,.vec 7 (List.map Node.cs x11.Nodes))] (hself0 _ _ _ hx11) rfl ⟨.inl rfl,.inl rfl,.inl rfl,trivial⟩ trivial entry30 ⟨rfl,trivial⟩ rfl rfl rfl rfl ⟨rfl,trivial⟩ rfl rfl rfl) (OkD.w (triStoreF (cs':=[cI x11.Root,cI x11.Next,.own 8]) rfl rfl rfl rfl rfl rfl rfl rfl) (OkD.nil (by kernel_rfl) (Ok.region (OkOps.y (aI s6.2.1) (OkOps.y (aI (IntKind.i64.wrap (s6.2.1 + 1))) (OkOps.y (aI (IntKind.i64.wrap (s6.2.1 + 1))) (OkOps.nil ?_)))))))
 exact ⟨(x9,IntKind.i64.wrap (s6.2.1 + 1),x11.Root,x11.Next,x11.Nodes),hr,(Conv.mk (tau [(1012,7),(1013,8)]) ⟨⟨_,rfl,.inl rfl⟩,⟨_,rfl,.inl rfl⟩,⟨_,rfl,.inl rfl⟩,⟨_,rfl,.inl rfl⟩,⟨_,rfl,.inl rfl⟩,⟨_,rfl,.inl rfl⟩,⟨_,rfl,.inl rfl⟩,trivial⟩ ⟨rfl,rfl,rfl,rfl,rfl,trivial⟩ rfl rfl rfl rfl)⟩
 have hr:=selF h8 hr
 refine Ok.exit ?_
 exact ⟨(s6.1,s6.2.2.1,s6.2.2.2.1,s6.2.2.2.2),hr,(Conv.mk (tau [(1007,1012),(1008,1013)]) ⟨⟨_,rfl,.inl rfl⟩,⟨_,rfl,.inl rfl⟩,⟨_,rfl,.inl rfl⟩,⟨_,rfl,.inl rfl⟩,trivial⟩ ⟨rfl,rfl,rfl,rfl,trivial⟩ rfl rfl rfl rfl)⟩
theorem r14_build_all : ∀ n : Nat,(∀ (v : View) (parent : Int) (t : Tree) {r : Tree},r14_build n v parent t = some r → Con Tryz.prog 30 [.agg [cI v.Kind,cS v.Key,.d (.sl (List.map Attr.cs v.Attrs)),.d (.sl (List.map Action.cs v.Actions)),.d (.sl (List.map View.cs v.Kids))],aI parent,.agg [cI t.Root,cI t.Next,.own 0]] [(0,.vec 7 (List.map Node.cs t.Nodes))] (.s (.agg [cI r.Root,cI r.Next,.own 2000])) [(0,.dead),(2000,.vec 7 (List.map Node.cs r.Nodes))]) ∧ True:=by
 intro n
 induction n with
 | zero=>exact ⟨(by intros;rename_i hr;cases hr),trivial⟩
 | succ n ih=>exact ⟨(by intros;rename_i hr;exact r14_build_B_c _ ih.1 _ _ _ hr),trivial⟩
theorem r14_build_c (n : Nat) (v : View) (parent : Int) (t : Tree) {r : Tree} (hr : r14_build n v parent t = some r) : Con Tryz.prog 30 [.agg [cI v.Kind,cS v.Key,.d (.sl (List.map Attr.cs v.Attrs)),.d (.sl (List.map Action.cs v.Actions)),.d (.sl (List.map View.cs v.Kids))],aI parent,.agg [cI t.Root,cI t.Next,.own 0]] [(0,.vec 7 (List.map Node.cs t.Nodes))] (.s (.agg [cI r.Root,cI r.Next,.own 2000])) [(0,.dead),(2000,.vec 7 (List.map Node.cs r.Nodes))]:=(r14_build_all n).1 v parent t hr
theorem r14_Build_c (v : View) (next : Int) {r : Tree × Int} (hr : r14_Build v next = some r) : Con Tryz.prog 10 [.agg [cI v.Kind,cS v.Key,.d (.sl (List.map Attr.cs v.Attrs)),.d (.sl (List.map Action.cs v.Actions)),.d (.sl (List.map View.cs v.Kids))],aI next] [] (.tup [.agg [cI r.1.Root,cI r.1.Next,.d (.sl (List.map Node.cs r.1.Nodes))],aI r.2]) []:=by
 unfold r14_Build at hr
 refine Con.of_ok 27 0 [.cell 4 27,.tmp 5] [(0,.s (.agg [cI v.Kind,cS v.Key,.d (.sl (List.map Attr.cs v.Attrs)),.d (.sl (List.map Action.cs v.Actions)),.d (.sl (List.map View.cs v.Kids))])),(1,.s (aI next))] Tryz.func10 rfl rfl rfl rfl rfl rfl rfl rfl fun w g M ρ _=>(Ok.seq (Ok.region (OkOps.m 0 (triBox (j:=0) (cs:=[cI v.Kind,cS v.Key,.d (.sl (List.map Attr.cs v.Attrs)),.d (.sl (List.map Action.cs v.Actions)),.d (.sl (List.map View.cs v.Kids))]) rfl rfl rfl rfl rfl) (OkOps.m 0 (triAlloc (j:=1) (cs:=[cI 0,cI 0,.d (.v (.slice none 0 0))]) rfl rfl rfl rfl) (OkOps.y (aI 0) (OkOps.nil (Ok.seq (Ok.seq (Ok.region (OkOps.y (.agg [cI v.Kind,cS v.Key,.d (.sl (List.map Attr.cs v.Attrs)),.d (.sl (List.map Action.cs v.Actions)),.d (.sl (List.map View.cs v.Kids))]) ?_))))))))))
 obtain ⟨x1,hx1,hr⟩:=bind_some hr
 refine OkOps.q (triCl (tau []) (.s (aI x1)) [] (r14_Validate_c _ hx1) rfl ⟨.inl rfl,trivial⟩ trivial entry29 trivial) (OkOps.y (aI x1) (OkOps.nil (Ok.seq (Ok.region (OkOps.y (aI x1) (OkOps.y (aB (x1 != 0)) (OkOps.nil ?_)))))))
 refine Ok.cond (b:=x1 != 0) rfl (fun h2=>?_) (fun h2=>?_)
 have hr:=selT h2 hr
 refine Ok.seq (Ok.region (OkOps.y (.agg [cI 0,cI 0,.d (.v (.slice none 0 0))]) (OkOps.y (aI x1) (OkOps.w (triStore (cs':=[cI 0,cI 0,.d (.v (.slice none 0 0))]) rfl rfl rfl rfl rfl rfl rfl rfl rfl) (OkOps.y (aI x1) (OkOps.nil (Ok.ret ?_)))))))
 obtain rfl:=Option.some.inj hr
 exact ⟨_,rfl,.inr rfl,trivial⟩
 have hr:=selF h2 hr
 refine Ok.skip (Ok.seq (Ok.seq (Ok.region (OkOps.y (aI next) (OkOps.y (aB (decide (next < 1))) (OkOps.y (aB (decide (next < 1))) (OkOps.q (triQG (x:=aI next) rfl rfl trivial rfl) (OkOps.q (triQG (x:=aB (decide (next > 1099511627376))) rfl rfl ⟨fun h=>h,trivial⟩ rfl) ?_))))))))
 refine OkOps.q (triOr rfl rfl (fun h=>by rw [h];rfl) rfl) ?_
 refine OkOps.nil ?_
 refine Ok.cond (b:=(decide (next < 1)) || (decide (next > 1099511627376))) rfl (fun h3=>?_) (fun h3=>?_)
 have hr:=selT h3 hr
 refine Ok.seq (Ok.region (OkOps.y (.agg [cI 0,cI 0,.d (.v (.slice none 0 0))]) (OkOps.w (triStore (cs':=[cI 0,cI 0,.d (.v (.slice none 0 0))]) rfl rfl rfl rfl rfl rfl rfl rfl rfl) (OkOps.y (aI 1) (OkOps.nil (Ok.ret ?_))))))
 obtain rfl:=Option.some.inj hr
 exact ⟨_,rfl,.inr rfl,trivial⟩
 have hr:=selF h3 hr
 refine Ok.skip (Ok.seq (Ok.region (OkOps.y (aI next) (OkOps.y (aI next) (OkOps.y (.agg [cI next,cI next,.d (.v (.slice none 0 0))]) (OkOps.m 0 (triAlloc (j:=2) (cs:=[cI 0,cI 0,.d (.v (.slice none 0 0))]) rfl rfl rfl rfl) (OkOps.w (triStore (cs':=[cI next,cI next,.d (.v (.slice none 0 0))]) rfl rfl rfl rfl rfl rfl rfl rfl rfl) (OkOps.nil (Ok.seq (Ok.region (OkOps.y (.agg [cI v.Kind,cS v.Key,.d (.sl (List.map Attr.cs v.Attrs)),.d (.sl (List.map Action.cs v.Actions)),.d (.sl (List.map View.cs v.Kids))]) (OkOps.y (.agg [cI next,cI next,.d (.v (.slice none 0 0))]) (OkOps.conv (Conv.nilAg 25 2 3 (.vec 7 (List.map Node.cs ([] : (List Node)))) (.own 3) [cI next,cI next,.d (.v (.slice none 0 0))] [cI next,cI next,.own 3] 0 rfl rfl rfl rfl (nil_vec Node.cs 7 3) (fun _ _ h=>h.symm)) ?_)))))))))))))
 obtain ⟨x4,hx4,hr⟩:=bind_some hr
 refine OkOps.m2 0 (triCall (tau [(0,3),(2000,4)]) (.s (.agg [cI x4.Root,cI x4.Next,.own 4])) [(3,.dead),(4,.vec 7 (List.map Node.cs x4.Nodes))] (r14_build_c _ _ _ _ hx4) rfl ⟨.inl rfl,.inl rfl,.inl rfl,trivial⟩ trivial entry30 ⟨rfl,trivial⟩ rfl rfl rfl rfl ⟨rfl,trivial⟩ rfl rfl rfl) (OkOps.w (triStoreF (cs':=[cI x4.Root,cI x4.Next,.own 4]) rfl rfl rfl rfl rfl rfl rfl rfl) (OkOps.y (aI 0) (OkOps.nil (Ok.conv (Conv.freezeV (enc:=Node.cs) (L:=x4.Nodes) [(26,.s (.agg [cI x4.Root,cI x4.Next,.d (.sl (List.map Node.cs x4.Nodes))]))] [(1,.blk [cI x4.Root,cI x4.Next,.d (.sl (List.map Node.cs x4.Nodes))] 27)] 4 0 rfl (fun _=>rfl) ⟨⟨_,rfl,rfl⟩,trivial⟩ ⟨⟨_,_,rfl,rfl⟩,trivial⟩) (Ok.ret ?_)))))
 obtain rfl:=Option.some.inj hr
 exact ⟨_,rfl,.inl rfl,trivial⟩
theorem entry10 : Entry Tryz.prog 10:=⟨_,Tryz.func10,by kernel_rfl,by kernel_rfl⟩
end Go.Proofs.YtcfegecdlbbeaaaGreatDoor
end
section
set_option maxRecDepth 100000
namespace Go.Proofs.YtcfegecdlbbeaaaGreatDoor
open Go Go.E2
theorem b_Src_Tree_c (p_s : widgetrybase_Src) (depth : Int) {r : Tree × widgetrybase_Src} (hr : b_Src_Tree p_s depth = some r) : Con Tryz.prog 5 [.c (.loc 0 0),aI depth] [(0,.blk [.d (.sl (List.map (eInt .i64) p_s.L)),cI p_s.At] 40)] (.s (.agg [cI r.1.Root,cI r.1.Next,.d (.sl (List.map Node.cs r.1.Nodes))])) [(0,.blk [.d (.sl (List.map (eInt .i64) r.2.L)),cI r.2.At] 40)]:=by
 unfold b_Src_Tree at hr
 refine Con.of_ok 17 0 [.cell 4 27] [(0,.s (.c (.loc 0 0))),(1,.s (aI depth))] Tryz.func5 rfl rfl rfl rfl rfl rfl rfl rfl fun w g M ρ _=>(Ok.seq (Ok.region (OkOps.m 0 (triAlloc (j:=1) (cs:=[cI 0,cI 0,.d (.v (.slice none 0 0))]) rfl rfl rfl rfl) (OkOps.nil (Ok.seq (Ok.region (OkOps.y (.c (.loc 0 0)) (OkOps.y (aI depth) ?_))))))))
 obtain ⟨x1,hx1,hr⟩:=bind_some hr
 refine OkOps.m 0 (triCl (tau [(0,0)]) (.s (.agg [cI x1.1.Kind,cS x1.1.Key,.d (.sl (List.map Attr.cs x1.1.Attrs)),.d (.sl (List.map Action.cs x1.1.Actions)),.d (.sl (List.map View.cs x1.1.Kids))])) [(0,.blk [.d (.sl (List.map (eInt .i64) x1.2.L)),cI x1.2.At] 40)] (b_Src_View_c _ _ hx1) rfl ⟨.inl rfl,.inl rfl,trivial⟩ trivial entry11 ⟨rfl,trivial⟩) (OkOps.y (.c (.loc 0 0)) ?_)
 obtain ⟨x2,hx2,hr⟩:=bind_some hr
 refine OkOps.m 0 (triCl (tau [(0,0)]) (.s (aI x2.1)) [(0,.blk [.d (.sl (List.map (eInt .i64) x2.2.L)),cI x2.2.At] 40)] (b_Src_Range_c _ _ _ hx2) rfl ⟨.inl rfl,.inl rfl,.inl rfl,trivial⟩ trivial entry8 ⟨rfl,trivial⟩) ?_
 obtain ⟨x3,hx3,hr⟩:=bind_some hr
 refine OkOps.q (triCl (tau []) (.tup [.agg [cI x3.1.Root,cI x3.1.Next,.d (.sl (List.map Node.cs x3.1.Nodes))],aI x3.2]) [] (r14_Build_c _ _ hx3) rfl ⟨.inl rfl,.inl rfl,trivial⟩ trivial entry10 trivial) (OkOps.q (triMv (v:=.tup [.agg [cI x3.1.Root,cI x3.1.Next,.d (.sl (List.map Node.cs x3.1.Nodes))],aI x3.2]) rfl rfl) (OkOps.y (.agg [cI x3.1.Root,cI x3.1.Next,.d (.sl (List.map Node.cs x3.1.Nodes))]) (OkOps.y (aI x3.2) (OkOps.m 0 (triAlloc (j:=2) (cs:=[cI 0,cI 0,.d (.v (.slice none 0 0))]) rfl rfl rfl rfl) (OkOps.w (triStore (cs':=[cI x3.1.Root,cI x3.1.Next,.d (.sl (List.map Node.cs x3.1.Nodes))]) rfl rfl rfl rfl rfl rfl rfl rfl rfl) (OkOps.y (aI x3.2) (OkOps.nil (Ok.seq (Ok.region (OkOps.y (.agg [cI x3.1.Root,cI x3.1.Next,.d (.sl (List.map Node.cs x3.1.Nodes))]) (OkOps.w (triStore (cs':=[cI x3.1.Root,cI x3.1.Next,.d (.sl (List.map Node.cs x3.1.Nodes))]) rfl rfl rfl rfl rfl rfl rfl rfl rfl) (OkOps.nil (Ok.ret ?_)))))))))))))
 obtain rfl:=Option.some.inj hr
 exact ⟨_,rfl,.inl rfl,⟨rfl,trivial⟩⟩
theorem entry5 : Entry Tryz.prog 5:=⟨_,Tryz.func5,by kernel_rfl,by kernel_rfl⟩
end Go.Proofs.YtcfegecdlbbeaaaGreatDoor
end
section
set_option maxRecDepth 100000
namespace Go.Proofs.YtcfegecdlbbeaaaGreatDoor
open Go Go.E2
theorem entry49 : Entry Tryz.prog 49:=⟨_,Tryz.func49,by kernel_rfl,by kernel_rfl⟩
theorem vw_Build_1_B_c (self0 : View → Int → Tree → Option (Int × Tree)) (hself0 : ∀ (v : View) (parent : Int) (c0 : Tree) {r : Int × Tree},self0 v parent c0 = some r → Con Tryz.prog 49 [.agg [cI v.Kind,cS v.Key,.d (.sl (List.map Attr.cs v.Attrs)),.d (.sl (List.map Action.cs v.Actions)),.d (.sl (List.map View.cs v.Kids))],aI parent,.c (.loc 0 0),.c (.loc 2 0)] [(0,.blk [cI c0.Root,cI c0.Next,.own 1] 27),(1,.vec 7 (List.map Node.cs c0.Nodes)),(2,.blk [.fn 49 [(0,0),(2,0)]] 79)] (.s (aI r.1)) [(0,.blk [cI r.2.Root,cI r.2.Next,.own 3000] 27),(2,.blk [.fn 49 [(0,0),(2,0)]] 79),(1,.dead),(3000,.vec 7 (List.map Node.cs r.2.Nodes))]) (v : View) (parent : Int) (c0 : Tree) {r : Int × Tree} (hr : vw_Build_1_B self0 v parent c0 = some r) : Con Tryz.prog 49 [.agg [cI v.Kind,cS v.Key,.d (.sl (List.map Attr.cs v.Attrs)),.d (.sl (List.map Action.cs v.Actions)),.d (.sl (List.map View.cs v.Kids))],aI parent,.c (.loc 0 0),.c (.loc 2 0)] [(0,.blk [cI c0.Root,cI c0.Next,.own 1] 27),(1,.vec 7 (List.map Node.cs c0.Nodes)),(2,.blk [.fn 49 [(0,0),(2,0)]] 79)] (.s (aI r.1)) [(0,.blk [cI r.2.Root,cI r.2.Next,.own 3000] 27),(2,.blk [.fn 49 [(0,0),(2,0)]] 79),(1,.dead),(3000,.vec 7 (List.map Node.cs r.2.Nodes))]:=by
 unfold vw_Build_1_B at hr
 refine Con.of_ok 67 0 [.tmp 6] [(0,.s (.agg [cI v.Kind,cS v.Key,.d (.sl (List.map Attr.cs v.Attrs)),.d (.sl (List.map Action.cs v.Actions)),.d (.sl (List.map View.cs v.Kids))])),(1,.s (aI parent)),(2,.s (.c (.loc 0 0))),(3,.s (.c (.loc 2 0)))] Tryz.func49 rfl rfl rfl rfl rfl rfl rfl rfl fun w g M ρ _=>(Ok.seq (Ok.region (OkOps.m 0 (triBox (j:=3) (cs:=[cI v.Kind,cS v.Key,.d (.sl (List.map Attr.cs v.Attrs)),.d (.sl (List.map Action.cs v.Actions)),.d (.sl (List.map View.cs v.Kids))]) rfl rfl rfl rfl rfl) (OkOps.y (aI 0) (OkOps.nil (Ok.seq (Ok.regionD (by kernel_rfl) (OkD.x (.c (.loc 0 1)) rfl trivial rfl (OkD.x (aI c0.Next) rfl trivial rfl (OkD.x (.c (.loc 0 2)) rfl trivial rfl (OkD.x (.c (.own 1)) rfl trivial rfl (OkD.q (triLenV (enc:=Node.cs) c0.Nodes rfl rfl rfl rfl) (OkD.x (aI c0.Next) rfl trivial rfl (OkD.x (aI (c0.Nodes.length : Int)) rfl trivial rfl (OkD.nil (by kernel_rfl) ?_)))))))))))))))
 refine Ok.seq (Ok.region (OkOps.y (.c (.loc 0 1)) (OkOps.y (aI c0.Next) (OkOps.y (aI (IntKind.i64.wrap (c0.Next + 1))) (OkOps.y (.c (.loc 0 1)) (OkOps.w (triStore (cs':=[cI c0.Root,cI (IntKind.i64.wrap (c0.Next + 1)),.own 1]) rfl rfl rfl rfl rfl rfl rfl rfl rfl) (OkOps.nil (Ok.seq (Ok.region (OkOps.y (.c (.loc 3 2)) (OkOps.y (.c (.d (.sl (List.map Attr.cs v.Attrs)))) (OkOps.y (.c (.loc 3 3)) (OkOps.y (.c (.d (.sl (List.map Action.cs v.Actions)))) ?_)))))))))))))
 obtain ⟨x1,hx1,hr⟩:=bind_some hr
 refine OkOps.q (triCl (tau []) (.tup [.c (.d (.sl (List.map Attr.cs x1.1))),.c (.d (.sl (List.map Action.cs x1.2)))]) [] (vw_copied_c _ _ hx1) rfl ⟨.inl rfl,.inl rfl,trivial⟩ trivial entry35 trivial) (OkOps.q (triMv (v:=.tup [.c (.d (.sl (List.map Attr.cs x1.1))),.c (.d (.sl (List.map Action.cs x1.2)))]) rfl rfl) (OkOps.y (.c (.d (.sl (List.map Attr.cs x1.1)))) (OkOps.y (.c (.d (.sl (List.map Action.cs x1.2)))) (OkOps.y (.c (.d (.sl (List.map Attr.cs x1.1)))) (OkOps.y (.c (.d (.sl (List.map Action.cs x1.2)))) (OkOps.nil (Ok.seq (Ok.region (OkOps.y (.c (.loc 0 2)) (OkOps.y (.c (.own 1)) (OkOps.y (aI c0.Next) (OkOps.y (aI parent) (OkOps.y (.c (.loc 3 0)) (OkOps.y (aI v.Kind) (OkOps.y (.c (.loc 3 1)) ?_)))))))))))))))
 refine OkOps.y (aS v.Key) (OkOps.y (.c (.d (.sl (List.map Attr.cs x1.1)))) (OkOps.y (.c (.d (.sl (List.map Action.cs x1.2)))) (OkOps.y (.agg [cI c0.Next,cI parent,cI v.Kind,cS v.Key,.d (.sl (List.map Attr.cs x1.1)),.d (.sl (List.map Action.cs x1.2)),.d (.v (.slice none 0 0))]) (OkOps.m 0 (triBST (sz:=7) (enc:=Node.cs) (j:=4) ([(Node.mk c0.Next parent v.Kind v.Key x1.1 x1.2 ([] : (List Int)))]) rfl rfl rfl rfl rfl rfl rfl rfl (fun _=>rfl) trivial rfl rfl) ?_))))
 obtain ⟨x2,hx2,hr⟩:=bind_some hr
 refine OkOps.m2 0 (triAppV (enc:=Node.cs) (L:=c0.Nodes) (X:=[(Node.mk c0.Next parent v.Kind v.Key x1.1 x1.2 ([] : (List Int)))]) (j:=1) (j':=5) hx2 rfl rfl rfl rfl rfl rfl (fun _=>rfl) (fun _=>rfl) trivial rfl rfl) (OkOps.y (.c (.loc 0 2)) (OkOps.w (triStoreF (cs':=[cI c0.Root,cI (IntKind.i64.wrap (c0.Next + 1)),.own 5]) rfl rfl rfl rfl rfl rfl rfl rfl) (OkOps.nil (Ok.seq (Ok.region (OkOps.y (.c (.d (.v (.slice none 0 0)))) (OkOps.nil ?_)))))))
 obtain ⟨k4,hk4,hr⟩:=jn_some hr
 refine Ok.join (fun (s3 : (List Int) × Int × Int × (List Node))=>⟨[(2,.s (.c (.loc 0 0))),(7,.s (aI c0.Next)),(8,.s (aI (c0.Nodes.length : Int))),(11,.s (.c (.tl 1007 (List.map (eInt .i64) s3.1))))],[(0,.blk [cI s3.2.1,cI s3.2.2.1,.own 1008] 27),(1,.dead),(2,.blk [.fn 49 [(0,0),(2,0)]] 79),(1007,.tail 1),(1008,.vec 7 (List.map Node.cs s3.2.2.2))],0⟩) k4 r (fun s3 hr=>?_) ?_
 rw [hk4] at hr
 refine Ok.seq (Ok.region (OkOps.y (.c (.loc 0 2)) (OkOps.y (.c (.own 1008)) (OkOps.y (aI (c0.Nodes.length : Int)) (OkOps.y (.c (.tl 1007 (List.map (eInt .i64) s3.1))) ?_)))))
 obtain ⟨x5,hx5,hr⟩:=bind_some hr
 refine OkOps.q (triIdxV (enc:=Node.cs) (L:=s3.2.2.2) hx5 rfl rfl rfl rfl trivial rfl) (OkOps.q (triFldV (o:=6) (enc:=Node.cs) (L:=s3.2.2.2) rfl rfl rfl (by have:=(ixO_spec hx5).2;omega) rfl) ?_)
 obtain ⟨x6,hx6,hr⟩:=bind_some hr
 refine OkOps.w (triStoreVF (n:=1) (enc:=Node.cs) (L:=s3.2.2.2) (z:=(Node.mk x6.ID x6.Parent x6.Kind x6.Key x6.Attrs x6.Actions s3.1)) hx6 rfl rfl rfl rfl rfl rfl rfl rfl (by decide) (fun _=>rfl) rfl) (OkOps.nil (Ok.seq (Ok.region (OkOps.y (aI c0.Next) (OkOps.y (aI c0.Next) (OkOps.nil (Ok.conv (T:=⟨[(6,.s (aI c0.Next))],[(0,.blk [cI s3.2.1,cI s3.2.2.1,.own 3000] 27),(1,.dead),(2,.blk [.fn 49 [(0,0),(2,0)]] 79),(3000,.vec 7 (List.map Node.cs (List.set s3.2.2.2 x5 (Node.mk x6.ID x6.Parent x6.Kind x6.Key x6.Attrs x6.Actions s3.1))))],0⟩) (Conv.mk (tau [(3000,1008)]) ⟨⟨_,rfl,.inl rfl⟩,trivial⟩ ⟨rfl,rfl,rfl,trivial⟩ rfl rfl rfl rfl) (Ok.ret ?_))))))))
 obtain rfl:=Option.some.inj hr
 exact ⟨_,rfl,.inl rfl,⟨rfl,rfl,(fun h=>by cases h),rfl,trivial⟩⟩
 clear hk4
 refine Ok.seq (Ok.region (OkOps.y (.c (.loc 3 4)) (OkOps.y (.c (.d (.sl (List.map View.cs v.Kids)))) (OkOps.q (triLen (enc:=View.cs) v.Kids rfl rfl trivial rfl) (OkOps.y (aI 0) (OkOps.nil (Ok.block (Ok.loopK (fun (s7 : (List Int) × Int × Int × Int × (List Node))=>⟨[(2,.s (.c (.loc 0 0))),(3,.s (.c (.loc 2 0))),(7,.s (aI c0.Next)),(8,.s (aI (c0.Nodes.length : Int))),(11,.s (.c (.tl 1012 (List.map (eInt .i64) s7.1)))),(46,.s (.c (.d (.sl (List.map View.cs v.Kids))))),(47,.s (aI (v.Kids.length : Int))),(48,.s (aI s7.2.1))],[(0,.blk [cI s7.2.2.1,cI s7.2.2.2.1,.own 1013] 27),(1,.dead),(2,.blk [.fn 49 [(0,0),(2,0)]] 79),(1012,.tail 1),(1013,.vec 7 (List.map Node.cs s7.2.2.2.2))],0⟩) hr (Conv.trans (Conv.nil 11 1016 1 0 rfl rfl) (Conv.mk (tau [(1012,1016),(1013,5)]) ⟨⟨_,rfl,.inl rfl⟩,⟨_,rfl,.inl rfl⟩,⟨_,rfl,.inl rfl⟩,⟨_,rfl,.inl rfl⟩,⟨_,rfl,.inl rfl⟩,⟨_,rfl,.inl rfl⟩,⟨_,rfl,.inl rfl⟩,⟨_,rfl,.inl rfl⟩,trivial⟩ ⟨rfl,rfl,rfl,rfl,trivial⟩ rfl rfl rfl rfl)) ?_))))))))
 clear hr
 intro again8 s7 hr
 unfold vw_Build_1_L1 at hr
 refine Ok.seq (Ok.region (OkOps.y (aB (decide (s7.2.1 < (v.Kids.length : Int)))) (OkOps.nil (Ok.seq ?_))))
 refine Ok.cond (b:=decide (s7.2.1 < (v.Kids.length : Int))) rfl (fun h9=>?_) (fun h9=>?_)
 have hr:=selT h9 hr
 refine Ok.skip (Ok.seq (Ok.block (Ok.seq (Ok.region ?_))))
 obtain ⟨x10,hx10,hr⟩:=bind_some hr
 refine OkOps.q (triIdx (enc:=View.cs) (L:=v.Kids) (row:=[dI x10.Kind,dS x10.Key,.sl (List.map Attr.cs x10.Attrs),.sl (List.map Action.cs x10.Actions),.sl (List.map View.cs x10.Kids)]) hx10 (View.cs_eq _) rfl rfl rfl (fun x=>by rw [View.cs_eq];rfl) trivial rfl) ?_
 refine OkOps.y (.agg [cI x10.Kind,cS x10.Key,.d (.sl (List.map Attr.cs x10.Attrs)),.d (.sl (List.map Action.cs x10.Actions)),.d (.sl (List.map View.cs x10.Kids))]) (OkOps.m 0 (triAlloc (j:=6) (cs:=[cI 0,cS ByteArray.empty,.d (.v (.slice none 0 0)),.d (.v (.slice none 0 0)),.d (.v (.slice none 0 0))]) rfl rfl rfl rfl) (OkOps.w (triStore (cs':=[cI x10.Kind,cS x10.Key,.d (.sl (List.map Attr.cs x10.Attrs)),.d (.sl (List.map Action.cs x10.Actions)),.d (.sl (List.map View.cs x10.Kids))]) rfl rfl rfl rfl rfl rfl rfl rfl rfl) (OkOps.nil (Ok.region (OkOps.y (.c (.tl 1012 (List.map (eInt .i64) s7.1))) (OkOps.y (.c (.fn 49 [(0,0),(2,0)])) (OkOps.y (.agg [cI x10.Kind,cS x10.Key,.d (.sl (List.map Attr.cs x10.Attrs)),.d (.sl (List.map Action.cs x10.Actions)),.d (.sl (List.map View.cs x10.Kids))]) (OkOps.y (aI c0.Next) ?_))))))))
 obtain ⟨x11,hx11,hr⟩:=bind_some hr
 refine OkOps.wq [(0,.blk [cI x11.2.Root,cI x11.2.Next,.own 7] 27),(2,.blk [.fn 49 [(0,0),(2,0)]] 79),(1013,.dead),(7,.vec 7 (List.map Node.cs x11.2.Nodes))] (triCallF (caps:=[(0,0),(2,0)]) (tau [(0,0),(1,1013),(2,2),(3000,7)]) (.s (aI x11.1)) [(0,.blk [cI x11.2.Root,cI x11.2.Next,.own 7] 27),(2,.blk [.fn 49 [(0,0),(2,0)]] 79),(1013,.dead),(7,.vec 7 (List.map Node.cs x11.2.Nodes))] rfl (hself0 _ _ _ hx11) rfl ⟨.inl rfl,.inl rfl,.inl rfl,.inl rfl,trivial⟩ trivial entry49 ⟨rfl,rfl,rfl,trivial⟩ rfl rfl rfl rfl ⟨rfl,trivial⟩ rfl rfl rfl) (OkOps.m 0 (triBST (sz:=1) (enc:=(eInt .i64)) (j:=8) ([x11.1]) rfl rfl rfl rfl rfl rfl rfl rfl (fun _=>rfl) trivial rfl rfl) ?_)
 obtain ⟨x12,hx12,hr⟩:=bind_some hr
 refine OkOps.m2 0 (triApp (enc:=(eInt .i64)) (L:=s7.1) (X:=[x11.1]) (j:=1012) (j':=9) hx12 rfl rfl rfl rfl rfl rfl (fun _=>rfl) (fun _=>rfl) (by decide) trivial rfl rfl) (OkOps.y (.c (.tl 9 (List.map (eInt .i64) x12))) (OkOps.nil (Ok.region (OkOps.y (aI (IntKind.i64.wrap (s7.2.1 + 1))) (OkOps.y (aI (IntKind.i64.wrap (s7.2.1 + 1))) (OkOps.nil ?_))))))
 exact ⟨(x12,IntKind.i64.wrap (s7.2.1 + 1),x11.2.Root,x11.2.Next,x11.2.Nodes),hr,(Conv.mk (tau [(1012,9),(1013,7)]) ⟨⟨_,rfl,.inl rfl⟩,⟨_,rfl,.inl rfl⟩,⟨_,rfl,.inl rfl⟩,⟨_,rfl,.inl rfl⟩,⟨_,rfl,.inl rfl⟩,⟨_,rfl,.inl rfl⟩,⟨_,rfl,.inl rfl⟩,⟨_,rfl,.inl rfl⟩,trivial⟩ ⟨rfl,rfl,rfl,rfl,trivial⟩ rfl rfl rfl rfl)⟩
 have hr:=selF h9 hr
 refine Ok.exit ?_
 exact ⟨(s7.1,s7.2.2.1,s7.2.2.2.1,s7.2.2.2.2),hr,(Conv.mk (tau [(1007,1012),(1008,1013)]) ⟨⟨_,rfl,.inl rfl⟩,⟨_,rfl,.inl rfl⟩,⟨_,rfl,.inl rfl⟩,⟨_,rfl,.inl rfl⟩,trivial⟩ ⟨rfl,rfl,rfl,rfl,trivial⟩ rfl rfl rfl rfl)⟩
theorem vw_Build_1_all : ∀ n : Nat,(∀ (v : View) (parent : Int) (c0 : Tree) {r : Int × Tree},vw_Build_1 n v parent c0 = some r → Con Tryz.prog 49 [.agg [cI v.Kind,cS v.Key,.d (.sl (List.map Attr.cs v.Attrs)),.d (.sl (List.map Action.cs v.Actions)),.d (.sl (List.map View.cs v.Kids))],aI parent,.c (.loc 0 0),.c (.loc 2 0)] [(0,.blk [cI c0.Root,cI c0.Next,.own 1] 27),(1,.vec 7 (List.map Node.cs c0.Nodes)),(2,.blk [.fn 49 [(0,0),(2,0)]] 79)] (.s (aI r.1)) [(0,.blk [cI r.2.Root,cI r.2.Next,.own 3000] 27),(2,.blk [.fn 49 [(0,0),(2,0)]] 79),(1,.dead),(3000,.vec 7 (List.map Node.cs r.2.Nodes))]) ∧ True:=by
 intro n
 induction n with
 | zero=>exact ⟨(by intros;rename_i hr;cases hr),trivial⟩
 | succ n ih=>exact ⟨(by intros;rename_i hr;exact vw_Build_1_B_c _ ih.1 _ _ _ hr),trivial⟩
theorem vw_Build_1_c (n : Nat) (v : View) (parent : Int) (c0 : Tree) {r : Int × Tree} (hr : vw_Build_1 n v parent c0 = some r) : Con Tryz.prog 49 [.agg [cI v.Kind,cS v.Key,.d (.sl (List.map Attr.cs v.Attrs)),.d (.sl (List.map Action.cs v.Actions)),.d (.sl (List.map View.cs v.Kids))],aI parent,.c (.loc 0 0),.c (.loc 2 0)] [(0,.blk [cI c0.Root,cI c0.Next,.own 1] 27),(1,.vec 7 (List.map Node.cs c0.Nodes)),(2,.blk [.fn 49 [(0,0),(2,0)]] 79)] (.s (aI r.1)) [(0,.blk [cI r.2.Root,cI r.2.Next,.own 3000] 27),(2,.blk [.fn 49 [(0,0),(2,0)]] 79),(1,.dead),(3000,.vec 7 (List.map Node.cs r.2.Nodes))]:=(vw_Build_1_all n).1 v parent c0 hr
theorem vw_Build_c (v : View) (next : Int) {r : Tree × Int} (hr : vw_Build v next = some r) : Con Tryz.prog 28 [.agg [cI v.Kind,cS v.Key,.d (.sl (List.map Attr.cs v.Attrs)),.d (.sl (List.map Action.cs v.Actions)),.d (.sl (List.map View.cs v.Kids))],aI next] [] (.tup [.agg [cI r.1.Root,cI r.1.Next,.d (.sl (List.map Node.cs r.1.Nodes))],aI r.2]) []:=by
 unfold vw_Build at hr
 refine Con.of_ok 30 0 [.cell 4 27,.tmp 5] [(0,.s (.agg [cI v.Kind,cS v.Key,.d (.sl (List.map Attr.cs v.Attrs)),.d (.sl (List.map Action.cs v.Actions)),.d (.sl (List.map View.cs v.Kids))])),(1,.s (aI next))] Tryz.func28 rfl rfl rfl rfl rfl rfl rfl rfl fun w g M ρ _=>(Ok.seq (Ok.region (OkOps.m 0 (triBox (j:=0) (cs:=[cI v.Kind,cS v.Key,.d (.sl (List.map Attr.cs v.Attrs)),.d (.sl (List.map Action.cs v.Actions)),.d (.sl (List.map View.cs v.Kids))]) rfl rfl rfl rfl rfl) (OkOps.m 0 (triAlloc (j:=1) (cs:=[cI 0,cI 0,.d (.v (.slice none 0 0))]) rfl rfl rfl rfl) (OkOps.y (aI 0) (OkOps.nil (Ok.seq (Ok.seq (Ok.region (OkOps.y (.agg [cI v.Kind,cS v.Key,.d (.sl (List.map Attr.cs v.Attrs)),.d (.sl (List.map Action.cs v.Actions)),.d (.sl (List.map View.cs v.Kids))]) ?_))))))))))
 obtain ⟨x1,hx1,hr⟩:=bind_some hr
 refine OkOps.q (triCl (tau []) (.s (aI x1)) [] (vw_Validate_c _ hx1) rfl ⟨.inl rfl,trivial⟩ trivial entry48 trivial) (OkOps.y (aI x1) (OkOps.nil (Ok.seq (Ok.region (OkOps.y (aI x1) (OkOps.y (aB (x1 != 0)) (OkOps.nil ?_)))))))
 refine Ok.cond (b:=x1 != 0) rfl (fun h2=>?_) (fun h2=>?_)
 have hr:=selT h2 hr
 refine Ok.seq (Ok.region (OkOps.y (.agg [cI 0,cI 0,.d (.v (.slice none 0 0))]) (OkOps.y (aI x1) (OkOps.w (triStore (cs':=[cI 0,cI 0,.d (.v (.slice none 0 0))]) rfl rfl rfl rfl rfl rfl rfl rfl rfl) (OkOps.y (aI x1) (OkOps.nil (Ok.ret ?_)))))))
 obtain rfl:=Option.some.inj hr
 exact ⟨_,rfl,.inr rfl,trivial⟩
 have hr:=selF h2 hr
 refine Ok.skip (Ok.seq (Ok.seq (Ok.region (OkOps.y (aI next) (OkOps.y (aB (decide (next < 1))) (OkOps.y (aB (decide (next < 1))) (OkOps.q (triQG (x:=aI next) rfl rfl trivial rfl) (OkOps.q (triQG (x:=aB (decide (next > 1099511627376))) rfl rfl ⟨fun h=>h,trivial⟩ rfl) ?_))))))))
 refine OkOps.q (triOr rfl rfl (fun h=>by rw [h];rfl) rfl) ?_
 refine OkOps.nil ?_
 refine Ok.cond (b:=(decide (next < 1)) || (decide (next > 1099511627376))) rfl (fun h3=>?_) (fun h3=>?_)
 have hr:=selT h3 hr
 refine Ok.seq (Ok.region (OkOps.y (.agg [cI 0,cI 0,.d (.v (.slice none 0 0))]) (OkOps.w (triStore (cs':=[cI 0,cI 0,.d (.v (.slice none 0 0))]) rfl rfl rfl rfl rfl rfl rfl rfl rfl) (OkOps.y (aI 1) (OkOps.nil (Ok.ret ?_))))))
 obtain rfl:=Option.some.inj hr
 exact ⟨_,rfl,.inr rfl,trivial⟩
 have hr:=selF h3 hr
 refine Ok.skip (Ok.seq (Ok.region (OkOps.y (aI next) (OkOps.y (aI next) (OkOps.y (.agg [cI next,cI next,.d (.v (.slice none 0 0))]) (OkOps.m 0 (triAlloc (j:=2) (cs:=[cI 0,cI 0,.d (.v (.slice none 0 0))]) rfl rfl rfl rfl) (OkOps.w (triStore (cs':=[cI next,cI next,.d (.v (.slice none 0 0))]) rfl rfl rfl rfl rfl rfl rfl rfl rfl) (OkOps.nil (Ok.seq (Ok.region (OkOps.m 0 (triAlloc (j:=3) (cs:=[.d (.v .nilFunc)]) rfl rfl rfl rfl) (OkOps.nil (Ok.seq (Ok.region (OkOps.q (triMkF [(2,0),(3,0)] rfl trivial rfl) ?_)))))))))))))))
 refine OkOps.w (triStore (cs':=[.fn 49 [(2,0),(3,0)]]) rfl rfl rfl rfl rfl rfl rfl rfl rfl) (OkOps.nil (Ok.seq (Ok.region (OkOps.y (.c (.fn 49 [(2,0),(3,0)])) (OkOps.y (.agg [cI v.Kind,cS v.Key,.d (.sl (List.map Attr.cs v.Attrs)),.d (.sl (List.map Action.cs v.Actions)),.d (.sl (List.map View.cs v.Kids))]) (OkOps.conv (Conv.nilB 2 2 4 (.vec 7 (List.map Node.cs ([] : (List Node)))) (.own 4) [cI next,cI next,.d (.v (.slice none 0 0))] [cI next,cI next,.own 4] 27 0 rfl rfl rfl rfl (nil_vec Node.cs 7 4) (fun _ _ h=>h.symm)) ?_))))))
 obtain ⟨x4,hx4,hr⟩:=bind_some hr
 refine OkOps.wq [(2,.blk [cI x4.2.Root,cI x4.2.Next,.own 5] 27),(3,.blk [.fn 49 [(2,0),(3,0)]] 79),(4,.dead),(5,.vec 7 (List.map Node.cs x4.2.Nodes))] (triCallF (caps:=[(2,0),(3,0)]) (tau [(0,2),(1,4),(2,3),(3000,5)]) (.s (aI x4.1)) [(2,.blk [cI x4.2.Root,cI x4.2.Next,.own 5] 27),(3,.blk [.fn 49 [(2,0),(3,0)]] 79),(4,.dead),(5,.vec 7 (List.map Node.cs x4.2.Nodes))] rfl (vw_Build_1_c _ _ _ _ hx4) rfl ⟨.inl rfl,.inl rfl,.inl rfl,.inl rfl,trivial⟩ trivial entry49 ⟨rfl,rfl,rfl,trivial⟩ rfl rfl rfl rfl ⟨rfl,trivial⟩ rfl rfl rfl) (OkOps.nil (Ok.seq (Ok.region (OkOps.y (.agg [cI x4.2.Root,cI x4.2.Next,.own 5]) (OkOps.w (triStoreF (cs':=[cI x4.2.Root,cI x4.2.Next,.own 5]) rfl rfl rfl rfl rfl rfl rfl rfl) (OkOps.y (aI 0) (OkOps.nil (Ok.conv (Conv.freezeV (enc:=Node.cs) (L:=x4.2.Nodes) [(29,.s (.agg [cI x4.2.Root,cI x4.2.Next,.d (.sl (List.map Node.cs x4.2.Nodes))]))] [(1,.blk [cI x4.2.Root,cI x4.2.Next,.d (.sl (List.map Node.cs x4.2.Nodes))] 27),(2,.blk [cI x4.2.Root,cI x4.2.Next,.d (.sl (List.map Node.cs x4.2.Nodes))] 27)] 5 0 rfl (fun _=>rfl) ⟨⟨_,rfl,rfl⟩,trivial⟩ ⟨⟨_,_,rfl,rfl⟩,⟨_,_,rfl,rfl⟩,trivial⟩) (Ok.ret ?_)))))))))
 obtain rfl:=Option.some.inj hr
 exact ⟨_,rfl,.inl rfl,trivial⟩
theorem entry28 : Entry Tryz.prog 28:=⟨_,Tryz.func28,by kernel_rfl,by kernel_rfl⟩
theorem l14_awake_c  {r : Bool} (hr : l14_awake  = some r) : Con Tryz.prog 9 [] [] (.s (aB r)) []:=by
 unfold l14_awake at hr
 refine Con.of_ok 41 0 [.tmp 0] [] Tryz.func9 rfl rfl rfl rfl rfl rfl rfl rfl fun w g M ρ _=>(Ok.seq (Ok.region (OkOps.y (aB false) (OkOps.nil (Ok.seq (Ok.region (OkOps.y (.agg [cI 2,cS ByteArray.empty,.d (.v (.slice none 0 0)),.d (.v (.slice none 0 0)),.d (.v (.slice none 0 0))]) (OkOps.y (.agg [cI 3,cS (ByteArray.mk #[98]),.d (.v (.slice none 0 0)),.d (.v (.slice none 0 0)),.d (.v (.slice none 0 0))]) ?_))))))))
 refine OkOps.m 0 (triBST (sz:=5) (enc:=View.cs) (j:=0) ([(View.mk 2 ByteArray.empty ([] : (List Attr)) ([] : (List Action)) ([] : (List View))),(View.mk 3 (ByteArray.mk #[98]) ([] : (List Attr)) ([] : (List Action)) ([] : (List View)))]) rfl rfl rfl rfl rfl (rows:=[[dI 2,dS ByteArray.empty,.sl [],.sl [],.sl []],[dI 3,dS (ByteArray.mk #[98]),.sl [],.sl [],.sl []]]) (by simp only [List.map,View.cs_eq]) rfl rfl (fun x=>by rw [View.cs_eq];rfl) trivial rfl rfl) ?_
 refine OkOps.y (.agg [cI 1,cS ByteArray.empty,.d (.v (.slice none 0 0)),.d (.v (.slice none 0 0)),.tl 0 (List.map View.cs ([(View.mk 2 ByteArray.empty ([] : (List Attr)) ([] : (List Action)) ([] : (List View))),(View.mk 3 (ByteArray.mk #[98]) ([] : (List Attr)) ([] : (List Action)) ([] : (List View)))]))]) (OkOps.m 0 (triAlloc (j:=1) (cs:=[cI 0,cS ByteArray.empty,.d (.v (.slice none 0 0)),.d (.v (.slice none 0 0)),.d (.v (.slice none 0 0))]) rfl rfl rfl rfl) (OkOps.w (triStore (cs':=[cI 1,cS ByteArray.empty,.d (.v (.slice none 0 0)),.d (.v (.slice none 0 0)),.tl 0 (List.map View.cs ([(View.mk 2 ByteArray.empty ([] : (List Attr)) ([] : (List Action)) ([] : (List View))),(View.mk 3 (ByteArray.mk #[98]) ([] : (List Attr)) ([] : (List Action)) ([] : (List View)))]))]) rfl rfl rfl rfl rfl rfl rfl rfl rfl) (OkOps.nil (Ok.seq (Ok.region (OkOps.y (.agg [cI 1,cS ByteArray.empty,.d (.v (.slice none 0 0)),.d (.v (.slice none 0 0)),.tl 0 (List.map View.cs ([(View.mk 2 ByteArray.empty ([] : (List Attr)) ([] : (List Action)) ([] : (List View))),(View.mk 3 (ByteArray.mk #[98]) ([] : (List Attr)) ([] : (List Action)) ([] : (List View)))]))]) ?_))))))
 obtain ⟨x1,hx1,hr⟩:=bind_some hr
 refine OkOps.q (triCl (tau []) (.tup [.agg [cI x1.1.Root,cI x1.1.Next,.d (.sl (List.map Node.cs x1.1.Nodes))],aI x1.2]) [] (vw_Build_c _ _ hx1) rfl ⟨.inr rfl,.inl rfl,trivial⟩ trivial entry28 trivial) (OkOps.q (triMv (v:=.tup [.agg [cI x1.1.Root,cI x1.1.Next,.d (.sl (List.map Node.cs x1.1.Nodes))],aI x1.2]) rfl rfl) (OkOps.y (.agg [cI x1.1.Root,cI x1.1.Next,.d (.sl (List.map Node.cs x1.1.Nodes))]) (OkOps.y (aI x1.2) (OkOps.m 0 (triAlloc (j:=2) (cs:=[cI 0,cI 0,.d (.v (.slice none 0 0))]) rfl rfl rfl rfl) (OkOps.w (triStore (cs':=[cI x1.1.Root,cI x1.1.Next,.d (.sl (List.map Node.cs x1.1.Nodes))]) rfl rfl rfl rfl rfl rfl rfl rfl rfl) (OkOps.y (aI x1.2) (OkOps.nil (Ok.seq (Ok.region (OkOps.y (aI x1.2) (OkOps.y (aB (x1.2 == 0)) (OkOps.y (aB (x1.2 == 0)) (OkOps.q (triQG (x:=.c (.loc 2 2)) rfl rfl trivial rfl) (OkOps.q (triQG (x:=.c (.d (.sl (List.map Node.cs x1.1.Nodes)))) rfl rfl ⟨fun h=>h,trivial⟩ rfl) (OkOps.q (triLenG (enc:=Node.cs) x1.1.Nodes rfl rfl rfl ⟨fun h=>h,trivial⟩ rfl) ?_)))))))))))))))
 refine OkOps.q (triQG (x:=aB ((x1.1.Nodes.length : Int) == 3)) rfl rfl ⟨fun h=>h,trivial⟩ rfl) (OkOps.q (triAnd rfl rfl (fun h=>h) rfl) (OkOps.y (aB ((x1.2 == 0) && ((x1.1.Nodes.length : Int) == 3))) (OkOps.q (triQG (x:=.c (.loc 2 0)) rfl rfl trivial rfl) (OkOps.q (triQG (x:=aI x1.1.Root) rfl rfl ⟨fun h=>h,trivial⟩ rfl) (OkOps.q (triQG (x:=aB (x1.1.Root == 5)) rfl rfl ⟨fun h=>h,trivial⟩ rfl) (OkOps.q (triAnd rfl rfl (fun h=>h) rfl) (OkOps.y (aB (((x1.2 == 0) && ((x1.1.Nodes.length : Int) == 3)) && (x1.1.Root == 5))) (OkOps.q (triQG (x:=.c (.loc 2 1)) rfl rfl trivial rfl) (OkOps.q (triQG (x:=aI x1.1.Next) rfl rfl ⟨fun h=>h,trivial⟩ rfl) (OkOps.q (triQG (x:=aB (x1.1.Next == 8)) rfl rfl ⟨fun h=>h,trivial⟩ rfl) (OkOps.q (triAnd rfl rfl (fun h=>h) rfl) (OkOps.y (aB ((((x1.2 == 0) && ((x1.1.Nodes.length : Int) == 3)) && (x1.1.Root == 5)) && (x1.1.Next == 8))) (OkOps.q (triQG (x:=.agg [cI x1.1.Root,cI x1.1.Next,.d (.sl (List.map Node.cs x1.1.Nodes))]) rfl rfl trivial rfl) ?_)))))))))))))
 obtain ⟨x2,hx2,hr⟩:=bind_some hr
 refine OkOps.q (triCallG (x:=aS x2) (fun hg=>vw_PathName_c _ _ (gO_t hx2 hg)) rfl rfl ⟨.inl rfl,.inl rfl,trivial⟩ ⟨fun h=>h,trivial⟩ entry26 rfl rfl rfl) (OkOps.q (triQG (x:=aB (x2.toList == (ByteArray.mk #[47,35,49,46,48,47,98]).toList)) rfl rfl ⟨fun h=>h,trivial⟩ rfl) (OkOps.q (triAnd rfl rfl (fun h=>h) rfl) (OkOps.y (aB (((((x1.2 == 0) && ((x1.1.Nodes.length : Int) == 3)) && (x1.1.Root == 5)) && (x1.1.Next == 8)) && (x2.toList == (ByteArray.mk #[47,35,49,46,48,47,98]).toList))) (OkOps.q (triQG (x:=.agg [cI x1.1.Root,cI x1.1.Next,.d (.sl (List.map Node.cs x1.1.Nodes))]) rfl rfl trivial rfl) ?_))))
 obtain ⟨x3,hx3,hr⟩:=bind_some hr
 refine OkOps.q (triCallG (x:=aI x3) (fun hg=>vw_Check_c _ (gO_t hx3 hg)) rfl rfl ⟨.inl rfl,trivial⟩ ⟨fun h=>h,trivial⟩ entry16 rfl rfl rfl) (OkOps.q (triQG (x:=aB (x3 == 0)) rfl rfl ⟨fun h=>h,trivial⟩ rfl) (OkOps.q (triAnd rfl rfl (fun h=>h) rfl) (OkOps.y (aB ((((((x1.2 == 0) && ((x1.1.Nodes.length : Int) == 3)) && (x1.1.Root == 5)) && (x1.1.Next == 8)) && (x2.toList == (ByteArray.mk #[47,35,49,46,48,47,98]).toList)) && (x3 == 0))) (OkOps.nil (Ok.ret ?_)))))
 obtain rfl:=Option.some.inj hr
 exact ⟨_,rfl,.inl rfl,trivial⟩
theorem entry9 : Entry Tryz.prog 9:=⟨_,Tryz.func9,by kernel_rfl,by kernel_rfl⟩
end Go.Proofs.YtcfegecdlbbeaaaGreatDoor
end
section
namespace Go.E2
variable {P : Program} {C : Ctx} {F : FS} {ops : Array Oper} {dst : Nat} {op : Op} {ty : TypeId} {pos : String} {after : Array Edge}
theorem appendV_runV {α : Type} {enc : α → List D} {L X R : List α} {M : Mem} {w : World} {x : Value} {ts tx e sz : Nat} {v0 : Value} {ρ0 : Env} {j j' : Nat} (ht : slInfo P ts = some (e,sz)) (hx' : isSl P tx = true) (hby : bytesOk P e = true) (hsz : allR sz enc) (hone : ∀ x,rowOne (enc x) = true)
  (happ : appO L X = some R) (hx : Rep M (.sl (X.map enc)) x) (hrm : InW M w) (hiv : Inv1 ρ0 M w (.vec sz (L.map enc)) v0) :
  ∃ u w',(Builtin.append_ #[ts,tx] ty #[v0,x]).run P w = .ok u w' ∧ ∀ ρ' bl bl',bl j = some (.vec sz (L.map enc)) → RelW C bl ρ' M w → ρ' j' = u → (∀ k o,bl' k = some o → o = .dead ∨ (k = j' ∧ o = .vec sz (R.map enc)) ∨ (bl k = some o ∧ k ≠ j)) → ρ' j = v0 → RelW C bl' ρ' M w':=by
 obtain ⟨hlen,rfl⟩:=appO_spec happ
 obtain ⟨hu,inf,hinf,hisz⟩:=slInfo_spec ht
 obtain ⟨sa,scap,e1,hcap,hvx⟩:=vec_flat hiv
 obtain ⟨xa,xcap,rfl⟩:=hx.sl_cases
 simp only [List.length_map] at hx ⊢
 obtain ⟨news,hn1,hn2⟩:=firstCells_run (P:=P) (w:=w) hx (rows_map hsz X) hrm
 simp only [List.length_map] at hn1
 have hnl : news.length = X.length * sz:=by rw [hn2.len,flatten_len (rows_map hsz X),List.length_map]
 obtain ⟨e',htt⟩ : ∃ e',(underlying tx).run P w = .ok (.slice e') w:=by
  unfold isSl at hx'
  split at hx'
  ·rename_i e' hu'
   exact ⟨e',by simp [underlying,program,Sem.run,hu']⟩
  ·cases hx'
 have hLX : (L ++ X).length = L.length + X.length:=by simp
 have hflat : ((L ++ X).map enc).flatten = (L.map enc).flatten ++ (X.map enc).flatten:=by rw [List.map_append,List.flatten_append]
 have hmul : (L.length + X.length) * sz = L.length * sz + X.length * sz:=Nat.add_mul ..
 rw [e1]
 by_cases hfit : L.length + X.length ≤ scap
 ·by_cases hcap0 : 0 < scap
  ·obtain ⟨b,off,arr,ty',vs,rfl,hb,hroom,hnone,hvs,hvc⟩:=hvx hcap0
   have hvl : vs.length = L.length * sz:=by rw [hvs.len,flatten_len (rows_map hsz L),List.length_map]
   have hroom' : off + (L.length + X.length) * sz ≤ arr.size:=Nat.le_trans (Nat.add_le_add_left (Nat.mul_le_mul_right sz hfit) off) hroom
   obtain ⟨w',q1,q2,q3,q4,q5,q6,q7⟩:=storeCells_run (P:=P) (b:=b) (off:=off + L.length * sz) (ty:=ty') news 0 w arr hb (rowOne_rep (rowOne_flat hone X) hn2) (by omega)
   rw [Nat.add_zero] at q2
   refine ⟨.slice (some ⟨b,off,none⟩) (L.length + X.length) scap,w',?_,fun ρ' bl bl' hj hr' hρ' hbl hρj=>?_⟩
   ·unfold Builtin.append_
    simp only [List.getElem?_toArray,List.getElem?_cons_zero,List.getElem?_cons_succ]
    rw [run_bind_ok (slInfo_under ht w)]
    simp only
    rw [run_bind_ok (slInfo_size ht w)]
    simp only [pure_bind]
    rw [run_bind_ok htt]
    simp only [Bool.false_eq_true,if_false,Builtin.lenOf,pure_bind,Bool.not_false,if_true]
    rw [if_pos hfit,run_bind_ok hn1]
    simp only [add_none]
    rw [run_bind_ok q1]
    rfl
   ·have hρj' : ρ' j = .slice (some ⟨b,off,none⟩) L.length scap:=by first | exact hρj | exact hρj.trans e1
    have hown : (Ob.vec sz (L.map enc)).blkOf (ρ' j) = some b:=by rw [hρj'];simp [Ob.blkOf,hcap0]
    refine hr'.change j' (fun x=>x = b) ?_ ⟨q5,q6,q7,Nat.le_of_eq q4.symm⟩ (fun x _ hx=>q3 x hx) (Mem.le_refl _) (fun _ _ _=>⟨fun _=>rfl,rfl⟩) ?_ (fun k o hk=>?_)
    ·rintro x rfl _
     exact hr'.priv j _ _ hj hown
    ·rintro x (rfl | hx)
     ·exact ⟨fun o v hv=>(by rw [hnone o] at hv;cases hv),fun o ho=>(by rw [hr'.mem.noObj hb] at ho;cases ho)⟩
     ·have:=hr'.mem.none hx
      exact ⟨fun o v hv=>(by rw [this.1 o] at hv;cases hv),fun o ho=>(by rw [this.2] at ho;cases ho)⟩
    ·rcases hbl k o hk with rfl | ⟨rfl,rfl⟩ | ⟨h1,h2⟩
     ·exact .inl rfl
     ·refine .inr (.inr ⟨rfl,?_,fun x hx=>.inl ?_⟩)
      ·rw [hρ',← hLX]
       refine vec_of (vs:=vs ++ news) hsz (by rw [hLX];exact hfit) q2 (by simp [setV_len];exact hroom) hnone (by rw [hflat];exact hvs.append hn2) (fun q u hq=>?_)
       rw [List.getElem?_toArray,setV_get _ _ _ _ (by have : arr.toList.length = arr.size:=Array.length_toList;omega)]
       rcases Nat.lt_or_ge q vs.length with h1 | h1
       ·rw [List.getElem?_append_left h1] at hq
        rw [if_neg (by omega)]
        simpa using hvc q u hq
       ·rw [List.getElem?_append_right h1] at hq
        have h3:=(List.getElem?_eq_some_iff.1 hq).1
        rw [if_pos (by omega),show off + q - (off + L.length * sz) = q - vs.length by omega];exact hq
      ·rw [hρ'] at hx
       simp only [Ob.blkOf,hcap0,if_true,Option.some.injEq] at hx
       exact hx.symm
     ·refine .inr (.inl ⟨h1,fun x hx hS=>?_⟩)
      subst hS
      exact h2 (hr'.dist k j _ _ _ h1 hj hx hown)
  ·have hL : L = []:=List.eq_nil_of_length_eq_zero (by omega)
   have hX : X = []:=List.eq_nil_of_length_eq_zero (by omega)
   subst hL hX
   have hc0 : scap = 0:=by omega
   subst hc0
   have hn0 : news = []:=by apply List.eq_nil_of_length_eq_zero;rw [hnl];simp
   subst hn0
   refine ⟨.slice sa 0 0,w,?_,fun ρ' bl bl' hj hr' hρ' hbl hρj=>?_⟩
   ·unfold Builtin.append_
    simp only [List.getElem?_toArray,List.getElem?_cons_zero,List.getElem?_cons_succ]
    rw [run_bind_ok (slInfo_under ht w)]
    simp only
    rw [run_bind_ok (slInfo_size ht w)]
    simp only [pure_bind]
    rw [run_bind_ok htt]
    simp only [Bool.false_eq_true,if_false,Builtin.lenOf,pure_bind,Bool.not_false,if_true]
    rw [if_pos hfit,run_bind_ok hn1]
    cases sa <;> rfl
   ·refine hr'.change j' (fun _=>False) (fun _ h=>h.elim) ⟨rfl,rfl,rfl,Nat.le_refl _⟩ (fun _ _ _=>rfl) (Mem.le_refl _) (fun _ _ _=>⟨fun _=>rfl,rfl⟩) (fun b _=>⟨fun o v hv=>hr'.mem.cell b o v hv,fun o ho=>hr'.mem.obj b o ho⟩) (fun k o hk=>?_)
    rcases hbl k o hk with rfl | ⟨rfl,rfl⟩ | ⟨h1,h2⟩
    ·exact .inl rfl
    ·refine .inr (.inr ⟨rfl,?_,fun x hx=>?_⟩)
     ·rw [hρ']
      exact ⟨sa,0,rfl,Nat.le_refl _,fun i row hi=>by simp at hi,fun h=>absurd h (by omega)⟩
     ·rw [hρ'] at hx
      cases sa with
      | none=>cases hx
      | some a=>simp [Ob.blkOf] at hx
    ·exact .inr (.inl ⟨h1,fun _ _ h=>h⟩)
 ·-- a new row
  have hby' : ∃ zv,inf.zero = some zv ∧ zv.cells.size = inf.size ∧ inf.bytes ≤ 65536:=by
   unfold bytesOk at hby
   rw [hinf] at hby
   simp only at hby
   split at hby
   ·rename_i zv hz
    split at hby
    ·rename_i hq;exact ⟨zv,hz,Nat.eq_of_beq_eq_true hq,Nat.le_of_ble_eq_true hby⟩
    ·cases hby
   ·cases hby
  obtain ⟨zv,hzv,hzsz,hbytes⟩:=hby'
  have hti : ∀ w : World,(typeInfo e).run P w = .ok inf w:=fun w=>by simp [typeInfo,program,Sem.run,hinf]
  have hzr : ∀ w : World,(zeroValue e).run P w = .ok zv w:=fun w=>by simp [zeroValue,typeInfo,program,Sem.run,hinf,hzv]
  have hnc:=nextcap_le (n:=L.length + X.length) (c:=scap) (by omega)
  have hnb : Builtin.nextslicecap (L.length + X.length) scap * inf.bytes ≤ 2 ^ 48:=by
   have h1 : Builtin.nextslicecap (L.length + X.length) scap ≤ 2147483840:=by omega
   exact Nat.le_trans (Nat.mul_le_mul h1 hbytes) (by decide)
  obtain ⟨newCap,hnc2,w1,hw1,hch⟩ : ∃ newCap,L.length + X.length ≤ newCap ∧ ∃ w1 : World,w1 = { w with drawn:=w.drawn + 1 } ∧ ∀ (K : Nat → Sem Value),(choose (.appendCap (L.length + X.length) scap e) >>= K).run P w = (K newCap).run P w1 :=
   ⟨(Question.appendCap (L.length + X.length) scap e).cut (w.tape w.drawn (.appendCap (L.length + X.length) scap e)),by simp [Question.cut],_,rfl,fun K=>by simp [choose,Sem.run,Question.forced,bind,Sem.bind]⟩
  have hin1 : InW M w1:=by subst hw1;exact ⟨hrm.cell,hrm.obj⟩
  have hold : ∃ olds,(Builtin.firstCells sz L.length (.slice sa L.length scap)).run P w1 = .ok olds.toArray w1 ∧ RepsD M (L.map enc).flatten olds:=by
   by_cases hcap0 : 0 < scap
   ·obtain ⟨b,off,arr,ty',vs,rfl,hb,hroom,hnone,hvs,hvc⟩:=hvx hcap0
    have hvl : vs.length = L.length * sz:=by rw [hvs.len,flatten_len (rows_map hsz L),List.length_map]
    refine ⟨vs,?_,hvs⟩
    show (loadCells ⟨b,off,none⟩ (L.length * sz)).run P w1 = _
    rw [← hvl]
    refine loadCells_run vs (fun i v hi=>?_)
    have:=hvc i v hi
    simp only [World.cell?,hw1,hb]
    simpa using this
   ·have hL : L = []:=List.eq_nil_of_length_eq_zero (by omega)
    subst hL
    refine ⟨[],?_,trivial⟩
    cases sa with
    | none=>rfl
    | some a =>
     show (loadCells a (0 * sz)).run P w1 = _
     rw [Nat.zero_mul];rfl
  obtain ⟨olds,ho3,ho4⟩:=hold
  obtain ⟨news1,hn3,hn4⟩:=firstCells_run (P:=P) (w:=w1) hx (rows_map hsz X) hin1
  simp only [List.length_map] at hn3
  have hol : olds.length = L.length * sz:=by rw [ho4.len,flatten_len (rows_map hsz L),List.length_map]
  have hnl1 : news1.length = X.length * sz:=by rw [hn4.len,flatten_len (rows_map hsz X),List.length_map]
  have hroomr : ∀ n,∀ w : World,(askRoom n).run P w = .ok () w:=fun n w=>by
   unfold askRoom;split <;> rfl
  let rest:=Builtin.zeroCells zv.cells (newCap - (L.length + X.length))
  have hw1h : w1.heap = w.heap:=by rw [hw1]
  refine ⟨.slice (some ⟨w.heap.size,0,none⟩) (L.length + X.length) newCap,w1.alloc (.cells (olds ++ news1 ++ rest.toList).toArray e),?_,fun ρ' bl bl' hj hr' hρ' hbl hρj=>?_⟩
  ·unfold Builtin.append_
   simp only [List.getElem?_toArray,List.getElem?_cons_zero,List.getElem?_cons_succ]
   rw [run_bind_ok (slInfo_under ht w)]
   simp only
   rw [run_bind_ok (slInfo_size ht w)]
   simp only [pure_bind]
   rw [run_bind_ok htt]
   simp only [Bool.false_eq_true,if_false,Builtin.lenOf,pure_bind,Bool.not_false,if_true]
   rw [if_neg hfit,run_bind_ok (hti w)]
   rw [if_neg (by
    intro h
    have h1:=h.1
    have h2 : IntKind.i64.max = 9223372036854775807:=by decide
    rw [h2] at h1
    omega)]
   rw [run_bind_ok (hti w)]
   rw [if_neg (by omega),hch]
   rw [run_bind_ok (hti w1),run_bind_ok (hroomr _ w1),run_bind_ok ho3,run_bind_ok hn3,run_bind_ok (hzr w1)]
   have e1 : olds.toArray ++ news1.toArray ++ rest = (olds ++ news1 ++ rest.toList).toArray:=by apply Array.ext';simp
   show (do let y ← newRow e (olds.toArray ++ news1.toArray ++ rest);pure (Value.slice (some y) (L.length + X.length) newCap) : Sem Value).run P w1 = _
   rw [e1,← hw1h]
   rfl
  ·have hr1 : RelW C bl ρ' M w1:=by subst hw1;exact hr'.drew _
   refine hr1.change j' (fun _=>False) (fun _ h=>h.elim) ⟨rfl,rfl,rfl,by rw [alloc_heap];simp⟩ (fun b hb _=>alloc_old hb) (Mem.le_refl _) (fun _ _ _=>⟨fun _=>rfl,rfl⟩) (fun b hb=>?_) (fun k o hk=>?_)
   ·rcases hb with hb | hb
    ·exact hb.elim
    ·have:=hr1.mem.none hb
     exact ⟨fun o v hv=>(by rw [this.1 o] at hv;cases hv),fun o ho=>(by rw [this.2] at ho;cases ho)⟩
   ·rcases hbl k o hk with rfl | ⟨rfl,rfl⟩ | ⟨h1,h2⟩
    ·exact .inl rfl
    ·refine .inr (.inr ⟨rfl,?_,fun x hx=>.inr ?_⟩)
     ·rw [hρ',← hLX,← hw1h]
      refine vec_of (vs:=olds ++ news1) hsz (by rw [hLX];exact hnc2) (alloc_new _ _) ?_ (fun o=>(hin1.none (Nat.le_refl _)).1 o) (by rw [hflat];exact ho4.append hn4) (fun q u hq=>?_)
      ·have hrs : rest.size = (newCap - (L.length + X.length)) * sz:=by simp [rest,Builtin.zeroCells,hzsz,hisz]
       have h5 : newCap * sz = (L.length + X.length) * sz + (newCap - (L.length + X.length)) * sz:=by rw [← Nat.add_mul];congr 1;omega
       simp only [List.size_toArray,List.length_append,Array.length_toList]
       omega
      ·have hql:=(List.getElem?_eq_some_iff.1 hq).1
       rw [Nat.zero_add,List.getElem?_toArray,List.getElem?_append_left hql];exact hq
     ·rw [hρ'] at hx
      simp only [Ob.blkOf] at hx
      split at hx
      ·cases hx;rw [hw1h];exact Nat.le_refl _
      ·cases hx
    ·exact .inr (.inl ⟨h1,fun _ _ h=>h⟩)
theorem RelW.ghost {bl : Nat → Option Ob} {ρ : Env} {M : Mem} {w : World} {sz j : Nat} (h : RelW C bl ρ M w) (hj : ρ j = .slice none 0 0) : RelW C (over [(j,.vec sz [])] bl) ρ M w:=by
 have key : ∀ k o,over [(j,Ob.vec sz [])] bl k = some o → (k = j ∧ o = .vec sz []) ∨ (k ≠ j ∧ bl k = some o):=fun k o hk=>by
  rw [over_one] at hk
  by_cases e : j = k
  ·subst e;rw [if_pos rfl] at hk;cases hk;exact .inl ⟨rfl,rfl⟩
  ·rw [if_neg e] at hk;exact .inr ⟨fun e'=>e e'.symm,hk⟩
 have hno : ∀ b,(Ob.vec sz []).blkOf (ρ j) ≠ some b:=fun b hb=>by rw [hj] at hb;cases hb
 refine ⟨fun k o hk=>?_,fun i k x y b hi hk hx hy=>?_,fun k o b hk hb=>?_,h.mem,h.base,h.fresh,h.kept,h.names⟩
 ·rcases key k o hk with ⟨rfl,rfl⟩ | ⟨_,h2⟩
  ·rw [hj];exact ⟨none,0,rfl,Nat.le_refl _,fun i row hi=>by simp at hi,fun h=>absurd h (Nat.lt_irrefl _)⟩
  ·exact h.inv k o h2
 ·rcases key i x hi with ⟨rfl,rfl⟩ | ⟨_,h2⟩
  ·exact absurd hx (hno b)
  ·rcases key k y hk with ⟨rfl,rfl⟩ | ⟨_,h3⟩
   ·exact absurd hy (hno b)
   ·exact h.dist i k x y b h2 h3 hx hy
 ·rcases key k o hk with ⟨rfl,rfl⟩ | ⟨_,h2⟩
  ·exact absurd hb (hno b)
  ·exact h.priv k o b h2 hb
theorem triAppV0 {α : Type} {enc : α → List D} {X R : List α} {ts tx e sz : Nat} {s x : Operand} {j j' : Nat} (happ : appO [] X = some R) (hs : rdV F s = some (.slice none 0 0)) (hx : rdS F x = some (X.map enc)) (ht : slInfo P ts = some (e,sz)) (htx : isSl P tx = true) (hby : bytesOk P e = true) (hsz : allR sz enc) (hone : ∀ x,rowOne (enc x) = true)
  (hsd : sideOk F true [s,x]) (hd : Nat.blt dst C.n = true) (hj : F.bl j = none) (hj' : F.bl j' = none) (hne : j' ≠ j) :
  TriL P C ops ⟨some dst,.call ⟨.builtin .append,#[s,x],#[ts,tx]⟩,ty,pos,after,none⟩ ⟨slotsOf [s,x],[j,j'],[dst],[j',j]⟩ [(dst,.s (.c (.own j')))] [(j',.vec sz (R.map enc)),(j,.dead)] F:=by
 refine ⟨⟨rfl,rfl⟩,fun F' hS=>?_⟩
 have h1:=opnd_same hS.1
 have hj1 : F'.bl j = none:=(hS.2 j (by simp)).trans hj
 have hj2 : F'.bl j' = none:=(hS.2 j' (by simp)).trans hj'
 refine Tri.val [j',j] rfl rfl hd (fun k hk=>by simp at hk;rcases hk with rfl | rfl;exact hj2;exact hj1) (fun k hk=>dom_over hk) (fun k hk=>?_) (fun ρ M a w hr=>?_)
 ·unfold over
  rw [look_cons,look_cons]
  simp at hk
  by_cases e1 : j' = k
  ·rw [if_pos e1];exact fun h=>by cases h
  ·rw [if_neg e1]
   rcases hk with rfl | rfl
   ·exact absurd rfl e1
   ·rw [if_pos rfl];exact fun h=>by cases h
 have hR:=reads_of hr rfl (sideOk_same h1 hsd)
 have es : a.eval s = .slice none 0 0:=rdV_eval hR (by simp) ((rdV_same (h1 s (by simp))).trans hs)
 have hrx:=rdS_rep hR (by simp) ((rdS_same (h1 x (by simp))).trans hx)
 obtain ⟨u,w',g1,g4⟩:=appendV_runV (P:=P) (C:=C) (ty:=ty) (j:=j) (j':=j') (L:=[]) (v0:=.slice none 0 0) (ρ0:=ρ) ht htx hby hsz hone happ hrx hr.heap.mem ⟨none,0,rfl,Nat.le_refl _,fun i row hi=>by simp at hi,fun h=>absurd h (Nat.lt_irrefl _)⟩
 refine ⟨u,w',M,fun k=>if k = j' then u else .slice none 0 0,?_,Mem.le_refl _,fun ρ' h0 hnv=>?_⟩
 ·unfold execOp
  simp only [resolve,List.map_toArray,List.map_cons,List.map_nil,pure_bind,invoke,es]
  exact bind_value g1
 ·have e1 : ρ' j' = u:=(hnv j' (by simp)).trans (if_pos rfl)
  have e2 : ρ' j = .slice none 0 0:=(hnv j (by simp)).trans (if_neg (fun e=>hne e.symm))
  refine ⟨e1.symm,?_⟩
  refine g4 ρ' (over [(j,.vec sz [])] F'.bl) _ (show over [(j,Ob.vec sz [])] F'.bl j = some (.vec sz (([] : List α).map enc)) by rw [over_one,if_pos rfl];rfl) (h0.heap.ghost e2) e1 (fun k o hk=>?_) e2
  have hk' : over [(j',Ob.vec sz (R.map enc)),(j,Ob.dead)] F'.bl k = some o:=hk
  unfold over at hk'
  rw [look_cons,look_cons] at hk'
  by_cases e1 : j' = k
  ·subst e1;rw [if_pos rfl] at hk';cases hk';exact .inr (.inl ⟨rfl,rfl⟩)
  ·rw [if_neg e1] at hk'
   by_cases e2 : j = k
   ·subst e2;rw [if_pos rfl] at hk';cases hk';exact .inl rfl
   ·rw [if_neg e2] at hk'
    exact .inr (.inr ⟨by rw [over_one,if_neg e2];exact hk',fun e=>e2 e.symm⟩)
theorem loadVF_run {α : Type} {enc : α → List D} {L : List α} {ρ : Env} {M : Mem} {w : World} {j sz t k fo : Nat} {y : α} {x : A1} (hv : Inv1 ρ M w (.vec sz (L.map enc)) (ρ j)) (hsz : allR sz enc) (hy : L[k]? = some y) (ht : takeA P t (dcells (enc y)) fo = some x) :
  ∃ u,(Instr.loadAt t (vptr ρ j (k * sz + fo))).run P w = .ok u w ∧ x.rep ρ M u:=by
 have hk : k < L.length:=(List.getElem?_eq_some_iff.1 hy).1
 obtain ⟨a,cap,e1,hc,hx⟩:=vec_flat hv
 obtain ⟨b,off,arr,ty',vs,rfl,h1,h2,h3,h4,h5⟩:=hx (by omega)
 have hrow : (L.map enc)[k]? = some (enc y):=by simp [hy]
 have hkey : ∀ (row : List D) (m : Nat),(∀ (i : Nat) d,row[i]? = some d → (enc y)[m + i]? = some d) → ∃ us,Reps ρ M (dcells row) us ∧ ∀ (i : Nat) v,us[i]? = some v → w.cell? ⟨b,off + k * sz + m + i,none⟩ = some v:=by
  intro row
  induction row with
  | nil=>intro m _;exact ⟨[],trivial,fun i v hv=>by simp at hv⟩
  | cons d r ih =>
   intro m hm
   have hd : (enc y)[m]? = some d:=by simpa using hm 0 d rfl
   obtain ⟨us,r1,r2⟩:=ih (m + 1) (fun i d' hi=>by
    have:=hm (i + 1) d' (by simpa using hi)
    rw [show m + 1 + i = m + (i + 1) by omega];exact this)
   have hml : m < sz:=by rw [← hsz y];exact (List.getElem?_eq_some_iff.1 hd).1
   obtain ⟨u,g1,g2⟩:=h4.get (k * sz + m) d (by rw [flatten_get (rows_map hsz L) k m (enc y) hrow hml];exact hd)
   refine ⟨u :: us,⟨g2,r1⟩,fun i v hv=>?_⟩
   cases i with
   | zero =>
    simp at hv;subst hv
    have:=h5 _ _ g1
    simp only [World.cell?,h1]
    rw [Nat.add_zero,Nat.add_assoc];simpa using this
   | succ i =>
    have:=r2 i v (by simpa using hv)
    rw [show off + k * sz + m + (i + 1) = off + k * sz + (m + 1) + i by omega];exact this
 obtain ⟨us,r1,r2⟩:=hkey (enc y) 0 (fun i d hi=>by simpa using hi)
 obtain ⟨u,q1,q2⟩:=takeA_run (P:=P) (w:=w) (b:=b) (o0:=off + k * sz) (off:=fo) (fun i v hv=>by have:=r2 i v hv;simpa using this) r1 ht
 refine ⟨u,?_,q2⟩
 have e2 : vptr ρ j (k * sz + fo) = .pointer (some ⟨b,off + k * sz + fo,none⟩):=by unfold vptr;rw [e1];simp only [Nat.add_assoc]
 rw [e2]
 exact q1
theorem triLoadVF {α : Type} {enc : α → List D} {L : List α} {t sz j k fo : Nat} {x : Operand} {y : α} {row : List D} {r : A1} (hy : L[k]? = some y) (hrow : enc y = row) (hx : opnd F x = some (.s (.c (.vl j (k * sz + fo))))) (hj : F.bl j = some (.vec sz (L.map enc))) (hsz : allR sz enc) (ht : takeA P t (dcells row) fo = some r) (hd : Nat.blt dst C.n = true) :
  TriL P C ops ⟨some dst,.load t x,ty,pos,after,none⟩ ⟨slotsOf [x],[j],[dst],[]⟩ [(dst,.s r)] [] F:=by
 subst hrow
 refine ⟨⟨rfl,rfl⟩,fun F' hS=>?_⟩
 have h1:=opnd_same hS.1
 refine Tri.quiet (x:=r) rfl rfl hd (fun ρ M a w hr=>?_)
 have e0 : a.eval x = vptr ρ j (k * sz + fo):=opnd_rep hr ((h1 x (by simp)).trans hx)
 obtain ⟨u,g1,g2⟩:=loadVF_run (P:=P) (hr.heap.inv j _ ((hS.2 j (by simp)).trans hj)) hsz hy ht
 refine ⟨u,?_,g2⟩
 unfold execOp
 simp only
 rw [e0]
 exact bind_value g1
end Go.E2
end
section
set_option maxRecDepth 100000
namespace Go.Proofs.YtcfegecdlbbeaaaGreatDoor
open Go Go.E2
theorem l14_ViewTreesSpoilt_c (l : (List Int)) {r : Bool} (hr : l14_ViewTreesSpoilt l = some r) : Con Tryz.prog 3 [.c (.d (.sl (List.map (eInt .i64) l)))] [] (.s (aB r)) []:=by
 unfold l14_ViewTreesSpoilt at hr
 refine Con.of_ok 127 0 [.tmp 2] [(0,.s (.c (.d (.sl (List.map (eInt .i64) l)))))] Tryz.func3 rfl rfl rfl rfl rfl rfl rfl rfl fun w g M ρ _=>(Ok.seq (Ok.region (OkOps.y (aB false) (OkOps.nil (Ok.seq (Ok.region (OkOps.y (.c (.d (.sl (List.map (eInt .i64) l)))) ?_)))))))
 obtain ⟨x1,hx1,hr⟩:=bind_some hr
 refine OkOps.m 0 (triCall (tau [(0,0)]) (.s (.c (.loc 0 0))) [(0,.blk [.d (.sl (List.map (eInt .i64) x1.L)),cI x1.At] 40)] (b_New_c _ hx1) rfl ⟨.inl rfl,trivial⟩ trivial entry4 trivial rfl rfl rfl rfl ⟨rfl,trivial⟩ rfl rfl rfl) (OkOps.y (.c (.loc 0 0)) (OkOps.nil (Ok.seq (Ok.region (OkOps.y (.c (.loc 0 0)) ?_)))))
 obtain ⟨x2,hx2,hr⟩:=bind_some hr
 refine OkOps.m 0 (triCl (tau [(0,0)]) (.s (.agg [cI x2.1.Root,cI x2.1.Next,.d (.sl (List.map Node.cs x2.1.Nodes))])) [(0,.blk [.d (.sl (List.map (eInt .i64) x2.2.L)),cI x2.2.At] 40)] (b_Src_Tree_c _ _ hx2) rfl ⟨.inl rfl,.inl rfl,trivial⟩ trivial entry5 ⟨rfl,trivial⟩) (OkOps.m 0 (triAlloc (j:=1) (cs:=[cI 0,cI 0,.d (.v (.slice none 0 0))]) rfl rfl rfl rfl) (OkOps.w (triStore (cs':=[cI x2.1.Root,cI x2.1.Next,.d (.sl (List.map Node.cs x2.1.Nodes))]) rfl rfl rfl rfl rfl rfl rfl rfl rfl) (OkOps.nil (Ok.seq (Ok.region (OkOps.y (.c (.loc 1 2)) (OkOps.y (.c (.d (.sl (List.map Node.cs x2.1.Nodes)))) (OkOps.q (triLen (enc:=Node.cs) x2.1.Nodes rfl rfl trivial rfl) (OkOps.y (aI (x2.1.Nodes.length : Int)) (OkOps.nil ?_))))))))))
 obtain ⟨k4,hk4,hr⟩:=jn_some hr
 refine Ok.join (fun (s3 : (List Int) × Int)=>⟨[(3,.s (.c (.loc 0 0))),(4,.s (.c (.loc 1 0))),(5,.s (aI (x2.1.Nodes.length : Int)))],[(0,.blk [.d (.sl (List.map (eInt .i64) s3.1)),cI s3.2] 40),(1,.blk [cI x2.1.Root,cI x2.1.Next,.d (.sl (List.map Node.cs x2.1.Nodes))] 27)],0⟩) k4 r (fun s3 hr=>?_) ?_
 rw [hk4] at hr
 refine Ok.seq (Ok.region (OkOps.y (.c (.loc 1 2)) (OkOps.y (.c (.d (.sl (List.map Node.cs x2.1.Nodes)))) ?_)))
 obtain ⟨x5,hx5,hr⟩:=bind_some hr
 refine OkOps.m2 0 (triAppV0 (enc:=Node.cs) (X:=x2.1.Nodes) (j:=2) (j':=3) hx5 rfl rfl rfl rfl rfl (fun _=>rfl) (fun _=>rfl) trivial rfl rfl rfl (by decide)) (OkOps.y (.c (.loc 1 2)) (OkOps.w (triStoreF (cs':=[cI x2.1.Root,cI x2.1.Next,.own 3]) rfl rfl rfl rfl rfl rfl rfl rfl) (OkOps.nil (Ok.seq (Ok.region (OkOps.y (.c (.loc 0 0)) (OkOps.y (aI (x2.1.Nodes.length : Int)) ?_)))))))
 obtain ⟨x6,hx6,hr⟩:=bind_some hr
 refine OkOps.m 0 (triCl (tau [(0,0)]) (.s (aI x6.1)) [(0,.blk [.d (.sl (List.map (eInt .i64) x6.2.L)),cI x6.2.At] 40)] (b_Src_N_c _ _ hx6) rfl ⟨.inl rfl,.inl rfl,trivial⟩ trivial entry7 ⟨rfl,trivial⟩) (OkOps.y (aI x6.1) (OkOps.nil ?_))
 obtain ⟨k8,hk8,hr⟩:=jn_some hr
 refine Ok.join (fun (s7 : (List Int) × Int × Int × Int × (List Node))=>⟨[(3,.s (.c (.loc 0 0))),(4,.s (.c (.loc 1 0)))],[(0,.blk [.d (.sl (List.map (eInt .i64) s7.1)),cI s7.2.1] 40),(1,.blk [cI s7.2.2.1,cI s7.2.2.2.1,.own 3] 27),(3,.vec 7 (List.map Node.cs s7.2.2.2.2))],0⟩) k8 r (fun s7 hr=>?_) ?_
 rw [hk8] at hr
 refine Ok.seq (Ok.conv (Conv.freezeV (enc:=Node.cs) (L:=s7.2.2.2.2) [] [(1,.blk [cI s7.2.2.1,cI s7.2.2.2.1,.d (.sl (List.map Node.cs s7.2.2.2.2))] 27)] 3 0 rfl (fun _=>rfl) trivial ⟨⟨_,_,rfl,rfl⟩,trivial⟩) (Ok.regionD (by kernel_rfl) (OkD.x (.agg [cI s7.2.2.1,cI s7.2.2.2.1,.d (.sl (List.map Node.cs s7.2.2.2.2))]) rfl trivial rfl (OkD.x (.c (.loc 0 0)) rfl trivial rfl ?_))))
 obtain ⟨x9,hx9,hr⟩:=bind_some hr
 refine OkD.m 0 (triCl (tau [(0,0)]) (.s (aI x9.1)) [(0,.blk [.d (.sl (List.map (eInt .i64) x9.2.L)),cI x9.2.At] 40)] (b_Src_Range_c _ _ _ hx9) rfl ⟨.inl rfl,.inl rfl,.inl rfl,trivial⟩ trivial entry8 ⟨rfl,trivial⟩) (OkD.x (.c (.loc 0 0)) rfl trivial rfl ?_)
 obtain ⟨x10,hx10,hr⟩:=bind_some hr
 refine OkD.m 0 (triCl (tau [(0,0)]) (.s (aI x10.1)) [(0,.blk [.d (.sl (List.map (eInt .i64) x10.2.L)),cI x10.2.At] 40)] (b_Src_Range_c _ _ _ hx10) rfl ⟨.inl rfl,.inl rfl,.inl rfl,trivial⟩ trivial entry8 ⟨rfl,trivial⟩) ?_
 obtain ⟨x11,hx11,hr⟩:=bind_some hr
 refine OkD.q (triCl (tau []) (.s (aB x11)) [] (l14_same_c _ _ _ hx11) rfl ⟨.inl rfl,.inl rfl,.inl rfl,trivial⟩ trivial entry6 trivial) (OkD.x (aB x11) rfl trivial rfl ?_)
 obtain ⟨x12,hx12,hr⟩:=bind_some hr
 refine OkD.q (triCallG (x:=aB x12) (fun hg=>l14_awake_c  (gO_t hx12 hg)) rfl rfl trivial trivial entry9 rfl rfl rfl) (OkD.q (triAnd rfl rfl (fun h=>h) rfl) (OkD.x (aB (x11 && x12)) rfl trivial rfl (OkD.nil (by kernel_rfl) (Ok.ret ?_))))
 obtain rfl:=Option.some.inj hr
 exact ⟨_,rfl,.inl rfl,trivial⟩
 clear hk8
 refine Ok.seq (Ok.region (OkOps.y (.c (.loc 0 0)) ?_))
 obtain ⟨x13,hx13,hr⟩:=bind_some hr
 refine OkOps.m 0 (triCl (tau [(0,0)]) (.s (aI x13.1)) [(0,.blk [.d (.sl (List.map (eInt .i64) x13.2.L)),cI x13.2.At] 40)] (b_Src_N_c _ _ hx13) rfl ⟨.inl rfl,.inl rfl,trivial⟩ trivial entry7 ⟨rfl,trivial⟩) (OkOps.nil (Ok.block (Ok.seq (Ok.region (OkOps.y (aB (x13.1 == 0)) (OkOps.y (aB (x13.1 == 0)) (OkOps.nil ?_)))))))
 refine Ok.cond (b:=x13.1 == 0) rfl (fun h14=>?_) (fun h14=>?_)
 have hr:=selT h14 hr
 refine Ok.region (OkOps.y (.c (.loc 0 0)) ?_)
 obtain ⟨x15,hx15,hr⟩:=bind_some hr
 refine OkOps.m 0 (triCl (tau [(0,0)]) (.s (aI x15.1)) [(0,.blk [.d (.sl (List.map (eInt .i64) x15.2.L)),cI x15.2.At] 40)] (b_Src_Range_c _ _ _ hx15) rfl ⟨.inl rfl,.inl rfl,.inl rfl,trivial⟩ trivial entry8 ⟨rfl,trivial⟩) (OkOps.y (.c (.loc 1 0)) (OkOps.w (triStore (cs':=[cI x15.1,cI x2.1.Next,.own 3]) rfl rfl rfl rfl rfl rfl rfl rfl rfl) (OkOps.nil ?_)))
 exact ⟨(x15.2.L,x15.2.At,x15.1,x2.1.Next,x5),hr,(Conv.mk (tau []) ⟨⟨_,rfl,.inl rfl⟩,⟨_,rfl,.inl rfl⟩,trivial⟩ ⟨rfl,rfl,rfl,trivial⟩ rfl rfl rfl rfl)⟩
 have hr:=selF h14 hr
 refine Ok.seq (Ok.region (OkOps.y (aB (x13.1 == 1)) (OkOps.y (aB (x13.1 == 1)) (OkOps.nil ?_))))
 refine Ok.cond (b:=x13.1 == 1) rfl (fun h16=>?_) (fun h16=>?_)
 have hr:=selT h16 hr
 refine Ok.region (OkOps.y (.c (.loc 0 0)) ?_)
 obtain ⟨x17,hx17,hr⟩:=bind_some hr
 refine OkOps.m 0 (triCl (tau [(0,0)]) (.s (aI x17.1)) [(0,.blk [.d (.sl (List.map (eInt .i64) x17.2.L)),cI x17.2.At] 40)] (b_Src_Range_c _ _ _ hx17) rfl ⟨.inl rfl,.inl rfl,.inl rfl,trivial⟩ trivial entry8 ⟨rfl,trivial⟩) (OkOps.y (.c (.loc 1 1)) (OkOps.w (triStore (cs':=[cI x2.1.Root,cI x17.1,.own 3]) rfl rfl rfl rfl rfl rfl rfl rfl rfl) (OkOps.nil ?_)))
 exact ⟨(x17.2.L,x17.2.At,x2.1.Root,x17.1,x5),hr,(Conv.mk (tau []) ⟨⟨_,rfl,.inl rfl⟩,⟨_,rfl,.inl rfl⟩,trivial⟩ ⟨rfl,rfl,rfl,trivial⟩ rfl rfl rfl rfl)⟩
 have hr:=selF h16 hr
 refine Ok.seq (Ok.region (OkOps.y (aB (x13.1 == 2)) (OkOps.y (aB (x13.1 == 2)) (OkOps.nil ?_))))
 refine Ok.cond (b:=x13.1 == 2) rfl (fun h18=>?_) (fun h18=>?_)
 have hr:=selT h18 hr
 refine Ok.regionD (by kernel_rfl) (OkD.x (.c (.loc 1 2)) rfl trivial rfl (OkD.x (.c (.own 3)) rfl trivial rfl (OkD.x (aI x6.1) rfl trivial rfl (OkD.x (.c (.loc 0 0)) rfl trivial rfl ?_))))
 obtain ⟨x19,hx19,hr⟩:=bind_some hr
 refine OkD.m 0 (triCl (tau [(0,0)]) (.s (aI x19.1)) [(0,.blk [.d (.sl (List.map (eInt .i64) x19.2.L)),cI x19.2.At] 40)] (b_Src_Range_c _ _ _ hx19) rfl ⟨.inl rfl,.inl rfl,.inl rfl,trivial⟩ trivial entry8 ⟨rfl,trivial⟩) ?_
 obtain ⟨x20,hx20,hr⟩:=bind_some hr
 refine OkD.q (triIdxV (enc:=Node.cs) (L:=x5) hx20 rfl rfl rfl rfl trivial rfl) (OkD.q (triFldV (o:=1) (enc:=Node.cs) (L:=x5) rfl rfl rfl (by have:=(ixO_spec hx20).2;omega) rfl) ?_)
 obtain ⟨x21,hx21,hr⟩:=bind_some hr
 refine OkD.w (triStoreVF (n:=1) (enc:=Node.cs) (L:=x5) (z:=(Node.mk x21.ID x19.1 x21.Kind x21.Key x21.Attrs x21.Actions x21.Kids)) hx21 rfl rfl rfl rfl rfl rfl rfl rfl (by decide) (fun _=>rfl) rfl) (OkD.nil (by kernel_rfl) ?_)
 exact ⟨(x19.2.L,x19.2.At,x2.1.Root,x2.1.Next,List.set x5 x20 (Node.mk x21.ID x19.1 x21.Kind x21.Key x21.Attrs x21.Actions x21.Kids)),hr,(Conv.mk (tau []) ⟨⟨_,rfl,.inl rfl⟩,⟨_,rfl,.inl rfl⟩,trivial⟩ ⟨rfl,rfl,rfl,trivial⟩ rfl rfl rfl rfl)⟩
 have hr:=selF h18 hr
 refine Ok.seq (Ok.region (OkOps.y (aB (x13.1 == 3)) (OkOps.y (aB (x13.1 == 3)) (OkOps.nil ?_))))
 refine Ok.cond (b:=x13.1 == 3) rfl (fun h22=>?_) (fun h22=>?_)
 have hr:=selT h22 hr
 refine Ok.regionD (by kernel_rfl) (OkD.x (.c (.loc 1 2)) rfl trivial rfl (OkD.x (.c (.own 3)) rfl trivial rfl (OkD.x (aI x6.1) rfl trivial rfl (OkD.x (.c (.loc 1 2)) rfl trivial rfl (OkD.x (.c (.own 3)) rfl trivial rfl (OkD.x (aI x6.1) rfl trivial rfl ?_))))))
 obtain ⟨x23,hx23,hr⟩:=bind_some hr
 refine OkD.q (triIdxV (enc:=Node.cs) (L:=x5) hx23 rfl rfl rfl rfl trivial rfl) (OkD.q (triFldV (o:=6) (enc:=Node.cs) (L:=x5) rfl rfl rfl (by have:=(ixO_spec hx23).2;omega) rfl) ?_)
 obtain ⟨x24,hx24,hr⟩:=bind_some hr
 refine OkD.q (triLoadVF (fo:=6) (enc:=Node.cs) (L:=x5) (row:=[dI x24.ID,dI x24.Parent,dI x24.Kind,dS x24.Key,.sl (List.map Attr.cs x24.Attrs),.sl (List.map Action.cs x24.Actions),.sl (List.map (eInt .i64) x24.Kids)]) (r:=.c (.d (.sl (List.map (eInt .i64) x24.Kids)))) hx24 rfl rfl rfl (fun _=>rfl) rfl rfl) ?_
 obtain ⟨x25,hx25,hr⟩:=bind_some hr
 refine OkD.m 0 (triApp0 (sz:=1) (enc:=(eInt .i64)) (X:=x24.Kids) (j':=4) hx25 rfl rfl rfl rfl rfl (fun _=>rfl) (fun _=>rfl) (by decide) trivial rfl rfl) (OkD.x (.c (.loc 0 0)) rfl trivial rfl ?_)
 obtain ⟨x26,hx26,hr⟩:=bind_some hr
 refine OkD.m 0 (triCl (tau [(0,0)]) (.s (aI x26.1)) [(0,.blk [.d (.sl (List.map (eInt .i64) x26.2.L)),cI x26.2.At] 40)] (b_Src_Range_c _ _ _ hx26) rfl ⟨.inl rfl,.inl rfl,.inl rfl,trivial⟩ trivial entry8 ⟨rfl,trivial⟩) (OkD.m 0 (triBST (sz:=1) (enc:=(eInt .i64)) (j:=5) ([x26.1]) rfl rfl rfl rfl rfl rfl rfl rfl (fun _=>rfl) trivial rfl rfl) ?_)
 obtain ⟨x27,hx27,hr⟩:=bind_some hr
 refine OkD.m2 0 (triApp (enc:=(eInt .i64)) (L:=x25) (X:=[x26.1]) (j:=4) (j':=6) hx27 rfl rfl rfl rfl rfl rfl (fun _=>rfl) (fun _=>rfl) (by decide) trivial rfl rfl) ?_
 obtain ⟨x28,hx28,hr⟩:=bind_some hr
 refine OkD.q (triIdxV (enc:=Node.cs) (L:=x5) hx28 rfl rfl rfl rfl trivial rfl) (OkD.q (triFldV (o:=6) (enc:=Node.cs) (L:=x5) rfl rfl rfl (by have:=(ixO_spec hx28).2;omega) rfl) ?_)
 obtain ⟨x29,hx29,hr⟩:=bind_some hr
 refine OkD.w (triStoreVF (n:=1) (enc:=Node.cs) (L:=x5) (z:=(Node.mk x29.ID x29.Parent x29.Kind x29.Key x29.Attrs x29.Actions x27)) hx29 rfl rfl rfl rfl rfl rfl rfl rfl (by decide) (fun _=>rfl) rfl) (OkD.nil (by kernel_rfl) ?_)
 exact ⟨(x26.2.L,x26.2.At,x2.1.Root,x2.1.Next,List.set x5 x28 (Node.mk x29.ID x29.Parent x29.Kind x29.Key x29.Attrs x29.Actions x27)),hr,(Conv.mk (tau []) ⟨⟨_,rfl,.inl rfl⟩,⟨_,rfl,.inl rfl⟩,trivial⟩ ⟨rfl,rfl,rfl,trivial⟩ rfl rfl rfl rfl)⟩
 have hr:=selF h22 hr
 refine Ok.seq (Ok.region (OkOps.y (aB (x13.1 == 4)) (OkOps.y (aB (x13.1 == 4)) (OkOps.nil ?_))))
 refine Ok.cond (b:=x13.1 == 4) rfl (fun h30=>?_) (fun h30=>?_)
 have hr:=selT h30 hr
 refine Ok.region (OkOps.y (.c (.loc 1 2)) (OkOps.y (.c (.own 3)) (OkOps.y (aI x6.1) ?_)))
 obtain ⟨x31,hx31,hr⟩:=bind_some hr
 refine OkOps.q (triIdxV (enc:=Node.cs) (L:=x5) hx31 rfl rfl rfl rfl trivial rfl) (OkOps.q (triFldV (o:=6) (enc:=Node.cs) (L:=x5) rfl rfl rfl (by have:=(ixO_spec hx31).2;omega) rfl) ?_)
 obtain ⟨x32,hx32,hr⟩:=bind_some hr
 refine OkOps.w (triStoreVF (n:=1) (enc:=Node.cs) (L:=x5) (z:=(Node.mk x32.ID x32.Parent x32.Kind x32.Key x32.Attrs x32.Actions ([] : (List Int)))) hx32 rfl rfl rfl rfl rfl rfl rfl rfl (by decide) (fun _=>rfl) rfl) (OkOps.nil ?_)
 exact ⟨(x13.2.L,x13.2.At,x2.1.Root,x2.1.Next,List.set x5 x31 (Node.mk x32.ID x32.Parent x32.Kind x32.Key x32.Attrs x32.Actions ([] : (List Int)))),hr,(Conv.mk (tau []) ⟨⟨_,rfl,.inl rfl⟩,⟨_,rfl,.inl rfl⟩,trivial⟩ ⟨rfl,rfl,rfl,trivial⟩ rfl rfl rfl rfl)⟩
 have hr:=selF h30 hr
 refine Ok.seq (Ok.region (OkOps.y (aB (x13.1 == 5)) (OkOps.y (aB (x13.1 == 5)) (OkOps.nil ?_))))
 refine Ok.cond (b:=x13.1 == 5) rfl (fun h33=>?_) (fun h33=>?_)
 have hr:=selT h33 hr
 refine Ok.regionD (by kernel_rfl) (OkD.x (.c (.loc 1 2)) rfl trivial rfl (OkD.x (.c (.own 3)) rfl trivial rfl (OkD.x (aI x6.1) rfl trivial rfl (OkD.x (.c (.loc 0 0)) rfl trivial rfl ?_))))
 obtain ⟨x34,hx34,hr⟩:=bind_some hr
 refine OkD.m 0 (triCl (tau [(0,0)]) (.s (aI x34.1)) [(0,.blk [.d (.sl (List.map (eInt .i64) x34.2.L)),cI x34.2.At] 40)] (b_Src_Range_c _ _ _ hx34) rfl ⟨.inl rfl,.inl rfl,.inl rfl,trivial⟩ trivial entry8 ⟨rfl,trivial⟩) ?_
 obtain ⟨x35,hx35,hr⟩:=bind_some hr
 refine OkD.q (triIdxV (enc:=Node.cs) (L:=x5) hx35 rfl rfl rfl rfl trivial rfl) (OkD.q (triFldV (o:=0) (enc:=Node.cs) (L:=x5) rfl rfl rfl (by have:=(ixO_spec hx35).2;omega) rfl) ?_)
 obtain ⟨x36,hx36,hr⟩:=bind_some hr
 refine OkD.w (triStoreVF (n:=1) (enc:=Node.cs) (L:=x5) (z:=(Node.mk x34.1 x36.Parent x36.Kind x36.Key x36.Attrs x36.Actions x36.Kids)) hx36 rfl rfl rfl rfl rfl rfl rfl rfl (by decide) (fun _=>rfl) rfl) (OkD.nil (by kernel_rfl) ?_)
 exact ⟨(x34.2.L,x34.2.At,x2.1.Root,x2.1.Next,List.set x5 x35 (Node.mk x34.1 x36.Parent x36.Kind x36.Key x36.Attrs x36.Actions x36.Kids)),hr,(Conv.mk (tau []) ⟨⟨_,rfl,.inl rfl⟩,⟨_,rfl,.inl rfl⟩,trivial⟩ ⟨rfl,rfl,rfl,trivial⟩ rfl rfl rfl rfl)⟩
 have hr:=selF h33 hr
 refine Ok.seq (Ok.region (OkOps.y (aB (x13.1 == 6)) (OkOps.y (aB (x13.1 == 6)) (OkOps.nil ?_))))
 refine Ok.cond (b:=x13.1 == 6) rfl (fun h37=>?_) (fun h37=>?_)
 have hr:=selT h37 hr
 refine Ok.regionD (by kernel_rfl) (OkD.x (.c (.loc 1 2)) rfl trivial rfl (OkD.x (.c (.own 3)) rfl trivial rfl (OkD.x (aI x6.1) rfl trivial rfl (OkD.x (.c (.loc 0 0)) rfl trivial rfl ?_))))
 obtain ⟨x38,hx38,hr⟩:=bind_some hr
 refine OkD.m 0 (triCl (tau [(0,0)]) (.s (aI x38.1)) [(0,.blk [.d (.sl (List.map (eInt .i64) x38.2.L)),cI x38.2.At] 40)] (b_Src_Range_c _ _ _ hx38) rfl ⟨.inl rfl,.inl rfl,.inl rfl,trivial⟩ trivial entry8 ⟨rfl,trivial⟩) ?_
 obtain ⟨x39,hx39,hr⟩:=bind_some hr
 refine OkD.q (triIdxV (enc:=Node.cs) (L:=x5) hx39 rfl rfl rfl rfl trivial rfl) (OkD.q (triFldV (o:=2) (enc:=Node.cs) (L:=x5) rfl rfl rfl (by have:=(ixO_spec hx39).2;omega) rfl) ?_)
 obtain ⟨x40,hx40,hr⟩:=bind_some hr
 refine OkD.w (triStoreVF (n:=1) (enc:=Node.cs) (L:=x5) (z:=(Node.mk x40.ID x40.Parent x38.1 x40.Key x40.Attrs x40.Actions x40.Kids)) hx40 rfl rfl rfl rfl rfl rfl rfl rfl (by decide) (fun _=>rfl) rfl) (OkD.nil (by kernel_rfl) ?_)
 exact ⟨(x38.2.L,x38.2.At,x2.1.Root,x2.1.Next,List.set x5 x39 (Node.mk x40.ID x40.Parent x38.1 x40.Key x40.Attrs x40.Actions x40.Kids)),hr,(Conv.mk (tau []) ⟨⟨_,rfl,.inl rfl⟩,⟨_,rfl,.inl rfl⟩,trivial⟩ ⟨rfl,rfl,rfl,trivial⟩ rfl rfl rfl rfl)⟩
 have hr:=selF h37 hr
 refine Ok.regionD (by kernel_rfl) (OkD.x (.c (.loc 1 2)) rfl trivial rfl (OkD.x (.c (.own 3)) rfl trivial rfl (OkD.x (aI x6.1) rfl trivial rfl (OkD.m 0 (triBST (sz:=1) (enc:=eStr) (j:=7) ([(ByteArray.mk #[107,97]),(ByteArray.mk #[107,98]),(ByteArray.mk #[63])]) rfl rfl rfl rfl rfl rfl rfl rfl (fun _=>rfl) trivial rfl rfl) (OkD.x (.c (.loc 0 0)) rfl trivial rfl ?_)))))
 obtain ⟨x41,hx41,hr⟩:=bind_some hr
 refine OkD.m 0 (triCl (tau [(0,0)]) (.s (aI x41.1)) [(0,.blk [.d (.sl (List.map (eInt .i64) x41.2.L)),cI x41.2.At] 40)] (b_Src_N_c _ _ hx41) rfl ⟨.inl rfl,.inl rfl,trivial⟩ trivial entry7 ⟨rfl,trivial⟩) ?_
 obtain ⟨x42,hx42,hr⟩:=bind_some hr
 refine OkD.q (triIdx (enc:=eStr) (L:=[(ByteArray.mk #[107,97]),(ByteArray.mk #[107,98]),(ByteArray.mk #[63])]) (row:=[dS x42]) hx42 rfl rfl rfl rfl (fun _=>rfl) trivial rfl) (OkD.x (aS x42) rfl trivial rfl ?_)
 obtain ⟨x43,hx43,hr⟩:=bind_some hr
 refine OkD.q (triIdxV (enc:=Node.cs) (L:=x5) hx43 rfl rfl rfl rfl trivial rfl) (OkD.q (triFldV (o:=3) (enc:=Node.cs) (L:=x5) rfl rfl rfl (by have:=(ixO_spec hx43).2;omega) rfl) ?_)
 obtain ⟨x44,hx44,hr⟩:=bind_some hr
 refine OkD.w (triStoreVF (n:=1) (enc:=Node.cs) (L:=x5) (z:=(Node.mk x44.ID x44.Parent x44.Kind x42 x44.Attrs x44.Actions x44.Kids)) hx44 rfl rfl rfl rfl rfl rfl rfl rfl (by decide) (fun _=>rfl) rfl) (OkD.nil (by kernel_rfl) ?_)
 exact ⟨(x41.2.L,x41.2.At,x2.1.Root,x2.1.Next,List.set x5 x43 (Node.mk x44.ID x44.Parent x44.Kind x42 x44.Attrs x44.Actions x44.Kids)),hr,(Conv.mk (tau []) ⟨⟨_,rfl,.inl rfl⟩,⟨_,rfl,.inl rfl⟩,trivial⟩ ⟨rfl,rfl,rfl,trivial⟩ rfl rfl rfl rfl)⟩
 clear hk4
 refine Ok.seq (Ok.region (OkOps.y (aI 0) (OkOps.nil (Ok.block (Ok.loopK (fun (s45 : Int × (List Int) × Int)=>⟨[(3,.s (.c (.loc 0 0))),(4,.s (.c (.loc 1 0))),(5,.s (aI (x2.1.Nodes.length : Int))),(6,.s (aI s45.1))],[(0,.blk [.d (.sl (List.map (eInt .i64) s45.2.1)),cI s45.2.2] 40),(1,.blk [cI x2.1.Root,cI x2.1.Next,.d (.sl (List.map Node.cs x2.1.Nodes))] 27)],0⟩) hr (Conv.mk (tau []) ⟨⟨_,rfl,.inl rfl⟩,⟨_,rfl,.inl rfl⟩,⟨_,rfl,.inl rfl⟩,⟨_,rfl,.inl rfl⟩,trivial⟩ ⟨rfl,rfl,trivial⟩ rfl rfl rfl rfl) ?_)))))
 clear hr
 intro again46 s45 hr
 unfold l14_ViewTreesSpoilt_L1 at hr
 refine Ok.seq (Ok.seq (Ok.region (OkOps.y (aI s45.1) (OkOps.y (aI (x2.1.Nodes.length : Int)) (OkOps.y (aB (decide (s45.1 < (x2.1.Nodes.length : Int)))) (OkOps.nil ?_))))))
 refine Ok.cond (b:=decide (s45.1 < (x2.1.Nodes.length : Int))) rfl (fun h47=>?_) (fun h47=>?_)
 have hr:=selT h47 hr
 refine Ok.skip (Ok.seq (Ok.block (Ok.seq (Ok.regionD (by kernel_rfl) (OkD.x (.agg [cI x2.1.Root,cI x2.1.Next,.d (.sl (List.map Node.cs x2.1.Nodes))]) rfl trivial rfl (OkD.x (.c (.loc 1 2)) rfl trivial rfl (OkD.x (.c (.d (.sl (List.map Node.cs x2.1.Nodes)))) rfl trivial rfl (OkD.x (aI s45.1) rfl trivial rfl ?_))))))))
 obtain ⟨x48,hx48,hr⟩:=bind_some hr
 refine OkD.q (triIdx (enc:=Node.cs) (L:=x2.1.Nodes) (row:=[dI x48.ID,dI x48.Parent,dI x48.Kind,dS x48.Key,.sl (List.map Attr.cs x48.Attrs),.sl (List.map Action.cs x48.Actions),.sl (List.map (eInt .i64) x48.Kids)]) hx48 rfl rfl rfl rfl (fun _=>rfl) trivial rfl) (OkD.x (.c (.pt [dI x48.ID,dI x48.Parent,dI x48.Kind,dS x48.Key,.sl (List.map Attr.cs x48.Attrs),.sl (List.map Action.cs x48.Actions),.sl (List.map (eInt .i64) x48.Kids)])) rfl trivial rfl (OkD.x (aI x48.ID) rfl trivial rfl (OkD.x (.c (.loc 1 2)) rfl trivial rfl (OkD.x (.c (.d (.sl (List.map Node.cs x2.1.Nodes)))) rfl trivial rfl (OkD.x (.c (.loc 0 0)) rfl trivial rfl (OkD.x (aI (x2.1.Nodes.length : Int)) rfl trivial rfl ?_))))))
 obtain ⟨x49,hx49,hr⟩:=bind_some hr
 refine OkD.m 0 (triCl (tau [(0,0)]) (.s (aI x49.1)) [(0,.blk [.d (.sl (List.map (eInt .i64) x49.2.L)),cI x49.2.At] 40)] (b_Src_N_c _ _ hx49) rfl ⟨.inl rfl,.inl rfl,trivial⟩ trivial entry7 ⟨rfl,trivial⟩) ?_
 obtain ⟨x50,hx50,hr⟩:=bind_some hr
 refine OkD.q (triIdx (enc:=Node.cs) (L:=x2.1.Nodes) (row:=[dI x50.ID,dI x50.Parent,dI x50.Kind,dS x50.Key,.sl (List.map Attr.cs x50.Attrs),.sl (List.map Action.cs x50.Actions),.sl (List.map (eInt .i64) x50.Kids)]) hx50 rfl rfl rfl rfl (fun _=>rfl) trivial rfl) (OkD.x (.c (.pt [dI x50.ID,dI x50.Parent,dI x50.Kind,dS x50.Key,.sl (List.map Attr.cs x50.Attrs),.sl (List.map Action.cs x50.Actions),.sl (List.map (eInt .i64) x50.Kids)])) rfl trivial rfl (OkD.x (aI x50.ID) rfl trivial rfl ?_))
 obtain ⟨x51,hx51,hr⟩:=bind_some hr
 refine OkD.q (triCl (tau []) (.s (aB x51)) [] (l14_same_c _ _ _ hx51) rfl ⟨.inl rfl,.inl rfl,.inl rfl,trivial⟩ trivial entry6 trivial) (OkD.x (aB (!x51)) rfl trivial rfl (OkD.nil (by kernel_rfl) ?_))
 refine Ok.cond (b:=!x51) rfl (fun h52=>?_) (fun h52=>?_)
 have hr:=selT h52 hr
 refine Ok.seq (Ok.region (OkOps.y (aB false) (OkOps.nil (Ok.ret ?_))))
 obtain rfl:=Option.some.inj hr
 exact ⟨_,rfl,.inl rfl,trivial⟩
 have hr:=selF h52 hr
 refine Ok.skip (Ok.region (OkOps.y (aI s45.1) (OkOps.y (aI (IntKind.i64.wrap (s45.1 + 1))) (OkOps.y (aI (IntKind.i64.wrap (s45.1 + 1))) (OkOps.nil ?_)))))
 exact ⟨(IntKind.i64.wrap (s45.1 + 1),x49.2.L,x49.2.At),hr,(Conv.mk (tau []) ⟨⟨_,rfl,.inl rfl⟩,⟨_,rfl,.inl rfl⟩,⟨_,rfl,.inl rfl⟩,⟨_,rfl,.inl rfl⟩,trivial⟩ ⟨rfl,rfl,trivial⟩ rfl rfl rfl rfl)⟩
 have hr:=selF h47 hr
 refine Ok.exit ?_
 exact ⟨(s45.2.1,s45.2.2),hr,(Conv.mk (tau []) ⟨⟨_,rfl,.inl rfl⟩,⟨_,rfl,.inl rfl⟩,⟨_,rfl,.inl rfl⟩,trivial⟩ ⟨rfl,rfl,trivial⟩ rfl rfl rfl rfl)⟩
end Go.Proofs.YtcfegecdlbbeaaaGreatDoor
end
section
namespace Go.E2
open Go
theorem wrap_id {x : Int} (h1 : -9223372036854775808 ≤ x) (h2 : x < 9223372036854775808) : IntKind.i64.wrap x = x:=by
 rw [IntKind.wrap_i64];omega
theorem wrap_suc {i n : Nat} (h : i < n) (hn : n < N0) : IntKind.i64.wrap ((i : Int) + 1) = ((i + 1 : Nat) : Int):=by
 unfold N0 at hn;rw [wrap_id (by omega) (by omega)];omega
theorem idxO_nat {α : Type} {L : List α} {k : Nat} : idxO L (k : Int) = L[k]?:=rfl
@[simp] theorem sel_true {α : Type} (a b : α) : sel true a b = a:=rfl
@[simp] theorem sel_false {α : Type} (a b : α) : sel false a b = b:=rfl
@[simp] theorem gO_true {α : Type} [Inhabited α] (o : Option α) : gO true o = o:=rfl
@[simp] theorem gO_false {α : Type} [Inhabited α] (o : Option α) : gO false o = some default:=rfl
@[simp] theorem bind_some' {α β : Type} (x : α) (k : α → Option β) : (some x).bind k = k x:=rfl
@[simp] theorem jn_eq {S R : Type} (k : S → Option R) (b : (S → Option R) → Option R) : jn k b = b k:=rfl
theorem appO_eq {α : Type} {L X : List α} (h : L.length + X.length ≤ 1073741824) : appO L X = some (L ++ X):=if_pos h
theorem slcO_eq {α : Type} {L : List α} {n : Nat} (h : n ≤ L.length) : slcO L 0 (n : Int) = some (L.take n):=by
 have : slcO L 0 (n : Int) = some ((L.take (n : Int).toNat).drop (0 : Int).toNat):=if_pos ⟨Int.le_refl 0,by omega,by omega⟩
 rw [this];simp
theorem nz_lt {i n : Nat} (h : i < n) : decide ((i : Int) < (n : Int)) = true:=by simpa using h
theorem nz_ge {i n : Nat} (h : n ≤ i) : decide ((i : Int) < (n : Int)) = false:=by simpa using h
theorem loopK_first {S R : Type} (B : (S → Option R) → S → Option R) (s : S) : loopK B N0 s = B (loopK B (N0 - 1)) s:=by
 have : N0 = (N0 - 1) + 1:=by unfold N0;omega
 conv=>lhs;rw [this]
 rfl
theorem toList_loop_eq (bs : ByteArray) : ∀ (n i : Nat) (acc : List UInt8), bs.size - i = n → ByteArray.toList.loop bs i acc = acc.reverse ++ bs.data.toList.drop i := by
  intro n
  induction n with
  | zero =>
    intro i acc h
    unfold ByteArray.toList.loop
    rw [if_neg (by omega), List.drop_eq_nil_of_le (by show bs.data.toList.length ≤ i; have : bs.data.toList.length = bs.size := Array.length_toList
                                                      omega)]
    simp
  | succ n ih =>
    intro i acc h
    have hi : i < bs.size := by omega
    unfold ByteArray.toList.loop
    rw [if_pos hi, ih (i + 1) _ (by omega)]
    have hd : i < bs.data.toList.length := by rw [Array.length_toList]; exact hi
    rw [List.drop_eq_getElem_cons hd]
    have : bs.get! i = bs.data.toList[i] := by
      show bs.data[i]! = _
      rw [getElem!_pos bs.data i (by simpa using hd)]; simp
    simp [this]
theorem toList_eq (bs : ByteArray) : bs.toList = bs.data.toList:=by
 unfold ByteArray.toList
 rw [toList_loop_eq bs _ 0 [] rfl];simp
theorem bytes_inj {a b : Str} (h : a.toList = b.toList) : a = b:=by
 rw [toList_eq,toList_eq] at h
 obtain ⟨a⟩:=a;obtain ⟨b⟩:=b
 congr
 exact Array.toList_inj.1 h
theorem ixO_nat {n i : Nat} (h : i < n) : ixO n (i : Int) = some i:=by
 show (if i < n then some i else none) = _;rw [if_pos h]
theorem idxO_ok {α : Type} {L : List α} {r : Int} (h0 : 0 ≤ r) (h1 : r < L.length) : ∃ x,idxO L r = some x ∧ x ∈ L:=by
 obtain ⟨n,rfl⟩ : ∃ n : Nat,r = n:=⟨r.toNat,by omega⟩
 have : n < L.length:=by omega
 exact ⟨L[n],by rw [idxO_nat,List.getElem?_eq_getElem this],List.getElem_mem this⟩
theorem idxO_at {α : Type} {L : List α} {i : Nat} (h : i < L.length) : idxO L (i : Int) = some L[i]:=by rw [idxO_nat,List.getElem?_eq_getElem h]
theorem bs_eq (a b : Str) : (a.toList == b.toList) = decide (a = b):=by
 by_cases h : a = b
 ·subst h;simp
 ·have : a.toList ≠ b.toList:=fun e=>h (bytes_inj e)
  simp [h,this]
end Go.E2
end
section
namespace Go.E2
open Go
def lo2 (b : Nat) : Nat:=if b = 224 then 160 else if b = 240 then 144 else 128
def hi2 (b : Nat) : Nat:=if b = 237 then 159 else if b = 244 then 143 else 191
def ctn (b : Nat) : Bool:=decide (128 ≤ b) && decide (b ≤ 191)
def stp (l : List Nat) : Option Nat := match l with
  | [] => none
  | b0 :: t => if b0 < 128 then some 1 else if b0 < 194 then none else if b0 < 224 then (match t with
      | b1 :: _ => if ctn b1 = true then some 2 else none
      | [] => none) else if b0 < 240 then (match t with
      | b1 :: b2 :: _ => if lo2 b0 ≤ b1 ∧ b1 ≤ hi2 b0 ∧ ctn b2 = true then some 3 else none
      | _ => none) else if b0 < 245 then (match t with
      | b1 :: b2 :: b3 :: _ => if lo2 b0 ≤ b1 ∧ b1 ≤ hi2 b0 ∧ ctn b2 = true ∧ ctn b3 = true then some 4 else none
      | _ => none) else none
theorem stp_pos {l : List Nat} {k : Nat} (h : stp l = some k) : 1 ≤ k ∧ k ≤ l.length:=by
 unfold stp at h
 split at h
 ·cases h
 ·split at h
  ·cases h;simp
  ·split at h
   ·cases h
   ·split at h
    ·split at h
     ·split at h
      ·cases h;simp
      ·cases h
     ·cases h
    ·split at h
     ·split at h
      ·split at h
       ·cases h;simp
       ·cases h
      ·cases h
     ·split at h
      ·split at h
       ·split at h
        ·cases h;simp
        ·cases h
       ·cases h
      ·cases h
def VB : Nat → List Nat → Bool
 | 0,l=>l.isEmpty
 | n + 1,l=>match l with
  | []=>true
  | _ :: _=>match stp l with
   | some k=>VB n (l.drop k)
   | none=>false
theorem VB_fuel : ∀ (n m : Nat) (l : List Nat),l.length ≤ n → l.length ≤ m → VB n l = VB m l
 | 0,m,l,h,_=>by
  have : l = []:=List.eq_nil_of_length_eq_zero (by omega)
  subst this
  cases m <;> rfl
 | n + 1,0,l,_,h=>by
  have : l = []:=List.eq_nil_of_length_eq_zero (by omega)
  subst this;rfl
 | n + 1,m + 1,l,h,h'=>by
  cases l with
  | nil=>rfl
  | cons b t =>
   unfold VB
   simp only
   cases hs : stp (b :: t) with
   | none=>rfl
   | some k =>
    have:=stp_pos hs
    simp only
    exact VB_fuel n m _ (by simp at h ⊢;omega) (by simp at h' ⊢;omega)
def vb (l : List Nat) : Bool:=VB l.length l
theorem vb_step {l : List Nat} {k : Nat} (h : stp l = some k) : vb l = vb (l.drop k):=by
 cases l with
 | nil=>cases h
 | cons b t =>
  have hp:=stp_pos h
  unfold vb
  rw [show (b :: t).length = t.length + 1 from rfl]
  conv=>lhs;unfold VB
  simp only [h]
  exact VB_fuel _ _ _ (by simp at hp ⊢;omega) (Nat.le_refl _)
theorem vb_none {l : List Nat} (h : stp l = none) (hne : l ≠ []) : vb l = false:=by
 cases l with
 | nil=>exact absurd rfl hne
 | cons b t =>
  unfold vb
  rw [show (b :: t).length = t.length + 1 from rfl]
  unfold VB
  simp only [h]
theorem vb_ascii : ∀ (m : Nat) (l : List Nat),(∀ i,i < m → ∃ b,l[i]? = some b ∧ b < 128) → vb l = vb (l.drop m)
 | 0,l,_=>by simp
 | m + 1,l,h=>by
  obtain ⟨b,h1,h2⟩:=h 0 (by omega)
  cases l with
  | nil=>simp at h1
  | cons c t =>
   simp at h1
   subst h1
   have hs : stp (c :: t) = some 1:=by unfold stp;simp [h2]
   rw [vb_step hs]
   have:=vb_ascii m t (fun i hi=>by simpa using h (i + 1) (by omega))
   simpa using this
def bl (s : Str) : List Nat:=s.data.toList.map (·.toNat)
theorem bl_len (s : Str) : (bl s).length = s.size:=by unfold bl;rw [List.length_map,Array.length_toList];rfl
theorem bl_lt {s : Str} {i b : Nat} (h : (bl s)[i]? = some b) : b < 256:=by
 unfold bl at h
 rw [List.getElem?_map] at h
 obtain ⟨x,_,rfl⟩:=Option.map_eq_some_iff.1 h
 exact x.toNat_lt
theorem sidx_bl {s : Str} {i : Nat} (h : i < s.size) : ∃ b,(bl s)[i]? = some b ∧ b < 256 ∧ sidxO s (i : Int) = some (b : Int):=by
 have hl : i < s.data.size:=h
 have e : (bl s)[i]? = some s.data[i].toNat:=by
  unfold bl
  rw [List.getElem?_map,Array.getElem?_toList,Array.getElem?_eq_getElem hl];rfl
 refine ⟨_,e,bl_lt e,?_⟩
 unfold sidxO
 rw [if_pos (by omega),Int.toNat_natCast]
 have : s[i]? = some s[i]:=getElem?_pos s i h
 rw [this];rfl
theorem slc_bl {s : Str} {k : Nat} (h : k ≤ s.size) : ∃ u,sslcO s (k : Int) (s.size : Int) = some u ∧ bl u = (bl s).drop k ∧ u.size = s.size - k:=by
 refine ⟨s.extract k s.size,?_,?_,?_⟩
 ·unfold sslcO
  rw [if_pos ⟨by omega,by omega,by omega⟩,Int.toNat_natCast,Int.toNat_natCast]
 ·unfold bl
  have : (s.extract k s.size).data = s.data.extract k s.size:=by
   rw [ByteArray.data_extract]
  rw [this,Array.toList_extract,← List.map_drop]
  congr 1
  rw [List.extract_eq_take_drop]
  apply List.take_of_length_le
  rw [List.length_drop,Array.length_toList]
  exact Nat.le_refl _
 ·simp
theorem wrap_u64 (x : Int) : IntKind.u64.wrap x = x % 18446744073709551616:=by
 simp [IntKind.wrap,IntKind.bits,IntKind.signed]
theorem or64 {x y : Nat} (hx : x < 18446744073709551616) (hy : y < 18446744073709551616) : bOr .u64 (x : Int) (y : Int) = ((x ||| y : Nat) : Int) ∧ x ||| y < 18446744073709551616:=by
 have hlt : x ||| y < 2 ^ 64:=Nat.or_lt_two_pow hx hy
 refine ⟨?_,hlt⟩
 unfold bOr
 show IntKind.u64.wrap ((BitVec.ofInt 64 (x : Int) ||| BitVec.ofInt 64 (y : Int)).toNat : Int) = _
 rw [BitVec.toNat_or,BitVec.toNat_ofInt,BitVec.toNat_ofInt,wrap_u64]
 have e1 : ((x : Int) % ((2 ^ 64 : Nat) : Int)).toNat = x:=by omega
 have e2 : ((y : Int) % ((2 ^ 64 : Nat) : Int)).toNat = y:=by omega
 rw [e1,e2]
 omega
theorem and64 {x y : Nat} (hx : x < 18446744073709551616) (hy : y < 18446744073709551616) : bAnd .u64 (x : Int) (y : Int) = ((x &&& y : Nat) : Int):=by
 have hlt : x &&& y < 2 ^ 64:=Nat.and_lt_two_pow _ hy
 unfold bAnd
 show IntKind.u64.wrap ((BitVec.ofInt 64 (x : Int) &&& BitVec.ofInt 64 (y : Int)).toNat : Int) = _
 rw [BitVec.toNat_and,BitVec.toNat_ofInt,BitVec.toNat_ofInt,wrap_u64]
 have e1 : ((x : Int) % ((2 ^ 64 : Nat) : Int)).toNat = x:=by omega
 have e2 : ((y : Int) % ((2 ^ 64 : Nat) : Int)).toNat = y:=by omega
 rw [e1,e2]
 omega
theorem shl64 {x k : Nat} (hx : x < 256) (hk : k ≤ 56) : bShl .u64 (x : Int) (k : Int) = ((x * 2 ^ k : Nat) : Int) ∧ x * 2 ^ k < 18446744073709551616:=by
 have h1 : 2 ^ k ≤ 2 ^ 56:=Nat.pow_le_pow_right (by omega) hk
 have h2 : x * 2 ^ k ≤ 255 * 2 ^ 56:=Nat.mul_le_mul (by omega) h1
 have hlt : x * 2 ^ k < 18446744073709551616:=Nat.lt_of_le_of_lt h2 (by decide)
 refine ⟨?_,hlt⟩
 unfold bShl
 have e : min ((k : Int).toNat) IntKind.u64.bits = k:=by
  show min ((k : Int).toNat) 64 = k
  omega
 rw [e,wrap_u64]
 have e2 : (x : Int) * 2 ^ k = ((x * 2 ^ k : Nat) : Int):=by simp
 rw [e2]
 omega
theorem tb7 {b : Nat} (hb : b < 256) (h : b.testBit 7 = false) : b < 128:=by
 rw [Nat.testBit_eq_decide_div_mod_eq] at h
 have:=of_decide_eq_false h
 omega
def mask8 : Nat:=9259542123273814144
theorem part_low {b k : Nat} {X : Nat} (hb : b < 256) (hk : k % 8 = 0) (hk2 : k ≤ 56) (h : (X ||| b * 2 ^ k) &&& mask8 = 0) : b < 128 ∧ X &&& mask8 = 0:=by
 rw [Nat.and_or_distrib_right] at h
 have hor:=Nat.or_eq_zero_iff.1 h
 refine ⟨tb7 hb ?_,hor.1⟩
 have ht : ((b * 2 ^ k) &&& mask8).testBit (k + 7) = false:=by rw [hor.2];simp
 rw [Nat.testBit_and,Nat.testBit_mul_two_pow] at ht
 have hm : mask8.testBit (k + 7) = true:=by
  have : k = 0 ∨ k = 8 ∨ k = 16 ∨ k = 24 ∨ k = 32 ∨ k = 40 ∨ k = 48 ∨ k = 56:=by omega
  rcases this with e | e | e | e | e | e | e | e <;> subst e <;> decide
 rw [hm,Bool.and_true] at ht
 have : k + 7 ≥ k:=by omega
 simpa [this] using ht
theorem part_low0 {b : Nat} (hb : b < 256) (h : b &&& mask8 = 0) : b < 128:=by
 have:=part_low (X:=0) (b:=b) (k:=0) hb rfl (by omega) (by simpa using h)
 exact this.1
end Go.E2
namespace Go.Proofs.YtcfegecdlbbeaaaGreatDoor
open Go Go.E2
def LowN (s : Str) (n : Nat) : Prop:=∀ i,i < n → ∃ b,(bl s)[i]? = some b ∧ b < 128
theorem word_ok {s : Str} (h : 8 ≤ s.size) : ∃ W : Nat,W < 18446744073709551616 ∧ unicode_utf8_word_string s = some (W : Int) ∧ (W &&& mask8 = 0 → LowN s 8):=by
 unfold unicode_utf8_word_string
 rw [sel_false]
 obtain ⟨b0,g0,l0,e0⟩:=sidx_bl (s:=s) (i:=0) (by omega)
 obtain ⟨b1,g1,l1,e1⟩:=sidx_bl (s:=s) (i:=1) (by omega)
 obtain ⟨b2,g2,l2,e2⟩:=sidx_bl (s:=s) (i:=2) (by omega)
 obtain ⟨b3,g3,l3,e3⟩:=sidx_bl (s:=s) (i:=3) (by omega)
 obtain ⟨b4,g4,l4,e4⟩:=sidx_bl (s:=s) (i:=4) (by omega)
 obtain ⟨b5,g5,l5,e5⟩:=sidx_bl (s:=s) (i:=5) (by omega)
 obtain ⟨b6,g6,l6,e6⟩:=sidx_bl (s:=s) (i:=6) (by omega)
 obtain ⟨b7,g7,l7,e7⟩:=sidx_bl (s:=s) (i:=7) (by omega)
 have e0' : sidxO s 0 = some (b0 : Int):=e0
 have e1' : sidxO s 1 = some (b1 : Int):=e1
 have e2' : sidxO s 2 = some (b2 : Int):=e2
 have e3' : sidxO s 3 = some (b3 : Int):=e3
 have e4' : sidxO s 4 = some (b4 : Int):=e4
 have e5' : sidxO s 5 = some (b5 : Int):=e5
 have e6' : sidxO s 6 = some (b6 : Int):=e6
 have e7' : sidxO s 7 = some (b7 : Int):=e7
 have wr : ∀ b : Nat,b < 256 → IntKind.u64.wrap (b : Int) = (b : Int):=fun b hb=>by rw [wrap_u64];omega
 rw [e0',e1',e2',e3',e4',e5',e6',e7']
 simp only [bind_some']
 rw [wr b0 l0,wr b1 l1,wr b2 l2,wr b3 l3,wr b4 l4,wr b5 l5,wr b6 l6,wr b7 l7]
 obtain ⟨s1,k1⟩:=shl64 (x:=b1) (k:=8) l1 (by omega)
 obtain ⟨s2,k2⟩:=shl64 (x:=b2) (k:=16) l2 (by omega)
 obtain ⟨s3,k3⟩:=shl64 (x:=b3) (k:=24) l3 (by omega)
 obtain ⟨s4,k4⟩:=shl64 (x:=b4) (k:=32) l4 (by omega)
 obtain ⟨s5,k5⟩:=shl64 (x:=b5) (k:=40) l5 (by omega)
 obtain ⟨s6,k6⟩:=shl64 (x:=b6) (k:=48) l6 (by omega)
 obtain ⟨s7,k7⟩:=shl64 (x:=b7) (k:=56) l7 (by omega)
 rw [show (8 : Int) = ((8 : Nat) : Int) from rfl,show (16 : Int) = ((16 : Nat) : Int) from rfl,show (24 : Int) = ((24 : Nat) : Int) from rfl,show (32 : Int) = ((32 : Nat) : Int) from rfl,show (40 : Int) = ((40 : Nat) : Int) from rfl,show (48 : Int) = ((48 : Nat) : Int) from rfl,show (56 : Int) = ((56 : Nat) : Int) from rfl]
 rw [s1,s2,s3,s4,s5,s6,s7]
 obtain ⟨o1,p1⟩:=or64 (x:=b0) (y:=b1 * 2 ^ 8) (by omega) k1
 obtain ⟨o2,p2⟩:=or64 (y:=b2 * 2 ^ 16) p1 k2
 obtain ⟨o3,p3⟩:=or64 (y:=b3 * 2 ^ 24) p2 k3
 obtain ⟨o4,p4⟩:=or64 (y:=b4 * 2 ^ 32) p3 k4
 obtain ⟨o5,p5⟩:=or64 (y:=b5 * 2 ^ 40) p4 k5
 obtain ⟨o6,p6⟩:=or64 (y:=b6 * 2 ^ 48) p5 k6
 obtain ⟨o7,p7⟩:=or64 (y:=b7 * 2 ^ 56) p6 k7
 rw [o1,o2,o3,o4,o5,o6,o7]
 refine ⟨_,p7,rfl,fun hm=>?_⟩
 obtain ⟨q7,hm⟩:=part_low l7 (by rfl) (by omega) hm
 obtain ⟨q6,hm⟩:=part_low l6 (by rfl) (by omega) hm
 obtain ⟨q5,hm⟩:=part_low l5 (by rfl) (by omega) hm
 obtain ⟨q4,hm⟩:=part_low l4 (by rfl) (by omega) hm
 obtain ⟨q3,hm⟩:=part_low l3 (by rfl) (by omega) hm
 obtain ⟨q2,hm⟩:=part_low l2 (by rfl) (by omega) hm
 obtain ⟨q1,hm⟩:=part_low l1 (by rfl) (by omega) hm
 have q0:=part_low0 l0 hm
 intro i hi
 match i,hi with
 | 0,_=>exact ⟨b0,g0,q0⟩
 | 1,_=>exact ⟨b1,g1,q1⟩
 | 2,_=>exact ⟨b2,g2,q2⟩
 | 3,_=>exact ⟨b3,g3,q3⟩
 | 4,_=>exact ⟨b4,g4,q4⟩
 | 5,_=>exact ⟨b5,g5,q5⟩
 | 6,_=>exact ⟨b6,g6,q6⟩
 | 7,_=>exact ⟨b7,g7,q7⟩
 | i + 8,h=>omega
theorem LowN.add {s u : Str} {m n : Nat} (h1 : LowN s m) (hu : bl u = (bl s).drop m) (h2 : LowN u n) : LowN s (m + n):=by
 intro i hi
 by_cases h : i < m
 ·exact h1 i h
 ·obtain ⟨b,hb,hlt⟩:=h2 (i - m) (by omega)
  rw [hu,List.getElem?_drop,show m + (i - m) = i by omega] at hb
  exact ⟨b,hb,hlt⟩
theorem masked {W : Nat} (h : W < 18446744073709551616) : ((bAnd .u64 (W : Int) 9259542123273814144) == 0) = decide (W &&& mask8 = 0):=by
 have:=and64 (x:=W) (y:=9259542123273814144) h (by omega)
 have e : bAnd .u64 (W : Int) 9259542123273814144 = ((W &&& 9259542123273814144 : Nat) : Int):=this
 rw [e]
 show (((W &&& mask8 : Nat) : Int) == 0) = _
 by_cases hz : W &&& mask8 = 0
 ·rw [hz];rfl
 ·have : ¬ ((W &&& mask8 : Nat) : Int) = 0:=by omega
  simp [hz]
theorem orz {x y : Nat} (h : (x ||| y) &&& mask8 = 0) : x &&& mask8 = 0 ∧ y &&& mask8 = 0:=by
 rw [Nat.and_or_distrib_right] at h
 exact Nat.or_eq_zero_iff.1 h
structure Skip (s u : Str) (m : Nat) : Prop where
 low : LowN s m
 le : m ≤ s.size
 bytes : bl u = (bl s).drop m
 size : u.size = s.size - m
theorem Skip.refl (s : Str) : Skip s s 0:=⟨fun i hi=>by omega,Nat.zero_le _,by simp,by simp⟩
theorem Skip.trans {s u v : Str} {m n : Nat} (h : Skip s u m) (h' : Skip u v n) : Skip s v (m + n) :=
 ⟨h.low.add h.bytes h'.low,by have:=h.le;have:=h'.le;have:=h.size;omega,by rw [h'.bytes,h.bytes,List.drop_drop],by rw [h'.size,h.size];omega⟩
theorem Skip.vb {s u : Str} {m : Nat} (h : Skip s u m) : vb (bl s) = vb (bl u):=by rw [h.bytes];exact vb_ascii m _ h.low
theorem skip_of {s : Str} {m : Nat} (h : LowN s m) (hm : m ≤ s.size) : ∃ u,sslcO s (m : Int) (s.size : Int) = some u ∧ Skip s u m:=by
 obtain ⟨u,h1,h2,h3⟩:=slc_bl hm
 exact ⟨u,h1,h,hm,h2,h3⟩
theorem L1_ok {k12 : Str → Option Bool} : ∀ (n : Nat) (s : Str),s.size < n → ∃ u m,loopK (unicode_utf8_ValidString_L1 k12) n s = k12 u ∧ Skip s u m:=by
 intro n
 induction n with
 | zero=>intro s h;omega
 | succ n ih =>
  intro s h
  show ∃ u m,unicode_utf8_ValidString_L1 k12 (loopK _ n) s = k12 u ∧ _
  generalize loopK (unicode_utf8_ValidString_L1 k12) n = again at ih ⊢
  unfold unicode_utf8_ValidString_L1
  by_cases h32 : s.size > 32
  ·rw [show decide ((s.size : Int) > 32) = true from decide_eq_true (by omega)]
   simp only [gO_true,Bool.true_and]
   obtain ⟨W0,w0,e0,z0⟩:=word_ok (s:=s) (by omega)
   obtain ⟨u1,f1,g1,r1⟩:=slc_bl (s:=s) (k:=8) (by omega)
   obtain ⟨u2,f2,g2,r2⟩:=slc_bl (s:=s) (k:=16) (by omega)
   obtain ⟨u3,f3,g3,r3⟩:=slc_bl (s:=s) (k:=24) (by omega)
   have f1' : sslcO s 8 (s.size : Int) = some u1:=f1
   have f2' : sslcO s 16 (s.size : Int) = some u2:=f2
   have f3' : sslcO s 24 (s.size : Int) = some u3:=f3
   obtain ⟨W1,w1,e1,z1⟩:=word_ok (s:=u1) (by omega)
   obtain ⟨W2,w2,e2,z2⟩:=word_ok (s:=u2) (by omega)
   obtain ⟨W3,w3,e3,z3⟩:=word_ok (s:=u3) (by omega)
   rw [e0,bind_some',f1',bind_some',e1,bind_some',f2',bind_some',e2,bind_some',f3',bind_some',e3,bind_some']
   obtain ⟨o1,p1⟩:=or64 w0 w1
   obtain ⟨o2,p2⟩:=or64 w2 w3
   obtain ⟨o3,p3⟩:=or64 p1 p2
   rw [o1,o2,o3,masked p3]
   by_cases hz : ((W0 ||| W1) ||| (W2 ||| W3)) &&& mask8 = 0
   ·rw [decide_eq_true hz,sel_true]
    obtain ⟨a,b⟩:=orz hz
    obtain ⟨a0,a1⟩:=orz a
    obtain ⟨a2,a3⟩:=orz b
    have l1 : LowN s (8 + 8):=(z0 a0).add g1 (z1 a1)
    have l2 : LowN s (16 + 8):=l1.add g2 (z2 a2)
    have l3 : LowN s (24 + 8):=l2.add g3 (z3 a3)
    obtain ⟨v,q1,q2⟩:=skip_of (m:=32) l3 (by omega)
    have q1' : sslcO s 32 (s.size : Int) = some v:=q1
    rw [q1',bind_some']
    obtain ⟨u,m,i1,i2⟩:=ih v (by have:=q2.size;omega)
    exact ⟨u,32 + m,i1,q2.trans i2⟩
   ·rw [decide_eq_false hz,sel_false]
    exact ⟨s,0,rfl,Skip.refl s⟩
  ·rw [show decide ((s.size : Int) > 32) = false from decide_eq_false (by omega)]
   simp only [gO_false,bind_some',Bool.false_and,sel_false]
   exact ⟨s,0,rfl,Skip.refl s⟩
theorem ascii_ok {k7 : Str → Option Bool} {x10 : Str} (hN : x10.size ≤ 1000000) : ∃ u m,((gO (decide ((x10.size : Int) > 8)) (unicode_utf8_word_string x10)).bind fun x13=>sel ((decide ((x10.size : Int) > 8)) && ((bAnd .u64 x13 9259542123273814144) == 0)) ((sslcO x10 8 (x10.size : Int)).bind fun x15=>(gO (decide ((x15.size : Int) > 16)) (unicode_utf8_word_string x15)).bind fun x16=>(gO (decide ((x15.size : Int) > 16)) (sslcO x15 8 (x15.size : Int))).bind fun x17=>(gO (decide ((x15.size : Int) > 16)) (unicode_utf8_word_string x17)).bind fun x18=>sel ((decide ((x15.size : Int) > 16)) && ((bAnd .u64 (bOr .u64 x16 x18) 9259542123273814144) == 0)) ((sslcO x15 16 (x15.size : Int)).bind fun x20=>loopK (unicode_utf8_ValidString_L1 k7) N0 x20) (k7 x15)) (k7 x10)) = k7 u ∧ Skip x10 u m:=by
 by_cases h8 : x10.size > 8
 ·rw [show decide ((x10.size : Int) > 8) = true from decide_eq_true (by omega)]
  obtain ⟨W0,w0,e0,z0⟩:=word_ok (s:=x10) (by omega)
  rw [gO_true,e0,bind_some',Bool.true_and,masked w0]
  by_cases hz : W0 &&& mask8 = 0
  ·rw [decide_eq_true hz,sel_true]
   obtain ⟨v,q1,q2⟩:=skip_of (m:=8) (z0 hz) (by omega)
   have q1' : sslcO x10 8 (x10.size : Int) = some v:=q1
   rw [q1',bind_some']
   by_cases h16 : v.size > 16
   ·rw [show decide ((v.size : Int) > 16) = true from decide_eq_true (by omega)]
    simp only [gO_true,Bool.true_and]
    obtain ⟨W1,w1,e1,z1⟩:=word_ok (s:=v) (by omega)
    obtain ⟨u1,f1,g1,r1⟩:=slc_bl (s:=v) (k:=8) (by omega)
    have f1' : sslcO v 8 (v.size : Int) = some u1:=f1
    obtain ⟨W2,w2,e2,z2⟩:=word_ok (s:=u1) (by omega)
    rw [e1,bind_some',f1',bind_some',e2,bind_some']
    obtain ⟨o1,p1⟩:=or64 w1 w2
    rw [o1,masked p1]
    by_cases hz2 : (W1 ||| W2) &&& mask8 = 0
    ·rw [decide_eq_true hz2,sel_true]
     obtain ⟨a,b⟩:=orz hz2
     obtain ⟨v2,q3,q4⟩:=skip_of (m:=16) ((z1 a).add g1 (z2 b)) (by omega)
     have q3' : sslcO v 16 (v.size : Int) = some v2:=q3
     rw [q3',bind_some']
     obtain ⟨u,m,i1,i2⟩:=L1_ok (k12:=k7) N0 v2 (by have:=q4.size;have:=q2.size;unfold N0;omega)
     exact ⟨u,_,i1,(q2.trans q4).trans i2⟩
    ·rw [decide_eq_false hz2,sel_false]
     exact ⟨v,_,rfl,q2⟩
   ·rw [show decide ((v.size : Int) > 16) = false from decide_eq_false (by omega)]
    simp only [gO_false,bind_some',Bool.false_and,sel_false]
    exact ⟨v,_,rfl,q2⟩
  ·rw [decide_eq_false hz,sel_false]
   exact ⟨x10,0,rfl,Skip.refl _⟩
 ·rw [show decide ((x10.size : Int) > 8) = false from decide_eq_false (by omega)]
  simp only [gO_false,bind_some',Bool.false_and,sel_false]
  exact ⟨x10,0,rfl,Skip.refl _⟩
def chkT (b : Nat) : Bool:=match utf8First[b]? with
 | some x=>match idxO utf8Accept (bShr .u8 x 4) with
  | some a=>if b < 128 then true else if b < 194 then IntKind.i64.wrap (bAnd .u8 x 7) == 1 else if b < 224 then IntKind.i64.wrap (bAnd .u8 x 7) == 2 && a.1 == 128 && a.2 == 191
   else if b < 240 then IntKind.i64.wrap (bAnd .u8 x 7) == 3 && a.1 == (lo2 b : Int) && a.2 == (hi2 b : Int) else if b < 245 then IntKind.i64.wrap (bAnd .u8 x 7) == 4 && a.1 == (lo2 b : Int) && a.2 == (hi2 b : Int) else IntKind.i64.wrap (bAnd .u8 x 7) == 1
  | none=>false
 | none=>false
theorem chkT_all : ((List.range 256).all chkT) = true:=by decide +kernel
theorem tabs {b : Nat} (hb : b < 256) : ∃ x a,idxO utf8First (b : Int) = some x ∧ idxO utf8Accept (bShr .u8 x 4) = some a ∧ (128 ≤ b → (b < 194 → IntKind.i64.wrap (bAnd .u8 x 7) = 1) ∧ (194 ≤ b → b < 224 → IntKind.i64.wrap (bAnd .u8 x 7) = 2 ∧ a.1 = 128 ∧ a.2 = 191) ∧
  (224 ≤ b → b < 240 → IntKind.i64.wrap (bAnd .u8 x 7) = 3 ∧ a.1 = (lo2 b : Int) ∧ a.2 = (hi2 b : Int)) ∧ (240 ≤ b → b < 245 → IntKind.i64.wrap (bAnd .u8 x 7) = 4 ∧ a.1 = (lo2 b : Int) ∧ a.2 = (hi2 b : Int)) ∧ (245 ≤ b → IntKind.i64.wrap (bAnd .u8 x 7) = 1)):=by
 have h:=List.all_eq_true.1 chkT_all b (List.mem_range.2 hb)
 unfold chkT at h
 split at h
 ·rename_i x hx
  split at h
  ·rename_i a ha
   refine ⟨x,a,hx,ha,fun h128=>?_⟩
   rw [if_neg (by omega)] at h
   refine ⟨fun h1=>?_,fun h1 h2=>?_,fun h1 h2=>?_,fun h1 h2=>?_,fun h1=>?_⟩
   ·rw [if_pos h1] at h;simpa using h
   ·rw [if_neg (by omega),if_pos h2] at h;simp at h;exact ⟨h.1.1,h.1.2,h.2⟩
   ·rw [if_neg (by omega),if_neg (by omega),if_pos h2] at h;simp at h;exact ⟨h.1.1,h.1.2,h.2⟩
   ·rw [if_neg (by omega),if_neg (by omega),if_neg (by omega),if_pos h2] at h;simp at h;exact ⟨h.1.1,h.1.2,h.2⟩
   ·rw [if_neg (by omega),if_neg (by omega),if_neg (by omega),if_neg (by omega)] at h;simpa using h
  ·cases h
 ·cases h
theorem head_bl {s : Str} {b : Nat} (h : (bl s)[0]? = some b) : ∃ t,bl s = b :: t:=by
 cases hl : bl s with
 | nil=>rw [hl] at h;cases h
 | cons c t=>rw [hl] at h;cases h;exact ⟨t,rfl⟩
theorem ValidString_eq {s : Str} (hs : s.size ≤ 1000000) : unicode_utf8_ValidString s = some (vb (bl s)):=by
 unfold unicode_utf8_ValidString
 rw [jn_eq]
 have key : ∀ (n : Nat) (s : Str),s.size < n → s.size ≤ 1000000 → loopK (unicode_utf8_ValidString_L2 fun _=>some true) n s = some (vb (bl s)):=by
  intro n
  induction n with
  | zero=>intro s h;omega
  | succ n ih =>
   intro s hn hs
   show unicode_utf8_ValidString_L2 (fun _=>some true) (loopK _ n) s = _
   generalize loopK (unicode_utf8_ValidString_L2 fun _=>some true) n = again at ih ⊢
   unfold unicode_utf8_ValidString_L2
   by_cases h0 : s.size > 0
   ·obtain ⟨b0,g0,l0,e0⟩:=sidx_bl (s:=s) (i:=0) (by omega)
    have e0' : sidxO s 0 = some (b0 : Int):=e0
    obtain ⟨t,ht⟩:=head_bl g0
    have htl : t.length + 1 = s.size:=by rw [← bl_len,ht];rfl
    have hne : bl s ≠ []:=by rw [ht];simp
    rw [show decide ((s.size : Int) > 0) = true from decide_eq_true (by omega),sel_true,jn_eq,e0',bind_some']
    by_cases h128 : b0 < 128
    ·rw [show decide ((b0 : Int) < 128) = true from decide_eq_true (by omega),sel_true]
     obtain ⟨u1,f1,g1,r1⟩:=slc_bl (s:=s) (k:=1) (by omega)
     have f1' : sslcO s 1 (s.size : Int) = some u1:=f1
     rw [f1',bind_some',jn_eq]
     obtain ⟨u,m,i1,i2⟩:=ascii_ok (k7:=again) (x10:=u1) (by omega)
     refine Eq.trans i1 ?_
     rw [ih u (by have:=i2.size;omega) (by have:=i2.size;omega)]
     have hst : stp (bl s) = some 1:=by rw [ht];unfold stp;simp [h128]
     rw [vb_step hst,← g1,i2.vb]
    ·rw [show decide ((b0 : Int) < 128) = false from decide_eq_false (by omega),sel_false]
     obtain ⟨x,a,t1,t2,t3⟩:=tabs l0
     obtain ⟨c1,c2,c3,c4,c5⟩:=t3 (by omega)
     rw [t1,bind_some',t2,bind_some']
     by_cases hlow : b0 < 194
     ·rw [c1 hlow]
      have hst : stp (bl s) = none:=by rw [ht];unfold stp;simp [h128,hlow]
      rw [vb_none hst hne];rfl
     ·by_cases hhigh : 245 ≤ b0
      ·rw [c5 hhigh]
       have hst : stp (bl s) = none:=by rw [ht];unfold stp;simp [h128,hlow,show ¬ b0 < 224 by omega,show ¬ b0 < 240 by omega,show ¬ b0 < 245 by omega]
       rw [vb_none hst hne];rfl
      ·by_cases hb2 : b0 < 224
       ·-- two bytes
        obtain ⟨k1,k2,k3⟩:=c2 (by omega) hb2
        rw [k1,k2,k3,show ((2 : Int) == 2) = true from rfl,sel_true]
        by_cases hs2 : s.size < 2
        ·have hst : stp (bl s) = none:=by
          have : t = []:=List.eq_nil_of_length_eq_zero (by omega)
          rw [ht,this];unfold stp;simp [h128,hlow,hb2]
         rw [vb_none hst hne,show decide ((s.size : Int) < 2) = true from decide_eq_true (by omega)]
         simp
        ·obtain ⟨b1,g1,l1,e1⟩:=sidx_bl (s:=s) (i:=1) (by omega)
         have e1' : sidxO s 1 = some (b1 : Int):=e1
         obtain ⟨t1,ht1⟩ : ∃ t1,t = b1 :: t1:=by
          rw [ht] at g1
          cases t with
          | nil=>simp at g1
          | cons c t1=>simp at g1;subst g1;exact ⟨t1,rfl⟩
         subst ht1
         rw [show decide ((s.size : Int) < 2) = false from decide_eq_false (by omega),e1']
         by_cases d1 : b1 < 128
         ·have hst : stp (bl s) = none:=by rw [ht];unfold stp;simp [h128,hlow,hb2,ctn,show ¬ 128 ≤ b1 by omega]
          rw [vb_none hst hne]
          simp [show ((b1 : Int) < 128) by omega]
         ·by_cases d2 : 191 < b1
          ·have hst : stp (bl s) = none:=by rw [ht];unfold stp;simp [h128,hlow,hb2,ctn,show ¬ b1 ≤ 191 by omega]
           rw [vb_none hst hne]
           simp [show ¬ ((b1 : Int) < 128) by omega,show ((191 : Int) < b1) by omega]
          ·have hst : stp (bl s) = some 2:=by rw [ht];unfold stp;simp [h128,hlow,hb2,ctn,show 128 ≤ b1 by omega,show b1 ≤ 191 by omega]
           obtain ⟨u,f1,g2,r1⟩:=slc_bl (s:=s) (k:=2) (by omega)
           have f1' : sslcO s 2 (s.size : Int) = some u:=f1
           rw [vb_step hst,← g2,f1']
           simp [show ¬ ((b1 : Int) < 128) by omega,show ¬ ((191 : Int) < b1) by omega]
           exact ih u (by omega) (by omega)
       ·by_cases hb3 : b0 < 240
        ·-- three bytes
         obtain ⟨k1,k2,k3⟩:=c3 (by omega) hb3
         rw [k1,k2,k3,show ((3 : Int) == 2) = false from rfl,sel_false,show ((3 : Int) == 3) = true from rfl,sel_true]
         by_cases hs3 : s.size < 3
         ·have hst : stp (bl s) = none:=by
           rw [ht]
           match t,htl with
           | [],_=>unfold stp;simp [h128,hlow,hb2,hb3]
           | [_],_=>unfold stp;simp [h128,hlow,hb2,hb3]
           | _ :: _ :: _,h=>simp at h;omega
          rw [vb_none hst hne,show decide ((s.size : Int) < 3) = true from decide_eq_true (by omega)]
          simp
         ·obtain ⟨b1,g1,l1,e1⟩:=sidx_bl (s:=s) (i:=1) (by omega)
          obtain ⟨b2,g2,l2,e2⟩:=sidx_bl (s:=s) (i:=2) (by omega)
          have e1' : sidxO s 1 = some (b1 : Int):=e1
          have e2' : sidxO s 2 = some (b2 : Int):=e2
          obtain ⟨t2,ht2⟩ : ∃ t2,t = b1 :: b2 :: t2:=by
           rw [ht] at g1 g2
           match t with
           | []=>simp at g1
           | [_]=>simp at g2
           | c :: d :: t2=>simp at g1 g2;subst g1;subst g2;exact ⟨t2,rfl⟩
          subst ht2
          rw [show decide ((s.size : Int) < 3) = false from decide_eq_false (by omega),e1',e2']
          have stn : ¬ (lo2 b0 ≤ b1 ∧ b1 ≤ hi2 b0 ∧ ctn b2 = true) → vb (bl s) = false:=fun hn=>vb_none (by rw [ht];unfold stp;simp [h128,hlow,hb2,hb3];simpa using hn) hne
          by_cases d1 : b1 < lo2 b0
          ·rw [stn (fun h=>by omega)]
           simp [show ((b1 : Int) < (lo2 b0 : Int)) by omega]
          ·by_cases d2 : hi2 b0 < b1
           ·rw [stn (fun h=>by omega)]
            simp [show ¬ ((b1 : Int) < (lo2 b0 : Int)) by omega,show ((hi2 b0 : Int) < (b1 : Int)) by omega]
           ·by_cases d3 : b2 < 128
            ·rw [stn (fun h=>by have:=h.2.2;simp [ctn] at this;omega)]
             simp [show ¬ ((b1 : Int) < (lo2 b0 : Int)) by omega,show ¬ ((hi2 b0 : Int) < (b1 : Int)) by omega,show ((b2 : Int) < 128) by omega]
            ·by_cases d4 : 191 < b2
             ·rw [stn (fun h=>by have:=h.2.2;simp [ctn] at this;omega)]
              simp [show ¬ ((b1 : Int) < (lo2 b0 : Int)) by omega,show ¬ ((hi2 b0 : Int) < (b1 : Int)) by omega,show ¬ ((b2 : Int) < 128) by omega,show ((191 : Int) < b2) by omega]
             ·have hst : stp (bl s) = some 3:=by rw [ht];unfold stp;simp [h128,hlow,hb2,hb3,ctn,show 128 ≤ b2 by omega,show b2 ≤ 191 by omega,show lo2 b0 ≤ b1 by omega,show b1 ≤ hi2 b0 by omega]
              obtain ⟨u,f1,g3,r1⟩:=slc_bl (s:=s) (k:=3) (by omega)
              have f1' : sslcO s 3 (s.size : Int) = some u:=f1
              rw [vb_step hst,← g3,f1']
              simp [show ¬ ((b1 : Int) < (lo2 b0 : Int)) by omega,show ¬ ((hi2 b0 : Int) < (b1 : Int)) by omega,show ¬ ((b2 : Int) < 128) by omega,show ¬ ((191 : Int) < b2) by omega]
              exact ih u (by omega) (by omega)
        ·-- four bytes
         obtain ⟨k1,k2,k3⟩:=c4 (by omega) (by omega)
         have hb4 : b0 < 245:=by omega
         rw [k1,k2,k3,show ((4 : Int) == 2) = false from rfl,sel_false,show ((4 : Int) == 3) = false from rfl,sel_false,show ((4 : Int) == 4) = true from rfl,sel_true]
         by_cases hs4 : s.size < 4
         ·have hst : stp (bl s) = none:=by
           rw [ht]
           match t,htl with
           | [],_=>unfold stp;simp [h128,hlow,hb2,hb3,hb4]
           | [_],_=>unfold stp;simp [h128,hlow,hb2,hb3,hb4]
           | [_,_],_=>unfold stp;simp [h128,hlow,hb2,hb3,hb4]
           | _ :: _ :: _ :: _,h=>simp at h;omega
          rw [vb_none hst hne,show decide ((s.size : Int) < 4) = true from decide_eq_true (by omega)]
          simp
         ·obtain ⟨b1,g1,l1,e1⟩:=sidx_bl (s:=s) (i:=1) (by omega)
          obtain ⟨b2,g2,l2,e2⟩:=sidx_bl (s:=s) (i:=2) (by omega)
          obtain ⟨b3,g3,l3,e3⟩:=sidx_bl (s:=s) (i:=3) (by omega)
          have e1' : sidxO s 1 = some (b1 : Int):=e1
          have e2' : sidxO s 2 = some (b2 : Int):=e2
          have e3' : sidxO s 3 = some (b3 : Int):=e3
          obtain ⟨t2,ht2⟩ : ∃ t2,t = b1 :: b2 :: b3 :: t2:=by
           rw [ht] at g1 g2 g3
           match t with
           | []=>simp at g1
           | [_]=>simp at g2
           | [_,_]=>simp at g3
           | c :: d :: e :: t2=>simp at g1 g2 g3;subst g1;subst g2;subst g3;exact ⟨t2,rfl⟩
          subst ht2
          rw [show decide ((s.size : Int) < 4) = false from decide_eq_false (by omega),e1',e2',e3']
          have stn : ¬ (lo2 b0 ≤ b1 ∧ b1 ≤ hi2 b0 ∧ ctn b2 = true ∧ ctn b3 = true) → vb (bl s) = false:=fun hn=>vb_none (by rw [ht];unfold stp;simp [h128,hlow,hb2,hb3,hb4];simpa using hn) hne
          by_cases d1 : b1 < lo2 b0
          ·rw [stn (fun h=>by omega)]
           simp [show ((b1 : Int) < (lo2 b0 : Int)) by omega]
          ·by_cases d2 : hi2 b0 < b1
           ·rw [stn (fun h=>by omega)]
            simp [show ¬ ((b1 : Int) < (lo2 b0 : Int)) by omega,show ((hi2 b0 : Int) < (b1 : Int)) by omega]
           ·by_cases d3 : b2 < 128
            ·rw [stn (fun h=>by have:=h.2.2.1;simp [ctn] at this;omega)]
             simp [show ¬ ((b1 : Int) < (lo2 b0 : Int)) by omega,show ¬ ((hi2 b0 : Int) < (b1 : Int)) by omega,show ((b2 : Int) < 128) by omega]
            ·by_cases d4 : 191 < b2
             ·rw [stn (fun h=>by have:=h.2.2.1;simp [ctn] at this;omega)]
              simp [show ¬ ((b1 : Int) < (lo2 b0 : Int)) by omega,show ¬ ((hi2 b0 : Int) < (b1 : Int)) by omega,show ¬ ((b2 : Int) < 128) by omega,show ((191 : Int) < b2) by omega]
             ·by_cases d5 : b3 < 128
              ·rw [stn (fun h=>by have:=h.2.2.2;simp [ctn] at this;omega)]
               simp [show ¬ ((b1 : Int) < (lo2 b0 : Int)) by omega,show ¬ ((hi2 b0 : Int) < (b1 : Int)) by omega,show ¬ ((b2 : Int) < 128) by omega,show ¬ ((191 : Int) < b2) by omega,show ((b3 : Int) < 128) by omega]
              ·by_cases d6 : 191 < b3
               ·rw [stn (fun h=>by have:=h.2.2.2;simp [ctn] at this;omega)]
                simp [show ¬ ((b1 : Int) < (lo2 b0 : Int)) by omega,show ¬ ((hi2 b0 : Int) < (b1 : Int)) by omega,show ¬ ((b2 : Int) < 128) by omega,show ¬ ((191 : Int) < b2) by omega,show ¬ ((b3 : Int) < 128) by omega,show ((191 : Int) < b3) by omega]
               ·have hst : stp (bl s) = some 4:=by rw [ht];unfold stp;simp [h128,hlow,hb2,hb3,hb4,ctn,show 128 ≤ b2 by omega,show b2 ≤ 191 by omega,show lo2 b0 ≤ b1 by omega,show b1 ≤ hi2 b0 by omega,show 128 ≤ b3 by omega,show b3 ≤ 191 by omega]
                obtain ⟨u,f1,g4,r1⟩:=slc_bl (s:=s) (k:=4) (by omega)
                have f1' : sslcO s 4 (s.size : Int) = some u:=f1
                rw [vb_step hst,← g4,f1']
                simp [show ¬ ((b1 : Int) < (lo2 b0 : Int)) by omega,show ¬ ((hi2 b0 : Int) < (b1 : Int)) by omega,show ¬ ((b2 : Int) < 128) by omega,show ¬ ((191 : Int) < b2) by omega,show ¬ ((b3 : Int) < 128) by omega,show ¬ ((191 : Int) < b3) by omega]
                exact ih u (by omega) (by omega)
   ·rw [show decide ((s.size : Int) > 0) = false from decide_eq_false (by omega),sel_false]
    have : bl s = []:=List.eq_nil_of_length_eq_zero (by rw [bl_len];omega)
    rw [this];rfl
 exact key N0 s (by unfold N0;omega) hs
end Go.Proofs.YtcfegecdlbbeaaaGreatDoor
end
section
namespace Go.Proofs.YtcfegecdlbbeaaaGreatDoor
open Go Go.E2
def dcd (l : List Nat) : Nat × Nat :=
 let at' (k : Nat) : Nat:=l.getD k 0
 let cont (k : Nat) : Bool:=decide (k < l.length) && at' k / 64 == 2
 let b0:=at' 0
 if b0 < 0x80 then (b0,1)
 else if b0 / 32 == 6 && cont 1 then
  let c:=(b0 % 32) * 64 + at' 1 % 64
  if c ≥ 0x80 then (c,2) else (65533,1)
 else if b0 / 16 == 14 && cont 1 && cont 2 then
  let c:=(b0 % 16) * 4096 + (at' 1 % 64) * 64 + at' 2 % 64
  if c ≥ 0x800 && Utf8.valid c then (c,3) else (65533,1)
 else if b0 / 8 == 30 && cont 1 && cont 2 && cont 3 then
  let c:=(b0 % 8) * 262144 + (at' 1 % 64) * 4096 + (at' 2 % 64) * 64 + at' 3 % 64
  if c ≥ 0x10000 && Utf8.valid c then (c,4) else (65533,1)
 else (65533,1)
theorem get_bl (s : Str) (j : Nat) : (s.get! j).toNat = (bl s).getD j 0:=by
 unfold bl
 rw [List.getD_eq_getElem?_getD,List.getElem?_map,Array.getElem?_toList]
 obtain ⟨d⟩:=s
 show (d[j]!).toNat = _
 rw [getElem!_def]
 cases d[j]? <;> rfl
theorem decode_bl (s : Str) (i : Nat) : Utf8.decode s i = dcd ((bl s).drop i):=by
 have e1 : ∀ k,(s.get! (i + k)).toNat = ((bl s).drop i).getD k 0:=fun k=>by
  rw [get_bl,List.getD_eq_getElem?_getD,List.getD_eq_getElem?_getD,List.getElem?_drop]
 have e2 : ∀ k,decide (i + k < s.size) = decide (k < ((bl s).drop i).length):=fun k=>by
  rw [List.length_drop,bl_len]
  exact decide_eq_decide.2 (by omega)
 unfold Utf8.decode dcd
 simp only [e1,e2];rfl
def encN (c : Nat) : List Nat :=
 if c < 0x80 then [c] else if c < 0x800 then [192 + c / 64,128 + c % 64] else if c < 0x10000 then [224 + c / 4096,128 + c / 64 % 64,128 + c % 64]
 else [240 + c / 262144,128 + c / 4096 % 64,128 + c / 64 % 64,128 + c % 64]
theorem u8s (n : Nat) (h : n < 256) : (UInt8.ofNat n).toNat = n:=by rw [UInt8.toNat_ofNat'];exact Nat.mod_eq_of_lt h
theorem encode_bl {c : Nat} (h : Utf8.valid (c : Int) = true) : bl (Utf8.encode (c : Int)) = encN c:=by
 have hc : c ≤ 1114111:=by
  unfold Utf8.valid at h
  simp at h
  omega
 have hd : c / 64 / 64 = c / 4096:=by omega
 have he : c / 4096 / 64 = c / 262144:=by omega
 unfold Utf8.encode encN
 simp only [h,if_true,Int.toNat_natCast]
 split
 ·show [(UInt8.ofNat c).toNat] = _
  rw [u8s c (by omega)]
 ·split
  ·show [(UInt8.ofNat _).toNat,(UInt8.ofNat _).toNat] = _
   rw [u8s _ (by omega),u8s _ (by omega)]
  ·split
   ·show [(UInt8.ofNat _).toNat,(UInt8.ofNat _).toNat,(UInt8.ofNat _).toNat] = _
    rw [u8s _ (by omega),u8s _ (by omega),u8s _ (by omega)]
   ·show [(UInt8.ofNat _).toNat,(UInt8.ofNat _).toNat,(UInt8.ofNat _).toNat,(UInt8.ofNat _).toNat] = _
    rw [u8s _ (by omega),u8s _ (by omega),u8s _ (by omega),u8s _ (by omega)]
theorem valid_iff (c : Nat) : Utf8.valid (c : Int) = true ↔ (c < 55296 ∨ (57344 ≤ c ∧ c ≤ 1114111)):=by
 unfold Utf8.valid
 simp
 omega
theorem ctn_iff (b : Nat) : ctn b = true ↔ b / 64 = 2:=by
 unfold ctn;simp;omega
theorem lohi (b c : Nat) : (lo2 b ≤ c ∧ c ≤ hi2 b) ↔ (128 ≤ c ∧ c ≤ 191 ∧ (b ≠ 224 ∨ 160 ≤ c) ∧ (b ≠ 240 ∨ 144 ≤ c) ∧ (b ≠ 237 ∨ c ≤ 159) ∧ (b ≠ 244 ∨ c ≤ 143)):=by
 unfold lo2 hi2
 by_cases h1 : b = 224 <;> by_cases h2 : b = 240 <;> by_cases h3 : b = 237 <;> by_cases h4 : b = 244 <;> simp [h1,h2,h3,h4] <;> omega
theorem stp_form {l : List Nat} (hne : l ≠ []) : stp l = if l.getD 0 0 < 128 then some 1 else
  if 194 ≤ l.getD 0 0 ∧ l.getD 0 0 < 224 ∧ 1 < l.length ∧ l.getD 1 0 / 64 = 2 then some 2 else
  if 224 ≤ l.getD 0 0 ∧ l.getD 0 0 < 240 ∧ 2 < l.length ∧ (lo2 (l.getD 0 0) ≤ l.getD 1 0 ∧ l.getD 1 0 ≤ hi2 (l.getD 0 0)) ∧ l.getD 2 0 / 64 = 2 then some 3 else
  if 240 ≤ l.getD 0 0 ∧ l.getD 0 0 < 245 ∧ 3 < l.length ∧ (lo2 (l.getD 0 0) ≤ l.getD 1 0 ∧ l.getD 1 0 ≤ hi2 (l.getD 0 0)) ∧ l.getD 2 0 / 64 = 2 ∧ l.getD 3 0 / 64 = 2 then some 4 else none:=by
 obtain ⟨b0,t,rfl⟩:=List.exists_cons_of_ne_nil hne
 unfold stp
 simp only [List.getD_cons_zero,List.getD_cons_succ,List.length_cons,ctn_iff]
 by_cases c1 : b0 < 128
 ·simp [c1]
 ·by_cases c2 : b0 < 194
  ·simp [c1,c2,show ¬ 194 ≤ b0 by omega,show ¬ 224 ≤ b0 by omega,show ¬ 240 ≤ b0 by omega]
  ·by_cases c3 : b0 < 224
   ·cases t <;> simp [c1,c2,c3,show 194 ≤ b0 by omega,show ¬ 224 ≤ b0 by omega,show ¬ 240 ≤ b0 by omega]
   ·by_cases c4 : b0 < 240
    ·rcases t with _ | ⟨b1,_ | ⟨b2,t⟩⟩ <;> simp [c1,c2,c3,c4,show 224 ≤ b0 by omega,show ¬ 240 ≤ b0 by omega,and_assoc]
    ·by_cases c5 : b0 < 245
     ·rcases t with _ | ⟨b1,_ | ⟨b2,_ | ⟨b3,t⟩⟩⟩ <;> simp [c1,c2,c3,c4,c5,show 240 ≤ b0 by omega,and_assoc]
     ·simp [c1,c2,c3,c4,c5]
theorem dcd_form (l : List Nat) : dcd l = if l.getD 0 0 < 128 then (l.getD 0 0,1) else
  if l.getD 0 0 / 32 = 6 ∧ 1 < l.length ∧ l.getD 1 0 / 64 = 2 then (if 128 ≤ (l.getD 0 0 % 32) * 64 + l.getD 1 0 % 64 then ((l.getD 0 0 % 32) * 64 + l.getD 1 0 % 64,2) else (65533,1)) else
  if l.getD 0 0 / 16 = 14 ∧ (1 < l.length ∧ l.getD 1 0 / 64 = 2) ∧ (2 < l.length ∧ l.getD 2 0 / 64 = 2) then
   (if 2048 ≤ (l.getD 0 0 % 16) * 4096 + (l.getD 1 0 % 64) * 64 + l.getD 2 0 % 64 ∧ Utf8.valid (((l.getD 0 0 % 16) * 4096 + (l.getD 1 0 % 64) * 64 + l.getD 2 0 % 64 : Nat) : Int) = true then
    ((l.getD 0 0 % 16) * 4096 + (l.getD 1 0 % 64) * 64 + l.getD 2 0 % 64,3) else (65533,1)) else
  if l.getD 0 0 / 8 = 30 ∧ (1 < l.length ∧ l.getD 1 0 / 64 = 2) ∧ (2 < l.length ∧ l.getD 2 0 / 64 = 2) ∧ (3 < l.length ∧ l.getD 3 0 / 64 = 2) then
   (if 65536 ≤ (l.getD 0 0 % 8) * 262144 + (l.getD 1 0 % 64) * 4096 + (l.getD 2 0 % 64) * 64 + l.getD 3 0 % 64 ∧ Utf8.valid (((l.getD 0 0 % 8) * 262144 + (l.getD 1 0 % 64) * 4096 + (l.getD 2 0 % 64) * 64 + l.getD 3 0 % 64 : Nat) : Int) = true then
    ((l.getD 0 0 % 8) * 262144 + (l.getD 1 0 % 64) * 4096 + (l.getD 2 0 % 64) * 64 + l.getD 3 0 % 64,4) else (65533,1)) else (65533,1):=by
 unfold dcd
 simp only [Bool.and_eq_true,decide_eq_true_eq,beq_iff_eq,and_assoc,ge_iff_le]
theorem dcd_bad {l : List Nat} (h : stp l = none) (hne : l ≠ []) : dcd l = (65533,1):=by
 rw [stp_form hne] at h
 rw [dcd_form]
 simp only [lohi] at h
 generalize l.getD 0 0 = b0 at h ⊢
 generalize l.getD 1 0 = b1 at h ⊢
 generalize l.getD 2 0 = b2 at h ⊢
 generalize l.getD 3 0 = b3 at h ⊢
 simp only [valid_iff]
 repeat' (split at h <;> first | cases h | skip)
 repeat' split
 all_goals first | rfl | (exfalso;omega)
theorem dcd_good {l : List Nat} {k : Nat} (h : stp l = some k) : ∃ c,dcd l = (c,k) ∧ Utf8.valid (c : Int) = true ∧ encN c = l.take k:=by
 have hne : l ≠ []:=by rintro rfl;cases h
 rw [stp_form hne] at h
 rw [dcd_form]
 simp only [lohi] at h
 have htake : ∀ m,m ≤ l.length → l.take m = (List.range m).map fun i=>l.getD i 0:=fun m hm=>by
  apply List.ext_getElem
  ·simp;omega
  ·intro i h1 h2
   simp at h1 h2 ⊢
   rw [List.getElem?_eq_getElem (by omega)];rfl
 have hl1 : 1 ≤ l.length:=List.length_pos_iff.2 hne
 have hv : ∀ c : Nat,Utf8.valid (c : Int) = true ↔ _:=valid_iff
 split at h
 ·rename_i h1
  cases h
  refine ⟨_,by rw [if_pos h1],?_,?_⟩
  ·rw [valid_iff];omega
  ·rw [htake 1 hl1];unfold encN;rw [if_pos h1];rfl
 ·rename_i h1
  rw [if_neg h1]
  split at h
  ·rename_i h2
   cases h
   rw [if_pos (by omega),if_pos (by omega)]
   refine ⟨_,rfl,?_,?_⟩
   ·rw [valid_iff];omega
   ·rw [htake 2 (by omega)];unfold encN;rw [if_neg (by omega),if_pos (by omega)]
    show _ = [l.getD 0 0,l.getD 1 0]
    generalize l.getD 0 0 = b0 at *
    generalize l.getD 1 0 = b1 at *
    congr 1
    ·omega
    ·congr 1;omega
  ·rename_i h2
   split at h
   ·rename_i h3
    cases h
    rw [if_neg (by omega),if_pos (by omega),if_pos (by rw [valid_iff];omega)]
    refine ⟨_,rfl,?_,?_⟩
    ·rw [valid_iff];omega
    ·rw [htake 3 (by omega)];unfold encN;rw [if_neg (by omega),if_neg (by omega),if_pos (by omega)]
     show _ = [l.getD 0 0,l.getD 1 0,l.getD 2 0]
     generalize l.getD 0 0 = b0 at *
     generalize l.getD 1 0 = b1 at *
     generalize l.getD 2 0 = b2 at *
     congr 1
     ·omega
     ·congr 1
      ·omega
      ·congr 1;omega
   ·rename_i h3
    split at h
    ·rename_i h4
     cases h
     rw [if_neg (by omega),if_neg (by omega),if_pos (by omega),if_pos (by rw [valid_iff];omega)]
     refine ⟨_,rfl,?_,?_⟩
     ·rw [valid_iff];omega
     ·rw [htake 4 (by omega)];unfold encN;rw [if_neg (by omega),if_neg (by omega),if_neg (by omega)]
      show _ = [l.getD 0 0,l.getD 1 0,l.getD 2 0,l.getD 3 0]
      generalize l.getD 0 0 = b0 at *
      generalize l.getD 1 0 = b1 at *
      generalize l.getD 2 0 = b2 at *
      generalize l.getD 3 0 = b3 at *
      congr 1
      ·omega
      ·congr 1
       ·omega
       ·congr 1
        ·omega
        ·congr 1;omega
    ·cases h
theorem bl_app (a b : Str) : bl (a ++ b) = bl a ++ bl b:=by
 unfold bl
 rw [ByteArray.data_append,Array.toList_append,List.map_append]
theorem bl_inj {a b : Str} (h : bl a = bl b) : a = b:=by
 obtain ⟨a⟩:=a;obtain ⟨b⟩:=b
 congr
 apply Array.toList_inj.1
 exact (List.map_inj_right (fun x y h=>UInt8.toNat_inj.1 h)).1 h
theorem fold_bl : ∀ (l : List Int) (a : Str),bl (l.foldl (fun s n=>s ++ Utf8.encode n) a) = bl a ++ l.flatMap fun c=>bl (Utf8.encode c)
 | [],a=>by simp
 | c :: l,a=>by
  rw [List.foldl_cons,fold_bl l,bl_app,List.flatMap_cons,List.append_assoc]
theorem runesF_bl (s : Str) : ∀ (n i : Nat),s.size ≤ i + n → (vb ((bl s).drop i) = true → ((runesF s n i).flatMap fun c=>bl (Utf8.encode c)) = (bl s).drop i) ∧
  (vb ((bl s).drop i) = false → ((bl s).drop i).length < ((runesF s n i).flatMap fun c=>bl (Utf8.encode c)).length)
 | 0,i,h=>by
  have e : (bl s).drop i = []:=List.drop_eq_nil_of_le (by rw [bl_len];omega)
  rw [e]
  exact ⟨fun _=>rfl,fun h=>by cases h⟩
 | n + 1,i,h=>by
  unfold runesF
  by_cases hi : i < s.size
  ·rw [if_pos hi,decode_bl,List.flatMap_cons]
   have hne : (bl s).drop i ≠ []:=by
    intro e
    have:=congrArg List.length e
    rw [List.length_drop,bl_len] at this
    simp at this;omega
   cases hs : stp ((bl s).drop i) with
   | some k =>
    obtain ⟨c,d1,d2,d3⟩:=dcd_good hs
    obtain ⟨k1,k2⟩:=stp_pos hs
    rw [d1,vb_step hs,List.drop_drop]
    show (_ → bl (Utf8.encode (c : Int)) ++ ((runesF s n (i + k)).flatMap fun c=>bl (Utf8.encode c)) = _) ∧ (_ → _ < (bl (Utf8.encode (c : Int)) ++ ((runesF s n (i + k)).flatMap fun c=>bl (Utf8.encode c))).length)
    rw [encode_bl d2,d3]
    obtain ⟨r1,r2⟩:=runesF_bl s n (i + k) (by omega)
    refine ⟨fun h=>?_,fun h=>?_⟩
    ·rw [r1 h,← List.drop_drop,List.take_append_drop]
    ·have:=r2 h
     rw [List.length_append,List.length_take]
     rw [List.length_drop] at this k2 ⊢
     omega
   | none =>
    rw [dcd_bad hs hne,vb_none hs hne]
    show (_ → bl (Utf8.encode ((65533 : Nat) : Int)) ++ ((runesF s n (i + 1)).flatMap fun c=>bl (Utf8.encode c)) = _) ∧ (_ → _ < (bl (Utf8.encode ((65533 : Nat) : Int)) ++ ((runesF s n (i + 1)).flatMap fun c=>bl (Utf8.encode c))).length)
    rw [encode_bl (by rw [valid_iff];omega)]
    obtain ⟨r1,r2⟩:=runesF_bl s n (i + 1) (by omega)
    refine ⟨fun h=>by (cases h),fun _=>?_⟩
    rw [List.length_append,List.length_drop]
    have : (encN 65533).length = 3:=by decide
    rw [this]
    cases hv : vb ((bl s).drop (i + 1)) with
    | true=>rw [r1 hv,List.length_drop];omega
    | false=>have:=r2 hv;rw [List.length_drop] at this;omega
  ·have e : (bl s).drop i = []:=List.drop_eq_nil_of_le (by rw [bl_len];omega)
   rw [if_neg hi,e]
   exact ⟨fun _=>rfl,fun h=>by cases h⟩
theorem UTF8_eq (s : Str) : r11_UTF8 s = some (vb (bl s)):=by
 unfold r11_UTF8
 rw [bs_eq]
 congr 1
 have hb : bl (ofRunes (runes s)) = (runesF s s.size 0).flatMap fun c=>bl (Utf8.encode c):=by
  unfold ofRunes runes
  rw [fold_bl];rfl
 obtain ⟨r1,r2⟩:=runesF_bl s s.size 0 (by omega)
 rw [List.drop_zero] at r1 r2
 cases hv : vb (bl s) with
 | true=>exact decide_eq_true (bl_inj (hb.trans (r1 hv)))
 | false =>
  refine decide_eq_false fun e=>?_
  have:=r2 hv
  rw [← hb,e] at this
  omega
end Go.Proofs.YtcfegecdlbbeaaaGreatDoor
end
section
namespace Go.Proofs.YtcfegecdlbbeaaaGreatDoor
open Go Go.E2
def DT : Nat → AType → Prop
 | 0,t=>t.Of = []
 | k + 1,t=>t.Of = [] ∨ ∃ u,t.Of = [u] ∧ t.Kind = 4 ∧ DT k u
theorem DT.leaf {k : Nat} {t : AType} (h : t.Of = []) : DT k t:=by
 cases k with
 | zero=>exact h
 | succ k=>exact .inl h
theorem join_ok : ∀ (k n : Nat) (a b : AType),k < n → DT k a → DT k b → (∃ t,DT k t ∧ ex_join n a b = some (t,true) ∧ r11_join n a b = some (t,true)) ∨
  (ex_join n a b = some (⟨0,[]⟩,false) ∧ r11_join n a b = some (⟨0,[]⟩,false))
 | k,n + 1,a,b,hn,ha,hb=>by
  show (∃ t,DT k t ∧ ex_join_B (ex_join n) a b = _ ∧ r11_join_B (r11_join n) a b = _) ∨ (ex_join_B (ex_join n) a b = _ ∧ r11_join_B (r11_join n) a b = _)
  unfold ex_join_B r11_join_B
  by_cases h1 : a.Kind = b.Kind
  ·rw [show (a.Kind != b.Kind) = false by simp [h1],sel_false,sel_false]
   by_cases h2 : a.Of = []
   ·rw [show ((a.Of.length : Int) == 0) = true by simp [h2],sel_true,sel_true]
    exact .inl ⟨b,hb,rfl,rfl⟩
   ·rw [show ((a.Of.length : Int) == 0) = false by simp [h2],sel_false,sel_false]
    by_cases h3 : b.Of = []
    ·rw [show ((b.Of.length : Int) == 0) = true by simp [h3],sel_true,sel_true]
     exact .inl ⟨a,ha,rfl,rfl⟩
    ·rw [show ((b.Of.length : Int) == 0) = false by simp [h3],sel_false,sel_false]
     cases k with
     | zero=>exact absurd ha h2
     | succ k =>
      obtain ⟨u,u1,u2,u3⟩:=ha.resolve_left h2
      obtain ⟨v,v1,_,v3⟩:=hb.resolve_left h3
      rw [u1,v1]
      show (∃ t,_ ∧ (ex_join n u v).bind _ = _ ∧ (r11_join n u v).bind _ = _) ∨ ((ex_join n u v).bind _ = _ ∧ (r11_join n u v).bind _ = _)
      rcases join_ok k n u v (by omega) u3 v3 with ⟨t,t1,t2,t3⟩ | ⟨t2,t3⟩
      ·rw [t2,t3]
       exact .inl ⟨⟨4,[t]⟩,.inr ⟨t,rfl,rfl,t1⟩,rfl,by rw [u2];rfl⟩
      ·rw [t2,t3]
       exact .inr ⟨rfl,rfl⟩
  ·rw [show (a.Kind != b.Kind) = true by simp [h1],sel_true,sel_true]
   exact .inr ⟨rfl,rfl⟩
theorem AType.eta (t : AType) : AType.mk t.Kind t.Of = t:=by cases t;rfl
def JT (a b : AType) : Option AType:=match r11_join N0 a b with
 | some (t,true)=>some t
 | _=>none
theorem JT_ok {k : Nat} {a b : AType} (hk : k < N0) (ha : DT k a) (hb : DT k b) : (∃ t,JT a b = some t ∧ DT k t ∧ ex_join N0 a b = some (t,true) ∧ r11_join N0 a b = some (t,true)) ∨
  (JT a b = none ∧ ex_join N0 a b = some (⟨0,[]⟩,false) ∧ r11_join N0 a b = some (⟨0,[]⟩,false)):=by
 rcases join_ok k N0 a b hk ha hb with ⟨t,t1,t2,t3⟩ | ⟨t2,t3⟩
 ·exact .inl ⟨t,by unfold JT;rw [t3],t1,t2,t3⟩
 ·exact .inr ⟨by unfold JT;rw [t3],t2,t3⟩
def foldJ : AType → List AType → Option AType
 | t,[]=>some t
 | t,x :: l=>match JT t x with
  | some u=>foldJ u l
  | none=>none
def comS : List AType → Option (List AType)
 | []=>some []
 | t :: l=>match foldJ t l with
  | some u=>some [u]
  | none=>none
theorem foldJ_snoc : ∀ (l : List AType) (t x : AType),foldJ t (l ++ [x]) = match foldJ t l with
  | some u=>JT u x
  | none=>none
 | [],t,x=>by
  show (match JT t x with | some u=>some u | none=>none) = JT t x
  cases JT t x <;> rfl
 | y :: l,t,x=>by
  show (match JT t y with | some u=>foldJ u (l ++ [x]) | none=>none) = match (match JT t y with | some u=>foldJ u l | none=>none) with | some u=>JT u x | none=>none
  cases JT t y with
  | none=>rfl
  | some u=>exact foldJ_snoc l u x
theorem foldJ_DT {k : Nat} (hk : k < N0) : ∀ (l : List AType) (t : AType),DT k t → (∀ x ∈ l,DT k x) → ∀ u,foldJ t l = some u → DT k u
 | [],t,ht,_,u,h=>by cases h;exact ht
 | x :: l,t,ht,hl,u,h=>by
  rcases JT_ok hk ht (hl x (by simp)) with ⟨v,v1,v2,_⟩ | ⟨v1,_⟩
  ·unfold foldJ at h;rw [v1] at h
   exact foldJ_DT hk l v v2 (fun y hy=>hl y (by simp [hy])) u h
  ·unfold foldJ at h;rw [v1] at h;cases h
theorem common_eq {k : Nat} (hk : k < N0) {l : List AType} (hl : ∀ x ∈ l, DT k x) (hn : l.length ≤ 100) : ex_common l = match comS l with
    | some o => some (⟨4, o⟩, true)
    | none => some (⟨0, []⟩, false) := by
  unfold ex_common
  cases l with
  | nil => rfl
  | cons t l =>
    rw [show (((t :: l).length : Int) == 0) = false from by simp; omega, sel_false, show idxO (t :: l) 0 = some t from rfl, bind_some', jn_eq]
    show (slcO (t :: l) 1 ((t :: l).length : Int)).bind _ = _
    have hs : slcO (t :: l) 1 ((t :: l).length : Int) = some l := by
      unfold slcO
      rw [if_pos ⟨by omega, by simp; omega, by omega⟩]
      simp
    rw [hs, bind_some']
    have key : ∀ (r : List AType) (i f : Nat) (t : AType), l.drop i = r → r.length < f → DT k t → loopK (ex_common_L1 (fun s3 => (ex_listOf (AType.mk s3.1 s3.2)).bind fun x5 => some (x5, true)) l) f ((i : Int), t.Kind, t.Of) =
        match foldJ t r with
        | some u => some (⟨4, [u]⟩, true)
        | none => some (⟨0, []⟩, false) := by
      intro r
      induction r with
      | nil =>
        intro i f t hr hf ht
        obtain ⟨f, rfl⟩ : ∃ g, f = g + 1 := ⟨f - 1, by simp at hf; omega⟩
        have hi : l.length ≤ i := List.drop_eq_nil_iff.1 hr
        show ex_common_L1 _ l (loopK _ f) _ = _
        generalize loopK _ f = again
        unfold ex_common_L1
        rw [show decide ((i : Int) < (l.length : Int)) = false from nz_ge hi, sel_false]
        show (ex_listOf (AType.mk t.Kind t.Of)).bind _ = _
        rw [AType.eta]; rfl
      | cons x r ih =>
        intro i f t hr hf ht
        obtain ⟨f, rfl⟩ : ∃ g, f = g + 1 := ⟨f - 1, by simp at hf; omega⟩
        have hi : i < l.length := by
          rcases Nat.lt_or_ge i l.length with h | h
          · exact h
          · rw [List.drop_eq_nil_of_le h] at hr; cases hr
        have hx : l[i]? = some x := by have := congrArg (·[0]?) hr; simpa using this
        show ex_common_L1 _ l (loopK _ f) _ = _
        have ih := fun v hv => ih (i + 1) f v (by rw [← List.drop_drop, hr]; rfl) (by simp at hf; omega) hv
        generalize loopK _ f = again at ih ⊢
        unfold ex_common_L1
        rw [show decide ((i : Int) < (l.length : Int)) = true from nz_lt hi, sel_true, idxO_nat, hx, bind_some']
        rcases JT_ok hk ht (hl x (by simp [List.mem_of_getElem? hx])) with ⟨v, v1, v2, v3, _⟩ | ⟨v1, v3, _⟩
        · have v3' : ex_join N0 (AType.mk t.Kind t.Of) x = some (v, true) := by rw [AType.eta]; exact v3
          show (ex_join N0 (AType.mk t.Kind t.Of) x).bind _ = _
          rw [v3', bind_some']
          show again (IntKind.i64.wrap ((i : Int) + 1), v.Kind, v.Of) = _
          rw [wrap_suc hi (by have : l.length ≤ 100 := by simp at hn; omega
                              unfold N0; omega)]
          rw [ih v v2]
          show _ = match (match JT t x with | some u => foldJ u r | none => none) with | some u => _ | none => _
          rw [v1]
        · have v3' : ex_join N0 (AType.mk t.Kind t.Of) x = some (⟨0, []⟩, false) := by rw [AType.eta]; exact v3
          show (ex_join N0 (AType.mk t.Kind t.Of) x).bind _ = _
          rw [v3', bind_some']
          show _ = match (match JT t x with | some u => foldJ u r | none => none) with | some u => _ | none => _
          rw [v1]; rfl
    have := key l 0 N0 t rfl (by simp at hn; unfold N0; omega) (hl t (by simp))
    refine Eq.trans this ?_
    show _ = match (match foldJ t l with | some u => some [u] | none => none) with | some o => _ | none => _
    cases foldJ t l <;> rfl
theorem comS_snoc (l : List AType) (x : AType) : comS (l ++ [x]) = match comS l with
  | none=>none
  | some []=>some [x]
  | some (t :: _)=>match JT t x with
   | some u=>some [u]
   | none=>none:=by
 cases l with
 | nil=>rfl
 | cons t l =>
  show (match foldJ t (l ++ [x]) with | some u=>some [u] | none=>none) = match (match foldJ t l with | some u=>some [u] | none=>none) with | none=>none | some []=>some [x] | some (t :: _)=>match JT t x with | some u=>some [u] | none=>none
  rw [foldJ_snoc]
  cases foldJ t l <;> rfl
theorem comS_DT {k : Nat} (hk : k < N0) {l o : List AType} (hl : ∀ x ∈ l,DT k x) (h : comS l = some o) : o = [] ∨ ∃ u,o = [u] ∧ DT k u:=by
 cases l with
 | nil=>cases h;exact .inl rfl
 | cons t l =>
  have h' : (match foldJ t l with | some u=>some [u] | none=>none) = some o:=h
  cases hu : foldJ t l with
  | none=>rw [hu] at h';cases h'
  | some u =>
   rw [hu] at h';cases h'
   exact .inr ⟨u,rfl,foldJ_DT hk l t (hl t (by simp)) (fun x hx=>hl x (by simp [hx])) u hu⟩
def RelT (l : List AType) (sm : Bool) (of : List AType) : Prop:=match comS l with
 | some o=>sm = true ∧ of = o
 | none=>sm = false
def Both (d : Nat) (X Y : Option (AType × Int × Int)) : Prop :=
 (∃ e m1 m2,e ≠ 0 ∧ X = some (⟨0,[]⟩,e,m1) ∧ Y = some (⟨0,[]⟩,m2,e)) ∨ (∃ t m,DT d t ∧ 0 ≤ m ∧ m ≤ 1000 ∧ X = some (t,0,m) ∧ Y = some (t,m,0))
theorem kids_ok {d : Nat} (hd : d < N0) {a0 : AValue} {a1 : Int} {se sr : AValue → Int → Int → Option (AType × Int × Int)} (h100 : a0.L.length ≤ 100)
  (hs : ∀ x m,0 ≤ m → m ≤ 1000 → Both d (se x (IntKind.i64.wrap (a1 + 1)) m) (sr x (IntKind.i64.wrap (a1 + 1 + 1)) m))
  {ke : (List AType) × Int → Option (AType × Int × Int)} {kr : Int × Bool × (List AType) → Option (AType × Int × Int)} :
  ∀ (r : List AValue) (i f : Nat) (l : List AType) (m : Int) (sm : Bool) (of : List AType),a0.L.drop i = r → i ≤ a0.L.length → r.length < f → l.length = i → (∀ t ∈ l,DT d t) → 0 ≤ m → m ≤ 1000 → RelT l sm of →
   (∃ e m1 m2,e ≠ 0 ∧ loopK (ex_check_L1 se a0 a1 ke) f (l,(i : Int),m) = some (⟨0,[]⟩,e,m1) ∧ loopK (r11_check_L1 sr a0 (a1 + 1) kr) f (m,sm,(i : Int),of) = some (⟨0,[]⟩,m2,e)) ∨
   (∃ l' m' sm' of',loopK (ex_check_L1 se a0 a1 ke) f (l,(i : Int),m) = ke (l',m') ∧ loopK (r11_check_L1 sr a0 (a1 + 1) kr) f (m,sm,(i : Int),of) = kr (m',sm',of') ∧
    l'.length ≤ 100 ∧ (∀ t ∈ l',DT d t) ∧ 0 ≤ m' ∧ m' ≤ 1000 ∧ RelT l' sm' of'):=by
 intro r
 induction r with
 | nil =>
  intro i f l m sm of hr hil hf hl hD h0 h1 hR
  obtain ⟨f,rfl⟩ : ∃ g,f = g + 1:=⟨f - 1,by simp at hf;omega⟩
  have hi : a0.L.length ≤ i:=List.drop_eq_nil_iff.1 hr
  refine .inr ⟨l,m,sm,of,?_,?_,?_,hD,h0,h1,hR⟩
  ·show ex_check_L1 se a0 a1 ke (loopK _ f) _ = _
   generalize loopK _ f = again
   unfold ex_check_L1
   rw [show decide (((l,(i : Int),m) : List AType × Int × Int).2.1 < (a0.L.length : Int)) = false from nz_ge hi,sel_false]
  ·show r11_check_L1 sr a0 (a1 + 1) kr (loopK _ f) _ = _
   generalize loopK _ f = again
   unfold r11_check_L1
   rw [show decide (((m,sm,(i : Int),of) : Int × Bool × Int × List AType).2.2.1 < (a0.L.length : Int)) = false from nz_ge hi,sel_false]
  ·omega
 | cons x r ih =>
  intro i f l m sm of hr hil hf hl hD h0 h1 hR
  obtain ⟨f,rfl⟩ : ∃ g,f = g + 1:=⟨f - 1,by simp at hf;omega⟩
  have hi : i < a0.L.length:=by
   rcases Nat.lt_or_ge i a0.L.length with h | h
   ·exact h
   ·rw [List.drop_eq_nil_of_le h] at hr;cases hr
  have hx : a0.L[i]? = some x:=by have:=congrArg (·[0]?) hr;simpa using this
  have ih:=ih (i + 1) f
  show (∃ e m1 m2,e ≠ 0 ∧ ex_check_L1 se a0 a1 ke (loopK _ f) _ = _ ∧ r11_check_L1 sr a0 (a1 + 1) kr (loopK _ f) _ = _) ∨ (∃ l' m' sm' of',ex_check_L1 se a0 a1 ke (loopK _ f) _ = _ ∧ r11_check_L1 sr a0 (a1 + 1) kr (loopK _ f) _ = _ ∧ _)
  generalize loopK (ex_check_L1 se a0 a1 ke) f = again at ih ⊢
  generalize loopK (r11_check_L1 sr a0 (a1 + 1) kr) f = agair at ih ⊢
  unfold ex_check_L1 r11_check_L1
  show (∃ e m1 m2,e ≠ 0 ∧ sel (decide ((i : Int) < (a0.L.length : Int))) _ _ = _ ∧ sel (decide ((i : Int) < (a0.L.length : Int))) _ _ = _) ∨ (∃ l' m' sm' of',sel (decide ((i : Int) < (a0.L.length : Int))) _ _ = _ ∧ sel (decide ((i : Int) < (a0.L.length : Int))) _ _ = _ ∧ _)
  rw [show decide ((i : Int) < (a0.L.length : Int)) = true from nz_lt hi,sel_true,sel_true,jn_eq]
  show (∃ e m1 m2,e ≠ 0 ∧ (idxO a0.L (i : Int)).bind _ = _ ∧ (idxO a0.L (i : Int)).bind _ = _) ∨ (∃ l' m' sm' of',(idxO a0.L (i : Int)).bind _ = _ ∧ (idxO a0.L (i : Int)).bind _ = _ ∧ _)
  rw [idxO_nat,hx,bind_some',bind_some']
  have hwr : IntKind.i64.wrap ((i : Int) + 1) = ((i + 1 : Nat) : Int):=wrap_suc hi (by unfold N0;omega)
  rcases hs x m h0 h1 with ⟨e,m1,m2,e0,e1,e2⟩ | ⟨t,m',t1,t2,t3,e1,e2⟩
  ·refine .inl ⟨e,m1,m2,e0,?_,?_⟩
   ·show (se x (IntKind.i64.wrap (a1 + 1)) m).bind _ = _
    rw [e1,bind_some']
    show sel (e != 0) _ _ = _
    rw [show (e != 0) = true by simp [e0],sel_true]
   ·show (sr x (IntKind.i64.wrap (a1 + 1 + 1)) m).bind _ = _
    rw [e2,bind_some']
    show sel (e != 0) _ _ = _
    rw [show (e != 0) = true by simp [e0],sel_true]
  ·have hX : ((se x (IntKind.i64.wrap (a1 + 1)) m).bind fun x19=>sel (x19.2.1 != 0) (some ((AType.mk 0 ([] : (List AType))),x19.2.1,x19.2.2)) ((appO l ([x19.1])).bind fun x21=>again (x21,IntKind.i64.wrap ((i : Int) + 1),x19.2.2))) = again (l ++ [t],((i + 1 : Nat) : Int),m'):=by
    rw [e1,bind_some']
    show sel false _ ((appO l [t]).bind _) = _
    rw [sel_false,appO_eq (by simp;omega),bind_some',hwr]
   have hY : ∃ sm' of',RelT (l ++ [t]) sm' of' ∧ ((sr x (IntKind.i64.wrap (a1 + 1 + 1)) m).bind fun x16=>sel (x16.2.2 != 0) (some ((AType.mk 0 ([] : (List AType))),x16.2.1,x16.2.2)) (sel (!sm) (agair (x16.2.1,sm,IntKind.i64.wrap ((i : Int) + 1),of)) (sel ((of.length : Int) == 0) (agair (x16.2.1,sm,IntKind.i64.wrap ((i : Int) + 1),[x16.1])) ((idxO of 0).bind fun x20=>(r11_join N0 x20 x16.1).bind fun x21=>agair (x16.2.1,x21.2,IntKind.i64.wrap ((i : Int) + 1),[x21.1]))))) = agair (m',sm',((i + 1 : Nat) : Int),of'):=by
    rw [e2,bind_some',hwr]
    unfold RelT at hR ⊢
    rw [comS_snoc]
    cases hc : comS l with
    | none =>
     rw [hc] at hR
     have hR : sm = false:=hR
     subst hR
     exact ⟨false,of,rfl,rfl⟩
    | some o =>
     rw [hc] at hR
     obtain ⟨rfl,rfl⟩ : sm = true ∧ of = o:=hR
     rcases comS_DT hd hD hc with rfl | ⟨u,rfl,hu⟩
     ·exact ⟨true,[t],⟨rfl,rfl⟩,rfl⟩
     ·rcases JT_ok hd hu t1 with ⟨v,v1,_,_,v4⟩ | ⟨v1,_,v4⟩
      ·refine ⟨true,[v],?_,?_⟩
       ·show match (match JT u t with | some u=>some [u] | none=>none) with | some o=>_ | none=>_
        rw [v1];exact ⟨rfl,rfl⟩
       ·show (r11_join N0 u t).bind _ = _
        rw [v4];rfl
      ·refine ⟨false,[⟨0,[]⟩],?_,?_⟩
       ·show match (match JT u t with | some u=>some [u] | none=>none) with | some o=>_ | none=>_
        rw [v1]
       ·show (r11_join N0 u t).bind _ = _
        rw [v4];rfl
   obtain ⟨sm',of',hR',hY⟩:=hY
   have:=ih (l ++ [t]) m' sm' of' (by rw [← List.drop_drop,hr];rfl) hi (by simp at hf;omega) (by simp [hl]) (fun y hy=>by
    rcases List.mem_append.1 hy with h | h
    ·exact hD y h
    ·simp at h;subst h;exact t1) t2 t3 hR'
   rcases this with ⟨e,m1,m2,p1,p2,p3⟩ | ⟨l',m'',sm'',of'',p1,p2,p3⟩
   ·exact .inl ⟨e,m1,m2,p1,Eq.trans hX p2,Eq.trans hY p3⟩
   ·exact .inr ⟨l',m'',sm'',of'',Eq.trans hX p1,Eq.trans hY p2,p3⟩
end Go.Proofs.YtcfegecdlbbeaaaGreatDoor
end
section
namespace Go.Proofs.YtcfegecdlbbeaaaGreatDoor
open Go Go.E2
def badF (v : AValue) : Bool:=((((decide (v.Kind < 1)) || (decide (v.Kind > 4))) || (((v.N != 0) && (v.Kind != 1)) && (v.Kind != 2))) || ((!(v.S.toList == (ByteArray.mk #[]).toList)) && (v.Kind != 3))) || ((decide ((v.L.length : Int) > 0)) && (!(v.Kind == 4)))
def badR (v : AValue) : Bool:=((v.Kind == 1) && ((decide (v.N < (-1099511627776))) || (decide (v.N > 1099511627776)))) || (((v.Kind == 2) && (v.N != 0)) && (v.N != 1))
theorem fields_eq (v : AValue) : ex_fields v = some (!badF v):=by
 unfold ex_fields badF
 obtain ⟨K,N,S,L⟩:=v
 generalize (S.toList == (ByteArray.mk #[]).toList) = sE
 have hl : decide ((L.length : Int) > 0) = !((L.length : Int) == 0):=by
  cases L with
  | nil=>rfl
  | cons x l=>simp;omega
 simp only [jn_eq,hl]
 generalize ((L.length : Int) == 0) = lE
 by_cases h1 : K = 1
 ·subst h1;cases sE <;> cases lE <;> simp
 ·by_cases h2 : K = 2
  ·subst h2;cases sE <;> cases lE <;> simp
  ·by_cases h3 : K = 3
   ·subst h3;cases sE <;> cases lE <;> simp [bne]
   ·by_cases h4 : K = 4
    ·subst h4;cases sE <;> cases lE <;> simp [bne]
    ·have : (decide (K < 1) || decide (K > 4)) = true:=by simp;omega
     rw [this,show (K == 1) = false by simp [h1],show (K == 2) = false by simp [h2],show (K == 3) = false by simp [h3],show (K == 4) = false by simp [h4]]
     rfl
theorem range_eq {R : Type} (v : AValue) (k : Bool → Option R) : ((gO (v.Kind == 1) (ex_within v.N)).bind fun x22=>sel ((v.Kind == 1) && (!x22)) (k ((v.Kind == 1) && (!x22))) (k (((v.Kind == 2) && (v.N != 0)) && (v.N != 1)))) = k (badR v):=by
 unfold badR ex_within
 obtain ⟨K,N,S,L⟩:=v
 by_cases h1 : K = 1
 ·subst h1
  simp only [show ((1 : Int) == 1) = true from rfl,show ((1 : Int) == 2) = false from rfl,gO_true,bind_some',Bool.true_and,Bool.false_and,Bool.or_false]
  have : (!(decide (N ≥ -1099511627776) && decide (N ≤ 1099511627776))) = (decide (N < -1099511627776) || decide (N > 1099511627776)):=by
   rw [Bool.eq_iff_iff];simp
  rw [this]
  cases (decide (N < -1099511627776) || decide (N > 1099511627776)) <;> rfl
 ·rw [show ((K == 1) : Bool) = false by simp [h1]]
  simp
theorem range_jn {R : Type} (v : AValue) (k : Bool → Option R) : (jn k fun k5=>(gO (v.Kind == 1) (ex_within v.N)).bind fun x22=>sel ((v.Kind == 1) && (!x22)) (k5 ((v.Kind == 1) && (!x22))) (k5 (((v.Kind == 2) && (v.N != 0)) && (v.N != 1)))) = k (badR v):=range_eq v k
theorem step_ok {d : Nat} {a1 : Int} (hd : (d : Int) = 16 - a1) (ha : 0 ≤ a1) (se sr : AValue → Int → Int → Option (AType × Int × Int)) (v : AValue) (m : Int) (h0 : 0 ≤ m) (h1 : m ≤ 1000)
  (hk : ∀ d',d = d' + 1 → ∀ x m,0 ≤ m → m ≤ 1000 → Both d' (se x (IntKind.i64.wrap (a1 + 1)) m) (sr x (IntKind.i64.wrap (a1 + 1 + 1)) m)) :
  Both d (ex_check_B se v a1 m) (r11_check_B sr v (a1 + 1) m):=by
 have hw : IntKind.i64.wrap (m + 1) = m + 1:=wrap_id (by omega) (by omega)
 unfold ex_check_B r11_check_B
 rw [fields_eq,bind_some',UTF8_eq,bind_some',hw]
 have hdep : decide (a1 + 1 > 16) = decide (a1 ≥ 16):=decide_eq_decide.2 (by omega)
 rw [hdep]
 cases hq : (v.Kind == 4 && decide (a1 ≥ 16)) with
 | true=>exact .inl ⟨8,m,m + 1,by decide,rfl,rfl⟩
 | false =>
  rw [sel_false,sel_false]
  change Both d _ (sel (badF v) _ (sel (badR v) _ _))
  cases hf : badF v with
  | true=>exact .inl ⟨9,m + 1,m + 1,by decide,rfl,rfl⟩
  | false =>
   rw [show (!(!false)) = false from rfl,sel_false,sel_false,range_jn]
   cases hr : badR v with
   | true=>exact .inl ⟨1,m + 1,m + 1,by decide,rfl,rfl⟩
   | false =>
    rw [sel_false,sel_false]
    cases hl : (((decide ((v.S.size : Int) > 2000)) || (decide ((v.L.length : Int) > 100))) || (decide (m + 1 > 1000))) with
    | true=>exact .inl ⟨2,m + 1,m + 1,by decide,rfl,rfl⟩
    | false =>
     rw [Bool.or_eq_false_iff,Bool.or_eq_false_iff] at hl
     obtain ⟨⟨l1,l2⟩,l3⟩:=hl
     have l1:=of_decide_eq_false l1
     have l2:=of_decide_eq_false l2
     have l3:=of_decide_eq_false l3
     rw [sel_false,sel_false,ValidString_eq (by omega),bind_some']
     cases hu : vb (bl v.S) with
     | false=>exact .inl ⟨3,m + 1,m + 1,by decide,rfl,rfl⟩
     | true =>
      rw [show (!true) = false from rfl,sel_false,sel_false,jn_eq]
      by_cases h4 : v.Kind = 4
      ·rw [show (v.Kind != 4) = false by simp [h4],sel_false,jn_eq]
       have ha16 : ¬ a1 ≥ 16:=by
        intro h
        rw [show (v.Kind == 4) = true by simp [h4],show decide (a1 ≥ 16) = true from decide_eq_true h] at hq
        cases hq
       obtain ⟨d',rfl⟩ : ∃ d',d = d' + 1:=⟨d - 1,by omega⟩
       have hd' : d' < N0:=by unfold N0;omega
       have:=kids_ok hd' (a0:=v) (a1:=a1) (se:=se) (sr:=sr) (by omega) (hk d' rfl)
        (ke:=fun s11=>(ex_common s11.1).bind fun x13=>sel (!x13.2) (some ((AType.mk 0 ([] : (List AType))),5,s11.2)) (some (x13.1,0,s11.2)))
        (kr:=fun s7=>sel (!s7.2.1) (some ((AType.mk 0 ([] : (List AType))),s7.1,5)) (some ((AType.mk v.Kind s7.2.2),s7.1,0)))
        v.L 0 N0 [] (m + 1) true [] rfl (by omega) (by unfold N0;omega) rfl (fun t h=>by cases h) (by omega) (by omega) ⟨rfl,rfl⟩
       rcases this with ⟨e,m1,m2,p1,p2,p3⟩ | ⟨l',m',sm',of',p1,p2,p3,p4,p5,p6,p7⟩
       ·exact .inl ⟨e,m1,m2,p1,p2,p3⟩
       ·have p1:=p1
        change loopK (ex_check_L1 se v a1 _) N0 (([] : List AType),0,m + 1) = _ at p1
        change loopK (r11_check_L1 sr v (a1 + 1) _) N0 (m + 1,true,0,([] : List AType)) = _ at p2
        unfold Both
        rw [p1,p2]
        show (∃ e m1 m2,e ≠ 0 ∧ (ex_common l').bind _ = _ ∧ sel (!sm') _ _ = _) ∨ (∃ t m,DT (d' + 1) t ∧ 0 ≤ m ∧ m ≤ 1000 ∧ (ex_common l').bind _ = _ ∧ sel (!sm') _ _ = _)
        rw [common_eq hd' p4 p3]
        unfold RelT at p7
        cases hc : comS l' with
        | none =>
         rw [hc] at p7
         have p7 : sm' = false:=p7
         subst p7
         exact .inl ⟨5,m',m',by decide,rfl,rfl⟩
        | some o =>
         rw [hc] at p7
         obtain ⟨rfl,rfl⟩ : sm' = true ∧ of' = o:=p7
         refine .inr ⟨⟨4,of'⟩,m',?_,p5,p6,rfl,by rw [h4];rfl⟩
         rcases comS_DT hd' p4 hc with rfl | ⟨u,rfl,hu⟩
         ·exact .inl rfl
         ·exact .inr ⟨u,rfl,rfl,hu⟩
      ·rw [show (v.Kind != 4) = true by simp [h4],sel_true]
       have hL : v.L = []:=by
        unfold badF at hf
        rw [Bool.or_eq_false_iff] at hf
        have:=hf.2
        rw [show (v.Kind == 4) = false by simp [h4],show (!false) = true from rfl,Bool.and_true] at this
        have:=of_decide_eq_false this
        exact List.eq_nil_of_length_eq_zero (by omega)
       refine .inr ⟨⟨v.Kind,[]⟩,m + 1,DT.leaf rfl,by omega,by omega,rfl,?_⟩
       rw [jn_eq,loopK_first]
       unfold r11_check_L1
       rw [hL];rfl
theorem check_ok : ∀ (d n : Nat),d < n → d ≤ 16 → ∀ (v : AValue) (m : Int),0 ≤ m → m ≤ 1000 → Both d (ex_check n v (16 - (d : Int)) m) (r11_check n v (16 - (d : Int) + 1) m):=by
 intro d
 induction d with
 | zero =>
  intro n hn hd v m h0 h1
  obtain ⟨n,rfl⟩ : ∃ g,n = g + 1:=⟨n - 1,by omega⟩
  exact step_ok (d:=0) (by omega) (by omega) _ _ v m h0 h1 (fun d' h=>by omega)
 | succ d ih =>
  intro n hn hd v m h0 h1
  obtain ⟨n,rfl⟩ : ∃ g,n = g + 1:=⟨n - 1,by omega⟩
  refine step_ok (d:=d + 1) (by omega) (by omega) _ _ v m h0 h1 (fun d' h x m h0 h1=>?_)
  have e : d' = d:=by omega
  subst e
  have e1 : IntKind.i64.wrap (16 - ((d' + 1 : Nat) : Int) + 1) = 16 - (d' : Int):=by rw [wrap_id (by omega) (by omega)];omega
  have e2 : IntKind.i64.wrap (16 - ((d' + 1 : Nat) : Int) + 1 + 1) = 16 - (d' : Int) + 1:=by rw [wrap_id (by omega) (by omega)];omega
  rw [e1,e2]
  exact ih n (by omega) (by omega) x m h0 h1
theorem copyType_ok : ∀ (k n : Nat) (t : AType),k < n → DT k t → ∃ u,ex_copyType n t = some u
 | k,n + 1,t,hn,h=>by
  show ∃ u,ex_copyType_B (ex_copyType n) t = some u
  unfold ex_copyType_B
  by_cases h2 : t.Of = []
  ·rw [show ((t.Of.length : Int) == 0) = true by simp [h2],sel_true]
   exact ⟨_,rfl⟩
  ·rw [show ((t.Of.length : Int) == 0) = false by simp [h2],sel_false]
   cases k with
   | zero=>exact absurd h h2
   | succ k =>
    obtain ⟨u,u1,_,u3⟩:=h.resolve_left h2
    rw [u1]
    obtain ⟨w,hw⟩:=copyType_ok k n u (by omega) u3
    show ∃ z,(ex_copyType n u).bind _ = _
    rw [hw]
    exact ⟨_,rfl⟩
theorem Check_eq (v : AValue) : ∃ e,ex_Check v = some e ∧ r11_Check v = some e:=by
 unfold ex_Check r11_Check ex_TypeOf r11_TypeOf
 rcases check_ok 16 N0 (by unfold N0;omega) (by omega) v 0 (by omega) (by omega) with ⟨e,m1,m2,e0,e1,e2⟩ | ⟨t,m,t1,_,_,e1,e2⟩
 ·refine ⟨e,?_,?_⟩
  ·show (((ex_check N0 v 0 0).bind _).bind _) = _
   have e1 : ex_check N0 v 0 0 = _:=e1
   rw [e1,bind_some',show (e != 0) = true by simp [e0],sel_true];rfl
  ·have e2 : r11_check N0 v 1 0 = _:=e2
   rw [e2];rfl
 ·refine ⟨0,?_,?_⟩
  ·have e1 : ex_check N0 v 0 0 = _:=e1
   rw [e1,bind_some']
   obtain ⟨u,hu⟩:=copyType_ok 16 N0 t (by unfold N0;omega) t1
   show ((sel false _ ((ex_copyType N0 t).bind _)).bind _) = _
   rw [sel_false,hu];rfl
  ·have e2 : r11_check N0 v 1 0 = _:=e2
   rw [e2];rfl
end Go.Proofs.YtcfegecdlbbeaaaGreatDoor
end

/-
  Part 4 of the texts under the law DispatchBuilt: the calculus, the plain functions, their walks, plain facts.
-/
import Derived.Test.YtcenpkkficeaaaaGreatDoorDispatchBuiltB3
import Derived.Test.YtcenpkkficeaaaaGreatDoorProg
import Derived.KernelRfl
section
set_option maxRecDepth 100000
namespace Go.Proofs.YtcenpkkficeaaaaGreatDoor
open Go Go.E2
theorem stringslite_HasPrefix_c (p_s : Str) (p_prefix : Str) {r : Bool} (hr : stringslite_HasPrefix p_s p_prefix = some r) : Con Tryz.prog 56 [aS p_s,aS p_prefix] [] (.s (aB r)) []:=by
 unfold stringslite_HasPrefix at hr
 refine Con.of_ok 18 0 [.tmp 4] [(0,.s (aS p_s)),(1,.s (aS p_prefix))] Tryz.func56 rfl rfl rfl rfl rfl rfl rfl rfl fun w g M ρ _=>(Ok.seq (Ok.region (OkOps.y (aB false) (OkOps.nil (Ok.seq (Ok.region (OkOps.y (aS p_s) (OkOps.y (aI (p_s.size : Int)) (OkOps.y (aS p_prefix) (OkOps.y (aI (p_prefix.size : Int)) (OkOps.y (aB (decide ((p_s.size : Int) ≥ (p_prefix.size : Int)))) (OkOps.y (aB (decide ((p_s.size : Int) ≥ (p_prefix.size : Int)))) (OkOps.q (triQG (x:=aS p_s) rfl rfl trivial rfl) (OkOps.q (triQG (x:=aS p_prefix) rfl rfl trivial rfl) (OkOps.q (triQG (x:=aI (p_prefix.size : Int)) rfl rfl ⟨fun h=>h,trivial⟩ rfl) ?_)))))))))))))))
 obtain ⟨x1,hx1,hr⟩:=bind_some hr
 refine OkOps.q (triSSlcG (gO_t hx1) rfl rfl rfl rfl (.inl ⟨rfl,rfl⟩) (.inr ⟨_,rfl⟩) rfl ⟨fun h=>h,⟨fun h=>h,trivial⟩⟩ rfl) (OkOps.q (triQG (x:=aS p_prefix) rfl rfl trivial rfl) (OkOps.q (triQG (x:=aB (x1.toList == p_prefix.toList)) rfl rfl ⟨fun h=>h,⟨fun h=>h,trivial⟩⟩ rfl) (OkOps.q (triAnd rfl rfl (fun h=>h) rfl) (OkOps.y (aB ((decide ((p_s.size : Int) ≥ (p_prefix.size : Int))) && (x1.toList == p_prefix.toList))) (OkOps.nil (Ok.ret ?_))))))
 obtain rfl:=Option.some.inj hr
 exact ⟨_,rfl,.inl rfl,trivial⟩
theorem entry56 : Entry Tryz.prog 56:=⟨_,Tryz.func56,by kernel_rfl,by kernel_rfl⟩
theorem strings_HasPrefix_c (p_s : Str) (p_prefix : Str) {r : Bool} (hr : strings_HasPrefix p_s p_prefix = some r) : Con Tryz.prog 29 [aS p_s,aS p_prefix] [] (.s (aB r)) []:=by
 unfold strings_HasPrefix at hr
 refine Con.of_ok 8 0 [.tmp 4] [(0,.s (aS p_s)),(1,.s (aS p_prefix))] Tryz.func29 rfl rfl rfl rfl rfl rfl rfl rfl fun w g M ρ _=>(Ok.seq (Ok.region (OkOps.y (aB false) (OkOps.nil (Ok.seq (Ok.region (OkOps.y (aS p_s) (OkOps.y (aS p_prefix) ?_))))))))
 obtain ⟨x1,hx1,hr⟩:=bind_some hr
 refine OkOps.q (triCl (tau []) (.s (aB x1)) [] (stringslite_HasPrefix_c _ _ hx1) rfl ⟨.inl rfl,.inl rfl,trivial⟩ trivial entry56 trivial) (OkOps.y (aB x1) (OkOps.nil (Ok.ret ?_)))
 obtain rfl:=Option.some.inj hr
 exact ⟨_,rfl,.inl rfl,trivial⟩
theorem entry29 : Entry Tryz.prog 29:=⟨_,Tryz.func29,by kernel_rfl,by kernel_rfl⟩
theorem dp_steps_c (t : Tree) (id : Int) {r : (List dispatch_step)} (hr : dp_steps t id = some r) : Con Tryz.prog 25 [.agg [cI t.Root,cI t.Next,.d (.sl (List.map Node.cs t.Nodes))],aI id] [] (.s (.c (.d (.sl (List.map dispatch_step.cs r))))) []:=by
 unfold dp_steps at hr
 refine Con.of_ok 39 0 [.tmp 4] [(0,.s (.agg [cI t.Root,cI t.Next,.d (.sl (List.map Node.cs t.Nodes))])),(1,.s (aI id))] Tryz.func25 rfl rfl rfl rfl rfl rfl rfl rfl fun w g M ρ _=>(Ok.seq (Ok.region (OkOps.m 0 (triBox (j:=0) (cs:=[cI t.Root,cI t.Next,.d (.sl (List.map Node.cs t.Nodes))]) rfl rfl rfl rfl rfl) (OkOps.y (.c (.d (.v (.slice none 0 0)))) (OkOps.nil (Ok.seq (Ok.region (OkOps.y (.c (.d (.v (.slice none 0 0)))) (OkOps.nil (Ok.seq (Ok.region (OkOps.y (aB false) (OkOps.nil ?_)))))))))))))
 obtain ⟨k2,hk2,hr⟩:=jn_some hr
 refine Ok.join (fun (s1 : (List dispatch_step))=>⟨[(5,.s (.c (.tl 1004 (List.map dispatch_step.cs s1))))],[(1004,.tail 8)],0⟩) k2 r (fun s1 hr=>?_) ?_
 rw [hk2] at hr
 refine Ok.seq (Ok.region (OkOps.y (.c (.tl 1004 (List.map dispatch_step.cs s1))) (OkOps.y (.c (.tl 1004 (List.map dispatch_step.cs s1))) (OkOps.nil (Ok.ret ?_)))))
 obtain rfl:=Option.some.inj hr
 exact ⟨_,rfl,.inr rfl,trivial⟩
 clear hk2
 refine Ok.seq (Ok.region (OkOps.y (.agg [cI t.Root,cI t.Next,.d (.sl (List.map Node.cs t.Nodes))]) (OkOps.y (aI id) ?_)))
 obtain ⟨x3,hx3,hr⟩:=bind_some hr
 refine OkOps.q (triCl (tau []) (.s (.c (.d (.sl (List.map (eInt .i64) x3))))) [] (vw_Path_c _ _ hx3) rfl ⟨.inl rfl,.inl rfl,trivial⟩ trivial entry48 trivial) (OkOps.q (triLen (enc:=(eInt .i64)) x3 rfl rfl trivial rfl) (OkOps.y (aI 0) (OkOps.nil (Ok.block (Ok.loopK (fun (s4 : (List dispatch_step) × Bool × Int)=>⟨[(2,.s (.c (.loc 0 0))),(5,.s (.c (.tl 1007 (List.map dispatch_step.cs s4.1)))),(6,.s (aB s4.2.1)),(13,.s (.c (.d (.sl (List.map (eInt .i64) x3))))),(14,.s (aI (x3.length : Int))),(15,.s (aI s4.2.2))],[(0,.blk [cI t.Root,cI t.Next,.d (.sl (List.map Node.cs t.Nodes))] 27),(1007,.tail 8)],0⟩) hr (Conv.trans (Conv.nil 5 1009 8 0 rfl rfl) (Conv.mk (tau [(1007,1009)]) ⟨⟨_,rfl,.inl rfl⟩,⟨_,rfl,.inl rfl⟩,⟨_,rfl,.inl rfl⟩,⟨_,rfl,.inl rfl⟩,⟨_,rfl,.inl rfl⟩,⟨_,rfl,.inl rfl⟩,trivial⟩ ⟨rfl,rfl,trivial⟩ rfl rfl rfl rfl)) ?_)))))
 clear hr
 intro again5 s4 hr
 unfold dp_steps_L1 at hr
 refine Ok.seq (Ok.region (OkOps.y (aB (decide (s4.2.2 < (x3.length : Int)))) (OkOps.nil (Ok.seq ?_))))
 refine Ok.cond (b:=decide (s4.2.2 < (x3.length : Int))) rfl (fun h6=>?_) (fun h6=>?_)
 have hr:=selT h6 hr
 refine Ok.skip (Ok.seq (Ok.block (Ok.seq (Ok.region ?_))))
 obtain ⟨x7,hx7,hr⟩:=bind_some hr
 refine OkOps.q (triIdx (enc:=(eInt .i64)) (L:=x3) (row:=[dI x7]) hx7 rfl rfl rfl rfl (fun _=>rfl) trivial rfl) (OkOps.y (aI x7) (OkOps.y (aI x7) (OkOps.nil (Ok.seq (Ok.region (OkOps.y (.agg [cI t.Root,cI t.Next,.d (.sl (List.map Node.cs t.Nodes))]) (OkOps.y (aI x7) ?_)))))))
 obtain ⟨x8,hx8,hr⟩:=bind_some hr
 refine OkOps.q (triCl (tau []) (.tup [.agg [cI x8.1.ID,cI x8.1.Parent,cI x8.1.Kind,cS x8.1.Key,.d (.sl (List.map Attr.cs x8.1.Attrs)),.d (.sl (List.map Action.cs x8.1.Actions)),.d (.sl (List.map (eInt .i64) x8.1.Kids))],aB x8.2]) [] (vw_Find_c _ _ hx8) rfl ⟨.inl rfl,.inl rfl,trivial⟩ trivial entry49 trivial) (OkOps.q (triMv (v:=.tup [.agg [cI x8.1.ID,cI x8.1.Parent,cI x8.1.Kind,cS x8.1.Key,.d (.sl (List.map Attr.cs x8.1.Attrs)),.d (.sl (List.map Action.cs x8.1.Actions)),.d (.sl (List.map (eInt .i64) x8.1.Kids))],aB x8.2]) rfl rfl) (OkOps.y (.agg [cI x8.1.ID,cI x8.1.Parent,cI x8.1.Kind,cS x8.1.Key,.d (.sl (List.map Attr.cs x8.1.Attrs)),.d (.sl (List.map Action.cs x8.1.Actions)),.d (.sl (List.map (eInt .i64) x8.1.Kids))]) (OkOps.y (aB x8.2) (OkOps.m 0 (triAlloc (j:=1) (cs:=[cI 0,cI 0,cI 0,cS ByteArray.empty,.d (.v (.slice none 0 0)),.d (.v (.slice none 0 0)),.d (.v (.slice none 0 0))]) rfl rfl rfl rfl) (OkOps.w (triStore (cs':=[cI x8.1.ID,cI x8.1.Parent,cI x8.1.Kind,cS x8.1.Key,.d (.sl (List.map Attr.cs x8.1.Attrs)),.d (.sl (List.map Action.cs x8.1.Actions)),.d (.sl (List.map (eInt .i64) x8.1.Kids))]) rfl rfl rfl rfl rfl rfl rfl rfl rfl) (OkOps.y (aB x8.2) (OkOps.nil (Ok.seq (Ok.region (OkOps.y (aB s4.2.1) (OkOps.y (aB s4.2.1) (OkOps.q (triQG (x:=.c (.loc 1 4)) rfl rfl trivial rfl) (OkOps.q (triQG (x:=.c (.d (.sl (List.map Attr.cs x8.1.Attrs)))) rfl rfl ⟨fun h=>h,trivial⟩ rfl) ?_)))))))))))))
 obtain ⟨x9,hx9,hr⟩:=bind_some hr
 refine OkOps.q (triCallG (x:=aB x9) (fun hg=>vw_Flag_c _ _ (gO_t hx9 hg)) rfl rfl ⟨.inl rfl,.inl rfl,trivial⟩ ⟨fun h=>h,trivial⟩ entry50 rfl rfl rfl) ?_
 refine OkOps.q (triOr rfl rfl (fun h=>by rw [h];rfl) rfl) ?_
 refine OkOps.y (aB (s4.2.1 || x9)) (OkOps.nil (Ok.region (OkOps.y (.c (.tl 1007 (List.map dispatch_step.cs s4.1))) (OkOps.y (.agg [cI x8.1.ID,cI x8.1.Parent,cI x8.1.Kind,cS x8.1.Key,.d (.sl (List.map Attr.cs x8.1.Attrs)),.d (.sl (List.map Action.cs x8.1.Actions)),.d (.sl (List.map (eInt .i64) x8.1.Kids))]) (OkOps.y (aB (s4.2.1 || x9)) (OkOps.y (.agg [cI x8.1.ID,cI x8.1.Parent,cI x8.1.Kind,cS x8.1.Key,.d (.sl (List.map Attr.cs x8.1.Attrs)),.d (.sl (List.map Action.cs x8.1.Actions)),.d (.sl (List.map (eInt .i64) x8.1.Kids)),cB_ (s4.2.1 || x9)]) (OkOps.m 0 (triBST (sz:=8) (enc:=dispatch_step.cs) (j:=2) ([(dispatch_step.mk x8.1 (s4.2.1 || x9))]) rfl rfl rfl rfl rfl rfl rfl rfl (fun _=>rfl) trivial rfl rfl) ?_)))))))
 obtain ⟨x10,hx10,hr⟩:=bind_some hr
 refine OkOps.m2 0 (triApp (enc:=dispatch_step.cs) (L:=s4.1) (X:=[(dispatch_step.mk x8.1 (s4.2.1 || x9))]) (j:=1007) (j':=3) hx10 rfl rfl rfl rfl rfl rfl (fun _=>rfl) (fun _=>rfl) (by decide) trivial rfl rfl) (OkOps.y (.c (.tl 3 (List.map dispatch_step.cs x10))) (OkOps.nil (Ok.region (OkOps.y (aI (IntKind.i64.wrap (s4.2.2 + 1))) (OkOps.y (aI (IntKind.i64.wrap (s4.2.2 + 1))) (OkOps.nil ?_))))))
 exact ⟨(x10,s4.2.1 || x9,IntKind.i64.wrap (s4.2.2 + 1)),hr,(Conv.mk (tau [(1007,3)]) ⟨⟨_,rfl,.inl rfl⟩,⟨_,rfl,.inl rfl⟩,⟨_,rfl,.inl rfl⟩,⟨_,rfl,.inl rfl⟩,⟨_,rfl,.inl rfl⟩,⟨_,rfl,.inl rfl⟩,trivial⟩ ⟨rfl,rfl,trivial⟩ rfl rfl rfl rfl)⟩
 have hr:=selF h6 hr
 refine Ok.exit ?_
 exact ⟨s4.1,hr,(Conv.mk (tau [(1004,1007)]) ⟨⟨_,rfl,.inl rfl⟩,trivial⟩ ⟨rfl,trivial⟩ rfl rfl rfl rfl)⟩
theorem entry25 : Entry Tryz.prog 25:=⟨_,Tryz.func25,by kernel_rfl,by kernel_rfl⟩
theorem entry74 : Entry Tryz.prog 74:=⟨_,Tryz.func74,by kernel_rfl,by kernel_rfl⟩
theorem entry57 : Entry Tryz.prog 57:=⟨_,Tryz.func57,by kernel_rfl,by kernel_rfl⟩
theorem dp_copyValue_B_c (self0 : AValue → Option AValue) (self1 : (List AValue) → Option (List AValue)) (_hself0 : ∀ (v : AValue) {r : AValue},self0 v = some r → Con Tryz.prog 74 [.agg [cI v.Kind,cI v.N,cS v.S,.d (.sl (List.map AValue.cs v.L))]] [] (.s (.agg [cI r.Kind,cI r.N,cS r.S,.d (.sl (List.map AValue.cs r.L))])) []) (hself1 : ∀ (l : (List AValue)) {r : (List AValue)},self1 l = some r → Con Tryz.prog 57 [.c (.d (.sl (List.map AValue.cs l)))] [] (.s (.c (.d (.sl (List.map AValue.cs r))))) []) (v : AValue) {r : AValue} (hr : dp_copyValue_B self0 self1 v = some r) : Con Tryz.prog 74 [.agg [cI v.Kind,cI v.N,cS v.S,.d (.sl (List.map AValue.cs v.L))]] [] (.s (.agg [cI r.Kind,cI r.N,cS r.S,.d (.sl (List.map AValue.cs r.L))])) []:=by
 unfold dp_copyValue_B at hr
 refine Con.of_ok 8 0 [.cell 2 66] [(0,.s (.agg [cI v.Kind,cI v.N,cS v.S,.d (.sl (List.map AValue.cs v.L))]))] Tryz.func74 rfl rfl rfl rfl rfl rfl rfl rfl fun w g M ρ _=>(Ok.seq (Ok.region (OkOps.m 0 (triBox (j:=0) (cs:=[cI v.Kind,cI v.N,cS v.S,.d (.sl (List.map AValue.cs v.L))]) rfl rfl rfl rfl rfl) (OkOps.m 0 (triAlloc (j:=1) (cs:=[cI 0,cI 0,cS ByteArray.empty,.d (.v (.slice none 0 0))]) rfl rfl rfl rfl) (OkOps.nil (Ok.seq (Ok.region (OkOps.y (.c (.loc 0 3)) (OkOps.y (.c (.d (.sl (List.map AValue.cs v.L)))) ?_)))))))))
 obtain ⟨x1,hx1,hr⟩:=bind_some hr
 refine OkOps.q (triCl (tau []) (.s (.c (.d (.sl (List.map AValue.cs x1))))) [] (hself1 _ hx1) rfl ⟨.inl rfl,trivial⟩ trivial entry57 trivial) (OkOps.y (.c (.loc 0 3)) (OkOps.w (triStore (cs':=[cI v.Kind,cI v.N,cS v.S,.d (.sl (List.map AValue.cs x1))]) rfl rfl rfl rfl rfl rfl rfl rfl rfl) (OkOps.nil (Ok.seq (Ok.region (OkOps.y (.agg [cI v.Kind,cI v.N,cS v.S,.d (.sl (List.map AValue.cs x1))]) (OkOps.w (triStore (cs':=[cI v.Kind,cI v.N,cS v.S,.d (.sl (List.map AValue.cs x1))]) rfl rfl rfl rfl rfl rfl rfl rfl rfl) (OkOps.nil (Ok.ret ?_)))))))))
 obtain rfl:=Option.some.inj hr
 exact ⟨_,rfl,.inl rfl,trivial⟩
theorem dp_copyValues_B_c (self0 : AValue → Option AValue) (self1 : (List AValue) → Option (List AValue)) (hself0 : ∀ (v : AValue) {r : AValue},self0 v = some r → Con Tryz.prog 74 [.agg [cI v.Kind,cI v.N,cS v.S,.d (.sl (List.map AValue.cs v.L))]] [] (.s (.agg [cI r.Kind,cI r.N,cS r.S,.d (.sl (List.map AValue.cs r.L))])) []) (_hself1 : ∀ (l : (List AValue)) {r : (List AValue)},self1 l = some r → Con Tryz.prog 57 [.c (.d (.sl (List.map AValue.cs l)))] [] (.s (.c (.d (.sl (List.map AValue.cs r))))) []) (l : (List AValue)) {r : (List AValue)} (hr : dp_copyValues_B self0 self1 l = some r) : Con Tryz.prog 57 [.c (.d (.sl (List.map AValue.cs l)))] [] (.s (.c (.d (.sl (List.map AValue.cs r))))) []:=by
 unfold dp_copyValues_B at hr
 refine Con.of_ok 19 0 [.tmp 2] [(0,.s (.c (.d (.sl (List.map AValue.cs l)))))] Tryz.func57 rfl rfl rfl rfl rfl rfl rfl rfl fun w g M ρ _=>(Ok.seq (Ok.region (OkOps.y (.c (.d (.v (.slice none 0 0)))) (OkOps.nil (Ok.seq (Ok.region (OkOps.y (.c (.d (.v (.slice none 0 0)))) (OkOps.nil ?_))))))))
 obtain ⟨k2,hk2,hr⟩:=jn_some hr
 refine Ok.join (fun (s1 : (List AValue))=>⟨[(3,.s (.c (.tl 1004 (List.map AValue.cs s1))))],[(1004,.tail 4)],0⟩) k2 r (fun s1 hr=>?_) ?_
 rw [hk2] at hr
 refine Ok.seq (Ok.region (OkOps.y (.c (.tl 1004 (List.map AValue.cs s1))) (OkOps.y (.c (.tl 1004 (List.map AValue.cs s1))) (OkOps.nil (Ok.ret ?_)))))
 obtain rfl:=Option.some.inj hr
 exact ⟨_,rfl,.inr rfl,trivial⟩
 clear hk2
 refine Ok.seq (Ok.region (OkOps.y (.c (.d (.sl (List.map AValue.cs l)))) (OkOps.q (triLen (enc:=AValue.cs) l rfl rfl trivial rfl) (OkOps.y (aI 0) (OkOps.nil (Ok.block (Ok.loopK (fun (s3 : (List AValue) × Int)=>⟨[(3,.s (.c (.tl 1007 (List.map AValue.cs s3.1)))),(6,.s (.c (.d (.sl (List.map AValue.cs l))))),(7,.s (aI (l.length : Int))),(8,.s (aI s3.2))],[(1007,.tail 4)],0⟩) hr (Conv.trans (Conv.nil 3 1009 4 0 rfl rfl) (Conv.mk (tau [(1007,1009)]) ⟨⟨_,rfl,.inl rfl⟩,⟨_,rfl,.inl rfl⟩,⟨_,rfl,.inl rfl⟩,⟨_,rfl,.inl rfl⟩,trivial⟩ ⟨rfl,trivial⟩ rfl rfl rfl rfl)) ?_)))))))
 clear hr
 intro again4 s3 hr
 unfold dp_copyValues_L1 at hr
 refine Ok.seq (Ok.region (OkOps.y (aB (decide (s3.2 < (l.length : Int)))) (OkOps.nil (Ok.seq ?_))))
 refine Ok.cond (b:=decide (s3.2 < (l.length : Int))) rfl (fun h5=>?_) (fun h5=>?_)
 have hr:=selT h5 hr
 refine Ok.skip (Ok.seq (Ok.block (Ok.seq (Ok.region ?_))))
 obtain ⟨x6,hx6,hr⟩:=bind_some hr
 refine OkOps.q (triIdx (enc:=AValue.cs) (L:=l) (row:=[dI x6.Kind,dI x6.N,dS x6.S,.sl (List.map AValue.cs x6.L)]) hx6 (AValue.cs_eq _) rfl rfl rfl (fun x=>by rw [AValue.cs_eq];rfl) trivial rfl) ?_
 refine OkOps.y (.agg [cI x6.Kind,cI x6.N,cS x6.S,.d (.sl (List.map AValue.cs x6.L))]) (OkOps.m 0 (triAlloc (j:=0) (cs:=[cI 0,cI 0,cS ByteArray.empty,.d (.v (.slice none 0 0))]) rfl rfl rfl rfl) (OkOps.w (triStore (cs':=[cI x6.Kind,cI x6.N,cS x6.S,.d (.sl (List.map AValue.cs x6.L))]) rfl rfl rfl rfl rfl rfl rfl rfl rfl) (OkOps.nil (Ok.region (OkOps.y (.c (.tl 1007 (List.map AValue.cs s3.1))) (OkOps.y (.agg [cI x6.Kind,cI x6.N,cS x6.S,.d (.sl (List.map AValue.cs x6.L))]) ?_))))))
 obtain ⟨x7,hx7,hr⟩:=bind_some hr
 refine OkOps.q (triCl (tau []) (.s (.agg [cI x7.Kind,cI x7.N,cS x7.S,.d (.sl (List.map AValue.cs x7.L))])) [] (hself0 _ hx7) rfl ⟨.inl rfl,trivial⟩ trivial entry74 trivial) ?_
 refine OkOps.m 0 (triBST (sz:=4) (enc:=AValue.cs) (j:=1) ([x7]) rfl rfl rfl rfl rfl (rows:=[[dI x7.Kind,dI x7.N,dS x7.S,.sl (List.map AValue.cs x7.L)]]) (by simp only [List.map,AValue.cs_eq]) rfl rfl (fun x=>by rw [AValue.cs_eq];rfl) trivial rfl rfl) ?_
 obtain ⟨x8,hx8,hr⟩:=bind_some hr
 refine OkOps.m2 0 (triApp (enc:=AValue.cs) (L:=s3.1) (X:=[x7]) (j:=1007) (j':=2) hx8 rfl rfl rfl rfl rfl rfl (fun x=>by rw [AValue.cs_eq];rfl) (fun x=>by rw [AValue.cs_eq];rfl) (by decide) trivial rfl rfl) ?_
 refine OkOps.y (.c (.tl 2 (List.map AValue.cs x8))) (OkOps.nil (Ok.region (OkOps.y (aI (IntKind.i64.wrap (s3.2 + 1))) (OkOps.y (aI (IntKind.i64.wrap (s3.2 + 1))) (OkOps.nil ?_)))))
 exact ⟨(x8,IntKind.i64.wrap (s3.2 + 1)),hr,(Conv.mk (tau [(1007,2)]) ⟨⟨_,rfl,.inl rfl⟩,⟨_,rfl,.inl rfl⟩,⟨_,rfl,.inl rfl⟩,⟨_,rfl,.inl rfl⟩,trivial⟩ ⟨rfl,trivial⟩ rfl rfl rfl rfl)⟩
 have hr:=selF h5 hr
 refine Ok.exit ?_
 exact ⟨s3.1,hr,(Conv.mk (tau [(1004,1007)]) ⟨⟨_,rfl,.inl rfl⟩,trivial⟩ ⟨rfl,trivial⟩ rfl rfl rfl rfl)⟩
theorem dp_copyValue_all : ∀ n : Nat,(∀ (v : AValue) {r : AValue},dp_copyValue n v = some r → Con Tryz.prog 74 [.agg [cI v.Kind,cI v.N,cS v.S,.d (.sl (List.map AValue.cs v.L))]] [] (.s (.agg [cI r.Kind,cI r.N,cS r.S,.d (.sl (List.map AValue.cs r.L))])) []) ∧ (∀ (l : (List AValue)) {r : (List AValue)},dp_copyValues n l = some r → Con Tryz.prog 57 [.c (.d (.sl (List.map AValue.cs l)))] [] (.s (.c (.d (.sl (List.map AValue.cs r))))) []) ∧ True:=by
 intro n
 induction n with
 | zero=>exact ⟨(by intros;rename_i hr;cases hr),(by intros;rename_i hr;cases hr),trivial⟩
 | succ n ih=>exact ⟨(by intros;rename_i hr;exact dp_copyValue_B_c _ _ ih.1 ih.2.1 _ hr),(by intros;rename_i hr;exact dp_copyValues_B_c _ _ ih.1 ih.2.1 _ hr),trivial⟩
theorem dp_copyValues_c (n : Nat) (l : (List AValue)) {r : (List AValue)} (hr : dp_copyValues n l = some r) : Con Tryz.prog 57 [.c (.d (.sl (List.map AValue.cs l)))] [] (.s (.c (.d (.sl (List.map AValue.cs r))))) []:=(dp_copyValue_all n).2.1 l hr
theorem dp_step_invoke_c (p_s : dispatch_step) (phase : Int) (event : Str) {r : Invocation × Bool} (hr : dp_step_invoke p_s phase event = some r) : Con Tryz.prog 31 [.agg [cI p_s.node.ID,cI p_s.node.Parent,cI p_s.node.Kind,cS p_s.node.Key,.d (.sl (List.map Attr.cs p_s.node.Attrs)),.d (.sl (List.map Action.cs p_s.node.Actions)),.d (.sl (List.map (eInt .i64) p_s.node.Kids)),cB_ p_s.disabled],aI phase,aS event] [] (.tup [.agg [cI r.1.Node,cI r.1.Phase,cS r.1.Action.Event,cS r.1.Action.Instance,cS r.1.Action.Handler,.d (.sl (List.map AValue.cs r.1.Action.Args))],aB r.2]) []:=by
 unfold dp_step_invoke at hr
 refine Con.of_ok 34 0 [.cell 6 62,.tmp 7] [(0,.s (.agg [cI p_s.node.ID,cI p_s.node.Parent,cI p_s.node.Kind,cS p_s.node.Key,.d (.sl (List.map Attr.cs p_s.node.Attrs)),.d (.sl (List.map Action.cs p_s.node.Actions)),.d (.sl (List.map (eInt .i64) p_s.node.Kids)),cB_ p_s.disabled])),(1,.s (aI phase)),(2,.s (aS event))] Tryz.func31 rfl rfl rfl rfl rfl rfl rfl rfl fun w g M ρ _=>(Ok.seq (Ok.region (OkOps.m 0 (triBox (j:=0) (cs:=[cI p_s.node.ID,cI p_s.node.Parent,cI p_s.node.Kind,cS p_s.node.Key,.d (.sl (List.map Attr.cs p_s.node.Attrs)),.d (.sl (List.map Action.cs p_s.node.Actions)),.d (.sl (List.map (eInt .i64) p_s.node.Kids)),cB_ p_s.disabled]) rfl rfl rfl rfl rfl) (OkOps.m 0 (triAlloc (j:=1) (cs:=[cI 0,cI 0,cS ByteArray.empty,cS ByteArray.empty,cS ByteArray.empty,.d (.v (.slice none 0 0))]) rfl rfl rfl rfl) (OkOps.y (aB false) (OkOps.nil ?_))))))
 obtain ⟨k2,hk2,hr⟩:=jn_some hr
 refine Ok.join (fun (s1 : Unit)=>⟨[(6,.s (.c (.loc 1 0)))],[(1,.blk [cI 0,cI 0,cS ByteArray.empty,cS ByteArray.empty,cS ByteArray.empty,.d (.v (.slice none 0 0))] 62)],0⟩) k2 r (fun s1 hr=>?_) ?_
 rw [hk2] at hr
 refine Ok.seq (Ok.region (OkOps.y (.agg [cI 0,cI 0,cS ByteArray.empty,cS ByteArray.empty,cS ByteArray.empty,.d (.v (.slice none 0 0))]) (OkOps.w (triStore (cs':=[cI 0,cI 0,cS ByteArray.empty,cS ByteArray.empty,cS ByteArray.empty,.d (.v (.slice none 0 0))]) rfl rfl rfl rfl rfl rfl rfl rfl rfl) (OkOps.y (aB false) (OkOps.nil (Ok.ret ?_))))))
 obtain rfl:=Option.some.inj hr
 exact ⟨_,rfl,.inr rfl,trivial⟩
 clear hk2
 refine Ok.seq (Ok.region (OkOps.y (.c (.loc 0 0)) (OkOps.y (.c (.loc 0 5)) (OkOps.y (.c (.d (.sl (List.map Action.cs p_s.node.Actions)))) (OkOps.q (triLen (enc:=Action.cs) p_s.node.Actions rfl rfl trivial rfl) (OkOps.y (aI 0) (OkOps.nil (Ok.block (Ok.loopK (fun (s3 : Int)=>⟨[(1,.s (aI phase)),(2,.s (aS event)),(3,.s (.c (.loc 0 0))),(6,.s (.c (.loc 1 0))),(12,.s (.c (.d (.sl (List.map Action.cs p_s.node.Actions))))),(13,.s (aI (p_s.node.Actions.length : Int))),(14,.s (aI s3))],[(0,.blk [cI p_s.node.ID,cI p_s.node.Parent,cI p_s.node.Kind,cS p_s.node.Key,.d (.sl (List.map Attr.cs p_s.node.Attrs)),.d (.sl (List.map Action.cs p_s.node.Actions)),.d (.sl (List.map (eInt .i64) p_s.node.Kids)),cB_ p_s.disabled] 73),(1,.blk [cI 0,cI 0,cS ByteArray.empty,cS ByteArray.empty,cS ByteArray.empty,.d (.v (.slice none 0 0))] 62)],0⟩) hr (Conv.mk (tau []) ⟨⟨_,rfl,.inl rfl⟩,⟨_,rfl,.inl rfl⟩,⟨_,rfl,.inl rfl⟩,⟨_,rfl,.inl rfl⟩,⟨_,rfl,.inl rfl⟩,⟨_,rfl,.inl rfl⟩,⟨_,rfl,.inl rfl⟩,trivial⟩ ⟨rfl,rfl,trivial⟩ rfl rfl rfl rfl) ?_)))))))))
 clear hr
 intro again4 s3 hr
 unfold dp_step_invoke_L1 at hr
 refine Ok.seq (Ok.region (OkOps.y (aB (decide (s3 < (p_s.node.Actions.length : Int)))) (OkOps.nil (Ok.seq ?_))))
 refine Ok.cond (b:=decide (s3 < (p_s.node.Actions.length : Int))) rfl (fun h5=>?_) (fun h5=>?_)
 have hr:=selT h5 hr
 refine Ok.skip (Ok.seq (Ok.block (Ok.seq (Ok.region ?_))))
 obtain ⟨x6,hx6,hr⟩:=bind_some hr
 refine OkOps.q (triIdx (enc:=Action.cs) (L:=p_s.node.Actions) (row:=[dS x6.Event,dS x6.Instance,dS x6.Handler,.sl (List.map AValue.cs x6.Args)]) hx6 rfl rfl rfl rfl (fun _=>rfl) trivial rfl) (OkOps.y (.agg [cS x6.Event,cS x6.Instance,cS x6.Handler,.d (.sl (List.map AValue.cs x6.Args))]) (OkOps.m 0 (triAlloc (j:=2) (cs:=[cS ByteArray.empty,cS ByteArray.empty,cS ByteArray.empty,.d (.v (.slice none 0 0))]) rfl rfl rfl rfl) (OkOps.w (triStore (cs':=[cS x6.Event,cS x6.Instance,cS x6.Handler,.d (.sl (List.map AValue.cs x6.Args))]) rfl rfl rfl rfl rfl rfl rfl rfl rfl) (OkOps.nil (Ok.seq (Ok.region (OkOps.y (.c (.loc 2 0)) (OkOps.y (aS x6.Event) (OkOps.y (aS event) (OkOps.y (aB (x6.Event.toList == event.toList)) (OkOps.nil ?_)))))))))))
 refine Ok.cond (b:=x6.Event.toList == event.toList) rfl (fun h7=>?_) (fun h7=>?_)
 have hr:=selT h7 hr
 refine Ok.seq (Ok.region (OkOps.y (.c (.loc 2 3)) (OkOps.y (.c (.d (.sl (List.map AValue.cs x6.Args)))) ?_)))
 obtain ⟨x8,hx8,hr⟩:=bind_some hr
 refine OkOps.q (triCl (tau []) (.s (.c (.d (.sl (List.map AValue.cs x8))))) [] (dp_copyValues_c _ _ hx8) rfl ⟨.inl rfl,trivial⟩ trivial entry57 trivial) (OkOps.y (.c (.loc 2 3)) (OkOps.w (triStore (cs':=[cS x6.Event,cS x6.Instance,cS x6.Handler,.d (.sl (List.map AValue.cs x8))]) rfl rfl rfl rfl rfl rfl rfl rfl rfl) (OkOps.nil (Ok.seq (Ok.region (OkOps.y (.c (.loc 0 0)) (OkOps.y (.c (.loc 0 0)) (OkOps.y (aI p_s.node.ID) (OkOps.y (aI phase) (OkOps.y (.agg [cS x6.Event,cS x6.Instance,cS x6.Handler,.d (.sl (List.map AValue.cs x8))]) (OkOps.y (.agg [cI p_s.node.ID,cI phase,cS x6.Event,cS x6.Instance,cS x6.Handler,.d (.sl (List.map AValue.cs x8))]) (OkOps.w (triStore (cs':=[cI p_s.node.ID,cI phase,cS x6.Event,cS x6.Instance,cS x6.Handler,.d (.sl (List.map AValue.cs x8))]) rfl rfl rfl rfl rfl rfl rfl rfl rfl) (OkOps.y (aB true) (OkOps.nil (Ok.ret ?_)))))))))))))))
 obtain rfl:=Option.some.inj hr
 exact ⟨_,rfl,.inl rfl,trivial⟩
 have hr:=selF h7 hr
 refine Ok.skip (Ok.region (OkOps.y (aI (IntKind.i64.wrap (s3 + 1))) (OkOps.y (aI (IntKind.i64.wrap (s3 + 1))) (OkOps.nil ?_))))
 exact ⟨IntKind.i64.wrap (s3 + 1),hr,(Conv.mk (tau []) ⟨⟨_,rfl,.inl rfl⟩,⟨_,rfl,.inl rfl⟩,⟨_,rfl,.inl rfl⟩,⟨_,rfl,.inl rfl⟩,⟨_,rfl,.inl rfl⟩,⟨_,rfl,.inl rfl⟩,⟨_,rfl,.inl rfl⟩,trivial⟩ ⟨rfl,rfl,trivial⟩ rfl rfl rfl rfl)⟩
 have hr:=selF h5 hr
 refine Ok.exit ?_
 exact ⟨(),hr,(Conv.mk (tau []) ⟨⟨_,rfl,.inl rfl⟩,trivial⟩ ⟨rfl,trivial⟩ rfl rfl rfl rfl)⟩
theorem entry31 : Entry Tryz.prog 31:=⟨_,Tryz.func31,by kernel_rfl,by kernel_rfl⟩
theorem dp_lists_1_c (v : AValue) (c0 : Str) {r : Bool} (hr : dp_lists_1 v c0 = some r) : Con Tryz.prog 59 [.agg [cI v.Kind,cI v.N,cS v.S,.d (.sl (List.map AValue.cs v.L))],.c (.loc 0 0)] [(0,.blk [cS c0] 9)] (.s (aB r)) [(0,.blk [cS c0] 9)]:=by
 unfold dp_lists_1 at hr
 refine Con.of_ok 13 0 [.tmp 3] [(0,.s (.agg [cI v.Kind,cI v.N,cS v.S,.d (.sl (List.map AValue.cs v.L))])),(1,.s (.c (.loc 0 0)))] Tryz.func59 rfl rfl rfl rfl rfl rfl rfl rfl fun w g M ρ _=>(Ok.seq (Ok.region (OkOps.m 0 (triBox (j:=1) (cs:=[cI v.Kind,cI v.N,cS v.S,.d (.sl (List.map AValue.cs v.L))]) rfl rfl rfl rfl rfl) (OkOps.y (aB false) (OkOps.nil (Ok.seq (Ok.region (OkOps.y (.c (.loc 1 0)) (OkOps.y (aI v.Kind) (OkOps.y (aB (v.Kind == 3)) (OkOps.y (aB (v.Kind == 3)) (OkOps.q (triQG (x:=.c (.loc 1 2)) rfl rfl trivial rfl) (OkOps.q (triQG (x:=aS v.S) rfl rfl ⟨fun h=>h,trivial⟩ rfl) (OkOps.q (triQG (x:=aS c0) rfl rfl trivial rfl) (OkOps.q (triQG (x:=aB (v.S.toList == c0.toList)) rfl rfl ⟨fun h=>h,⟨fun h=>h,trivial⟩⟩ rfl) ?_)))))))))))))))
 refine OkOps.q (triAnd rfl rfl (fun h=>h) rfl) (OkOps.y (aB ((v.Kind == 3) && (v.S.toList == c0.toList))) (OkOps.nil (Ok.ret ?_)))
 obtain rfl:=Option.some.inj hr
 exact ⟨_,rfl,.inl rfl,⟨rfl,trivial⟩⟩
theorem entry59 : Entry Tryz.prog 59:=⟨_,Tryz.func59,by kernel_rfl,by kernel_rfl⟩
theorem slices_IndexFunc_Sl_Value_Value_c (p_s : (List AValue)) (f_0 : Str) {r : Int} (hr : slices_IndexFunc_Sl_Value_Value p_s f_0 = some r) : Con Tryz.prog 76 [.c (.d (.sl (List.map AValue.cs p_s))),.c (.fn 59 [(0,0)])] [(0,.blk [cS f_0] 9)] (.s (aI r)) [(0,.blk [cS f_0] 9)]:=by
 unfold slices_IndexFunc_Sl_Value_Value at hr
 refine Con.of_ok 19 0 [.tmp 4] [(0,.s (.c (.d (.sl (List.map AValue.cs p_s))))),(1,.s (.c (.fn 59 [(0,0)])))] Tryz.func76 rfl rfl rfl rfl rfl rfl rfl rfl fun w g M ρ _=>(Ok.seq (Ok.region (OkOps.y (aI 0) (OkOps.nil ?_))))
 obtain ⟨k2,hk2,hr⟩:=jn_some hr
 refine Ok.join (fun (s1 : Unit)=>⟨[],[(0,.blk [cS f_0] 9)],0⟩) k2 r (fun s1 hr=>?_) ?_
 rw [hk2] at hr
 refine Ok.seq (Ok.region (OkOps.y (aI (-1)) (OkOps.nil (Ok.ret ?_))))
 obtain rfl:=Option.some.inj hr
 exact ⟨_,rfl,.inl rfl,⟨rfl,trivial⟩⟩
 clear hk2
 refine Ok.seq (Ok.region (OkOps.y (.c (.d (.sl (List.map AValue.cs p_s)))) (OkOps.q (triLen (enc:=AValue.cs) p_s rfl rfl trivial rfl) (OkOps.y (aI 0) (OkOps.nil (Ok.block (Ok.loopK (fun (s3 : Int)=>⟨[(0,.s (.c (.d (.sl (List.map AValue.cs p_s))))),(1,.s (.c (.fn 59 [(0,0)]))),(7,.s (aI (p_s.length : Int))),(8,.s (aI s3))],[(0,.blk [cS f_0] 9)],0⟩) hr (Conv.mk (tau []) ⟨⟨_,rfl,.inl rfl⟩,⟨_,rfl,.inl rfl⟩,⟨_,rfl,.inl rfl⟩,⟨_,rfl,.inl rfl⟩,trivial⟩ ⟨rfl,trivial⟩ rfl rfl rfl rfl) ?_)))))))
 clear hr
 intro again4 s3 hr
 unfold slices_IndexFunc_Sl_Value_Value_L1 at hr
 refine Ok.seq (Ok.region (OkOps.y (aB (decide (s3 < (p_s.length : Int)))) (OkOps.nil (Ok.seq ?_))))
 refine Ok.cond (b:=decide (s3 < (p_s.length : Int))) rfl (fun h5=>?_) (fun h5=>?_)
 have hr:=selT h5 hr
 refine Ok.skip (Ok.seq (Ok.block (Ok.seq (Ok.region (OkOps.y (aI s3) (OkOps.y (aI s3) (OkOps.nil (Ok.seq (Ok.region (OkOps.y (.c (.fn 59 [(0,0)])) (OkOps.y (.c (.d (.sl (List.map AValue.cs p_s)))) (OkOps.y (aI s3) ?_))))))))))))
 obtain ⟨x6,hx6,hr⟩:=bind_some hr
 refine OkOps.q (triIdx (enc:=AValue.cs) (L:=p_s) (row:=[dI x6.Kind,dI x6.N,dS x6.S,.sl (List.map AValue.cs x6.L)]) hx6 (AValue.cs_eq _) rfl rfl rfl (fun x=>by rw [AValue.cs_eq];rfl) trivial rfl) ?_
 refine OkOps.y (.agg [cI x6.Kind,cI x6.N,cS x6.S,.d (.sl (List.map AValue.cs x6.L))]) ?_
 obtain ⟨x7,hx7,hr⟩:=bind_some hr
 refine OkOps.m 0 (triCallF (caps:=[(0,0)]) (tau [(0,0)]) (.s (aB x7)) [(0,.blk [cS f_0] 9)] rfl (dp_lists_1_c _ _ hx7) rfl ⟨.inl rfl,.inl rfl,trivial⟩ trivial entry59 ⟨rfl,trivial⟩ rfl rfl rfl rfl trivial rfl rfl rfl) (OkOps.nil ?_)
 refine Ok.cond (b:=x7) rfl (fun h8=>?_) (fun h8=>?_)
 have hr:=selT h8 hr
 refine Ok.seq (Ok.region (OkOps.y (aI s3) (OkOps.y (aI s3) (OkOps.nil (Ok.ret ?_)))))
 obtain rfl:=Option.some.inj hr
 exact ⟨_,rfl,.inl rfl,⟨rfl,trivial⟩⟩
 have hr:=selF h8 hr
 refine Ok.skip (Ok.region (OkOps.y (aI (IntKind.i64.wrap (s3 + 1))) (OkOps.y (aI (IntKind.i64.wrap (s3 + 1))) (OkOps.nil ?_))))
 exact ⟨IntKind.i64.wrap (s3 + 1),hr,(Conv.mk (tau []) ⟨⟨_,rfl,.inl rfl⟩,⟨_,rfl,.inl rfl⟩,⟨_,rfl,.inl rfl⟩,⟨_,rfl,.inl rfl⟩,trivial⟩ ⟨rfl,trivial⟩ rfl rfl rfl rfl)⟩
 have hr:=selF h5 hr
 refine Ok.exit ?_
 exact ⟨(),hr,(Conv.mk (tau []) trivial ⟨rfl,trivial⟩ rfl rfl rfl rfl)⟩
theorem entry76 : Entry Tryz.prog 76:=⟨_,Tryz.func76,by kernel_rfl,by kernel_rfl⟩
theorem slices_ContainsFunc_Sl_Value_Value_c (p_s : (List AValue)) (f_0 : Str) {r : Bool} (hr : slices_ContainsFunc_Sl_Value_Value p_s f_0 = some r) : Con Tryz.prog 60 [.c (.d (.sl (List.map AValue.cs p_s))),.c (.fn 59 [(0,0)])] [(0,.blk [cS f_0] 9)] (.s (aB r)) [(0,.blk [cS f_0] 9)]:=by
 unfold slices_ContainsFunc_Sl_Value_Value at hr
 refine Con.of_ok 9 0 [.tmp 4] [(0,.s (.c (.d (.sl (List.map AValue.cs p_s))))),(1,.s (.c (.fn 59 [(0,0)])))] Tryz.func60 rfl rfl rfl rfl rfl rfl rfl rfl fun w g M ρ _=>(Ok.seq (Ok.region (OkOps.y (aB false) (OkOps.nil (Ok.seq (Ok.region (OkOps.y (.c (.d (.sl (List.map AValue.cs p_s)))) (OkOps.y (.c (.fn 59 [(0,0)])) ?_))))))))
 obtain ⟨x1,hx1,hr⟩:=bind_some hr
 refine OkOps.m 0 (triCl (tau [(0,0)]) (.s (aI x1)) [(0,.blk [cS f_0] 9)] (slices_IndexFunc_Sl_Value_Value_c _ _ hx1) rfl ⟨.inl rfl,.inl rfl,trivial⟩ trivial entry76 ⟨rfl,trivial⟩) (OkOps.y (aB (decide (x1 ≥ 0))) (OkOps.y (aB (decide (x1 ≥ 0))) (OkOps.nil (Ok.ret ?_))))
 obtain rfl:=Option.some.inj hr
 exact ⟨_,rfl,.inl rfl,⟨rfl,trivial⟩⟩
theorem entry60 : Entry Tryz.prog 60:=⟨_,Tryz.func60,by kernel_rfl,by kernel_rfl⟩
theorem dp_lists_c (p_n : Node) (name : Str) (text : Str) {r : Bool} (hr : dp_lists p_n name text = some r) : Con Tryz.prog 32 [.agg [cI p_n.ID,cI p_n.Parent,cI p_n.Kind,cS p_n.Key,.d (.sl (List.map Attr.cs p_n.Attrs)),.d (.sl (List.map Action.cs p_n.Actions)),.d (.sl (List.map (eInt .i64) p_n.Kids))],aS name,aS text] [] (.s (aB r)) []:=by
 unfold dp_lists at hr
 refine Con.of_ok 34 0 [.tmp 6] [(0,.s (.agg [cI p_n.ID,cI p_n.Parent,cI p_n.Kind,cS p_n.Key,.d (.sl (List.map Attr.cs p_n.Attrs)),.d (.sl (List.map Action.cs p_n.Actions)),.d (.sl (List.map (eInt .i64) p_n.Kids))])),(1,.s (aS name)),(2,.s (aS text))] Tryz.func32 rfl rfl rfl rfl rfl rfl rfl rfl fun w g M ρ _=>(Ok.seq (Ok.region (OkOps.m 0 (triBox (j:=0) (cs:=[cI p_n.ID,cI p_n.Parent,cI p_n.Kind,cS p_n.Key,.d (.sl (List.map Attr.cs p_n.Attrs)),.d (.sl (List.map Action.cs p_n.Actions)),.d (.sl (List.map (eInt .i64) p_n.Kids))]) rfl rfl rfl rfl rfl) (OkOps.m 0 (triBox (j:=1) (cs:=[cS text]) rfl rfl rfl rfl rfl) (OkOps.y (aB false) (OkOps.nil (Ok.seq (Ok.region (OkOps.y (.c (.loc 0 4)) (OkOps.y (.c (.d (.sl (List.map Attr.cs p_n.Attrs)))) (OkOps.y (aS name) ?_)))))))))))
 obtain ⟨x1,hx1,hr⟩:=bind_some hr
 refine OkOps.q (triCl (tau []) (.tup [.agg [cI x1.1.Kind,cI x1.1.N,cS x1.1.S,.d (.sl (List.map AValue.cs x1.1.L))],aB x1.2]) [] (vw_Attr_c _ _ hx1) rfl ⟨.inl rfl,.inl rfl,trivial⟩ trivial entry58 trivial) (OkOps.q (triMv (v:=.tup [.agg [cI x1.1.Kind,cI x1.1.N,cS x1.1.S,.d (.sl (List.map AValue.cs x1.1.L))],aB x1.2]) rfl rfl) (OkOps.y (.agg [cI x1.1.Kind,cI x1.1.N,cS x1.1.S,.d (.sl (List.map AValue.cs x1.1.L))]) (OkOps.y (aB x1.2) (OkOps.m 0 (triAlloc (j:=2) (cs:=[cI 0,cI 0,cS ByteArray.empty,.d (.v (.slice none 0 0))]) rfl rfl rfl rfl) (OkOps.w (triStore (cs':=[cI x1.1.Kind,cI x1.1.N,cS x1.1.S,.d (.sl (List.map AValue.cs x1.1.L))]) rfl rfl rfl rfl rfl rfl rfl rfl rfl) (OkOps.y (aB x1.2) (OkOps.nil (Ok.seq (Ok.seq (Ok.region (OkOps.y (aB x1.2) (OkOps.y (aB (!x1.2)) (OkOps.nil ?_)))))))))))))
 refine Ok.cond (b:=!x1.2) rfl (fun h2=>?_) (fun h2=>?_)
 have hr:=selT h2 hr
 refine Ok.seq (Ok.region (OkOps.y (aB false) (OkOps.nil (Ok.ret ?_))))
 obtain rfl:=Option.some.inj hr
 exact ⟨_,rfl,.inl rfl,trivial⟩
 have hr:=selF h2 hr
 refine Ok.skip (Ok.seq (Ok.region (OkOps.q (triMkF [(1,0)] rfl trivial rfl) (OkOps.y (.c (.fn 59 [(1,0)])) (OkOps.nil (Ok.seq (Ok.region (OkOps.y (.c (.fn 59 [(1,0)])) (OkOps.y (.agg [cI x1.1.Kind,cI x1.1.N,cS x1.1.S,.d (.sl (List.map AValue.cs x1.1.L))]) ?_)))))))))
 obtain ⟨x3,hx3,hr⟩:=bind_some hr
 refine OkOps.m 0 (triCallF (caps:=[(1,0)]) (tau [(0,1)]) (.s (aB x3)) [(1,.blk [cS text] 9)] rfl (dp_lists_1_c _ _ hx3) rfl ⟨.inl rfl,.inl rfl,trivial⟩ trivial entry59 ⟨rfl,trivial⟩ rfl rfl rfl rfl trivial rfl rfl rfl) (OkOps.y (aB x3) (OkOps.q (triQG (x:=.c (.loc 2 0)) rfl rfl trivial rfl) (OkOps.q (triQG (x:=aI x1.1.Kind) rfl rfl ⟨fun h=>h,trivial⟩ rfl) (OkOps.q (triQG (x:=aB (x1.1.Kind == 4)) rfl rfl ⟨fun h=>h,trivial⟩ rfl) (OkOps.q (triQG (x:=aB (x1.1.Kind == 4)) rfl rfl ⟨fun h=>h,trivial⟩ rfl) (OkOps.q (triQG (x:=.c (.loc 2 3)) rfl rfl trivial rfl) (OkOps.q (triQG (x:=.c (.d (.sl (List.map AValue.cs x1.1.L)))) rfl rfl ⟨fun h=>h,trivial⟩ rfl) (OkOps.q (triQG (x:=.c (.fn 59 [(1,0)])) rfl rfl trivial rfl) ?_))))))))
 obtain ⟨x4,hx4,hr⟩:=bind_some hr
 refine OkOps.m 0 (triCallGW (tau [(0,1)]) (aB x4) [(1,.blk [cS text] 9)] (fun hg=>slices_ContainsFunc_Sl_Value_Value_c _ _ (selT hg hx4)) (fun hg=>by cases selF hg hx4;rfl) rfl rfl ⟨.inl rfl,.inl rfl,trivial⟩ ⟨fun h=>h,⟨fun h=>h,trivial⟩⟩ entry60 ⟨rfl,trivial⟩ rfl rfl rfl rfl rfl rfl rfl rfl) ?_
 refine OkOps.q (triAndG rfl rfl rfl (fun h=>h) (fun h h2=>by rw [h,h2];rfl) rfl) ?_
 refine OkOps.q (triOr rfl rfl (fun h=>by rw [h];rfl) rfl) ?_
 refine OkOps.y (aB (x3 || ((x1.1.Kind == 4) && x4))) (OkOps.nil (Ok.ret ?_))
 obtain rfl:=Option.some.inj hr
 exact ⟨_,rfl,.inl rfl,trivial⟩
theorem entry32 : Entry Tryz.prog 32:=⟨_,Tryz.func32,by kernel_rfl,by kernel_rfl⟩
theorem dp_reacts_c (kind : Int) (event : Str) {r : Bool} (hr : dp_reacts kind event = some r) : Con Tryz.prog 37 [aI kind,aS event] [] (.s (aB r)) []:=by
 unfold dp_reacts at hr
 refine Con.of_ok 25 0 [.tmp 4] [(0,.s (aI kind)),(1,.s (aS event))] Tryz.func37 rfl rfl rfl rfl rfl rfl rfl rfl fun w g M ρ _=>(Ok.seq (Ok.region (OkOps.y (aB false) (OkOps.nil (Ok.seq (Ok.seq (Ok.region (OkOps.y (aI kind) (OkOps.nil (Ok.block ?_))))))))))
 obtain ⟨k2,hk2,hr⟩:=jn_some hr
 refine Ok.join (fun (s1 : Bool)=>⟨[(1,.s (aS event)),(5,.s (aI kind)),(6,.s (aB s1))],[],0⟩) k2 r (fun s1 hr=>?_) ?_
 rw [hk2] at hr
 refine Ok.cond (b:=s1) rfl (fun h3=>?_) (fun h3=>?_)
 have hr:=selT h3 hr
 refine Ok.seq (Ok.region (OkOps.y (aS event) (OkOps.y (aB (event.toList == (ByteArray.mk #[112,114,101,115,115]).toList)) (OkOps.y (aB (event.toList == (ByteArray.mk #[112,114,101,115,115]).toList)) (OkOps.nil (Ok.ret ?_))))))
 obtain rfl:=Option.some.inj hr
 exact ⟨_,rfl,.inl rfl,trivial⟩
 have hr:=selF h3 hr
 obtain ⟨k5,hk5,hr⟩:=jn_some hr
 refine Ok.join (fun (s4 : Bool)=>⟨[(1,.s (aS event)),(5,.s (aI kind)),(12,.s (aB s4))],[],0⟩) k5 r (fun s4 hr=>?_) ?_
 rw [hk5] at hr
 refine Ok.cond (b:=s4) rfl (fun h6=>?_) (fun h6=>?_)
 have hr:=selT h6 hr
 refine Ok.seq (Ok.region (OkOps.y (aS event) (OkOps.y (aB (event.toList == (ByteArray.mk #[99,104,97,110,103,101]).toList)) (OkOps.y (aB (event.toList == (ByteArray.mk #[99,104,97,110,103,101]).toList)) (OkOps.nil (Ok.ret ?_))))))
 obtain rfl:=Option.some.inj hr
 exact ⟨_,rfl,.inl rfl,trivial⟩
 have hr:=selF h6 hr
 refine Ok.seq (Ok.region (OkOps.y (aB (kind == 8)) (OkOps.y (aB (kind == 8)) (OkOps.nil ?_))))
 refine Ok.cond (b:=kind == 8) rfl (fun h7=>?_) (fun h7=>?_)
 have hr:=selT h7 hr
 refine Ok.seq (Ok.region (OkOps.y (aS event) (OkOps.y (aB (event.toList == (ByteArray.mk #[115,99,114,111,108,108]).toList)) (OkOps.y (aB (event.toList == (ByteArray.mk #[115,99,114,111,108,108]).toList)) (OkOps.nil (Ok.ret ?_))))))
 obtain rfl:=Option.some.inj hr
 exact ⟨_,rfl,.inl rfl,trivial⟩
 have hr:=selF h7 hr
 refine Ok.seq (Ok.region (OkOps.y (aB (kind == 12)) (OkOps.y (aB (kind == 12)) (OkOps.nil ?_))))
 refine Ok.cond (b:=kind == 12) rfl (fun h8=>?_) (fun h8=>?_)
 have hr:=selT h8 hr
 refine Ok.seq (Ok.region (OkOps.y (aS event) (OkOps.y (aB (event.toList == (ByteArray.mk #[100,105,115,109,105,115,115]).toList)) (OkOps.y (aB (event.toList == (ByteArray.mk #[100,105,115,109,105,115,115]).toList)) (OkOps.nil (Ok.ret ?_))))))
 obtain rfl:=Option.some.inj hr
 exact ⟨_,rfl,.inl rfl,trivial⟩
 have hr:=selF h8 hr
 refine Ok.skip (Ok.seq (Ok.region (OkOps.y (aB false) (OkOps.nil (Ok.ret ?_)))))
 obtain rfl:=Option.some.inj hr
 exact ⟨_,rfl,.inl rfl,trivial⟩
 clear hk5
 refine Ok.seq (Ok.region (OkOps.y (aB (kind == 4)) (OkOps.y (aB (kind == 4)) (OkOps.nil ?_))))
 refine Ok.cond (b:=kind == 4) rfl (fun h9=>?_) (fun h9=>?_)
 have hr:=selT h9 hr
 refine Ok.skip ?_
 exact ⟨kind == 4,hr,(Conv.mk (tau []) ⟨⟨_,rfl,.inl rfl⟩,⟨_,rfl,.inl rfl⟩,⟨_,rfl,.inl rfl⟩,trivial⟩ trivial rfl rfl rfl rfl)⟩
 have hr:=selF h9 hr
 refine Ok.region (OkOps.y (aB (kind == 13)) (OkOps.y (aB (kind == 13)) (OkOps.nil ?_)))
 exact ⟨kind == 13,hr,(Conv.mk (tau []) ⟨⟨_,rfl,.inl rfl⟩,⟨_,rfl,.inl rfl⟩,⟨_,rfl,.inl rfl⟩,trivial⟩ trivial rfl rfl rfl rfl)⟩
 clear hk2
 refine Ok.seq (Ok.region (OkOps.y (aB (kind == 3)) (OkOps.y (aB (kind == 3)) (OkOps.nil ?_))))
 refine Ok.cond (b:=kind == 3) rfl (fun h10=>?_) (fun h10=>?_)
 have hr:=selT h10 hr
 refine Ok.skip ?_
 exact ⟨kind == 3,hr,(Conv.mk (tau []) ⟨⟨_,rfl,.inl rfl⟩,⟨_,rfl,.inl rfl⟩,⟨_,rfl,.inl rfl⟩,trivial⟩ trivial rfl rfl rfl rfl)⟩
 have hr:=selF h10 hr
 refine Ok.seq (Ok.region (OkOps.y (aB (kind == 6)) (OkOps.y (aB (kind == 6)) (OkOps.nil ?_))))
 refine Ok.cond (b:=kind == 6) rfl (fun h11=>?_) (fun h11=>?_)
 have hr:=selT h11 hr
 refine Ok.skip ?_
 exact ⟨kind == 6,hr,(Conv.mk (tau []) ⟨⟨_,rfl,.inl rfl⟩,⟨_,rfl,.inl rfl⟩,⟨_,rfl,.inl rfl⟩,trivial⟩ trivial rfl rfl rfl rfl)⟩
 have hr:=selF h11 hr
 refine Ok.region (OkOps.y (aB (kind == 7)) (OkOps.y (aB (kind == 7)) (OkOps.nil ?_)))
 exact ⟨kind == 7,hr,(Conv.mk (tau []) ⟨⟨_,rfl,.inl rfl⟩,⟨_,rfl,.inl rfl⟩,⟨_,rfl,.inl rfl⟩,trivial⟩ trivial rfl rfl rfl rfl)⟩
theorem entry37 : Entry Tryz.prog 37:=⟨_,Tryz.func37,by kernel_rfl,by kernel_rfl⟩
theorem slices_Backward_Sl_step_step_c (L : (List dispatch_step)) : Con Tryz.prog 33 [.c (.d (.sl (List.map dispatch_step.cs L)))] [] (.s (.c (.fn 61 [(0,0)]))) [(0,.blk [.d (.sl (List.map dispatch_step.cs L))] 70)]:=by
 refine Con.of_ok 4 0 [.tmp 2] [(0,.s (.c (.d (.sl (List.map dispatch_step.cs L)))))] Tryz.func33 rfl rfl rfl rfl rfl rfl rfl rfl fun w g M ρ _=>(Ok.seq (Ok.region (OkOps.m 0 (triBox (j:=0) (cs:=[.d (.sl (List.map dispatch_step.cs L))]) rfl rfl rfl rfl rfl) (OkOps.y (.c (.d (.v .nilFunc))) (OkOps.nil (Ok.seq (Ok.region (OkOps.q (triMkF [(0,0)] rfl trivial rfl) (OkOps.y (.c (.fn 61 [(0,0)])) (OkOps.nil (Ok.ret ?_)))))))))))
 exact ⟨_,rfl,.inl rfl,⟨rfl,trivial⟩⟩
theorem entry33 : Entry Tryz.prog 33:=⟨_,Tryz.func33,by kernel_rfl,by kernel_rfl⟩
theorem dp_Default_c (t : Tree) (target : Int) (event : Str) {r : Int} (hr : dp_Default t target event = some r) : Con Tryz.prog 21 [.agg [cI t.Root,cI t.Next,.d (.sl (List.map Node.cs t.Nodes))],aI target,aS event] [] (.s (aI r)) []:=by
 unfold dp_Default at hr
 refine Con.of_ok 32 0 [.cell 6 3] [(0,.s (.agg [cI t.Root,cI t.Next,.d (.sl (List.map Node.cs t.Nodes))])),(1,.s (aI target)),(2,.s (aS event))] Tryz.func21 rfl rfl rfl rfl rfl rfl rfl rfl fun w g M ρ _=>(Ok.seq (Ok.region (OkOps.m 0 (triBox (j:=0) (cs:=[cI t.Root,cI t.Next,.d (.sl (List.map Node.cs t.Nodes))]) rfl rfl rfl rfl rfl) (OkOps.m 0 (triBox (j:=1) (cs:=[cS event]) rfl rfl rfl rfl rfl) (OkOps.m 0 (triAlloc (j:=2) (cs:=[cI 0]) rfl rfl rfl rfl) (OkOps.nil ?_))))))
 obtain ⟨k2,hk2,hr⟩:=jn_some hr
 refine Ok.join (fun (s1 : Unit)=>⟨[(6,.s (.c (.loc 2 0)))],[(2,.blk [cI 0] 3)],0⟩) k2 r (fun s1 hr=>?_) ?_
 rw [hk2] at hr
 refine Ok.seq (Ok.region (OkOps.w (triStore (cs':=[cI 0]) rfl rfl rfl rfl rfl rfl rfl rfl rfl) (OkOps.nil (Ok.ret ?_))))
 obtain rfl:=Option.some.inj hr
 exact ⟨_,rfl,.inl rfl,trivial⟩
 clear hk2
 refine Ok.seq (Ok.region (OkOps.y (.agg [cI t.Root,cI t.Next,.d (.sl (List.map Node.cs t.Nodes))]) (OkOps.y (aI target) ?_)))
 obtain ⟨x3,hx3,hr⟩:=bind_some hr
 refine OkOps.q (triCl (tau []) (.s (.c (.d (.sl (List.map dispatch_step.cs x3))))) [] (dp_steps_c _ _ hx3) rfl ⟨.inl rfl,.inl rfl,trivial⟩ trivial entry25 trivial) (OkOps.m 0 (triCall (tau [(0,3)]) (.s (.c (.fn 61 [(3,0)]))) [(3,.blk [.d (.sl (List.map dispatch_step.cs x3))] 70)] (slices_Backward_Sl_step_step_c x3) rfl ⟨.inl rfl,trivial⟩ trivial entry33 trivial rfl rfl rfl rfl ⟨rfl,trivial⟩ rfl rfl rfl) (OkOps.nil (Ok.block ?_)))
 refine Ok.rangeB (jl:=4) (nx:=0) (nx1:=0) (caps:=[(3,0)]) rfl rfl trivial Tryz.func61 rfl rfl rfl rfl rfl rfl (fun l ρ1 M1 ob hT1 E=>?_)
 refine Ok.seq (Ok.region (OkOps.y (.c (.d (.sl (List.map dispatch_step.cs x3)))) (OkOps.q (triLen (enc:=dispatch_step.cs) x3 rfl rfl trivial rfl) (OkOps.y (aI (IntKind.i64.wrap ((x3.length : Int) - 1))) (OkOps.y (aI (IntKind.i64.wrap ((x3.length : Int) - 1))) (OkOps.nil ?_))))))
 obtain ⟨k5,hk5,hr⟩:=jn_some hr
 refine Ok.joinEnd (fun (s4 : Unit)=>⟨[],[(0,.blk [cI t.Root,cI t.Next,.d (.sl (List.map Node.cs t.Nodes))] 27),(1,.blk [cS event] 9),(2,.blk [cI 0] 3),(3,.blk [.d (.sl (List.map dispatch_step.cs x3))] 70),(4,.obj (ob .ready none))],0⟩) k5 r (fun s4 hr=>?_) ?_
 rw [hk5] at hr
 refine ⟨.inr rfl,.inl ⟨rfl,?_⟩⟩
 exact ⟨(),hr,(Conv.mk (tau []) ⟨⟨_,rfl,.inl rfl⟩,trivial⟩ ⟨rfl,trivial⟩ rfl rfl rfl rfl)⟩
 clear hk5
 refine Ok.block (Ok.loopK (fun (s6 : Int)=>⟨[(0,.s (.c (.d (.v (yl l))))),(1,.s (.c (.loc 3 0))),(3,.s (aI s6))],[(0,.blk [cI t.Root,cI t.Next,.d (.sl (List.map Node.cs t.Nodes))] 27),(1,.blk [cS event] 9),(2,.blk [cI 0] 3),(3,.blk [.d (.sl (List.map dispatch_step.cs x3))] 70),(4,.obj (ob .ready none))],0⟩) hr (Conv.mk (tau []) ⟨⟨_,rfl,.inl rfl⟩,⟨_,rfl,.inl rfl⟩,⟨_,rfl,.inl rfl⟩,trivial⟩ ⟨rfl,rfl,rfl,rfl,rfl,trivial⟩ rfl rfl rfl rfl) ?_)
 clear hr
 intro again7 s6 hr
 unfold dp_Default_L1 at hr
 refine Ok.seq (Ok.seq (Ok.region (OkOps.y (aI s6) (OkOps.y (aB (decide (s6 ≥ 0))) (OkOps.nil ?_)))))
 refine Ok.cond (b:=decide (s6 ≥ 0)) rfl (fun h8=>?_) (fun h8=>?_)
 have hr:=selT h8 hr
 refine Ok.skip (Ok.seq (Ok.block (Ok.seq (Ok.region (OkOps.y (.c (.d (.v (yl l)))) (OkOps.y (aI s6) (OkOps.y (.c (.d (.sl (List.map dispatch_step.cs x3)))) (OkOps.y (aI s6) ?_))))))))
 obtain ⟨x9,hx9,hr⟩:=bind_some hr
 refine OkOps.q (triIdx (enc:=dispatch_step.cs) (L:=x3) (row:=[dI x9.node.ID,dI x9.node.Parent,dI x9.node.Kind,dS x9.node.Key,.sl (List.map Attr.cs x9.node.Attrs),.sl (List.map Action.cs x9.node.Actions),.sl (List.map (eInt .i64) x9.node.Kids),dB x9.disabled]) hx9 rfl rfl rfl rfl (fun _=>rfl) trivial rfl) (OkOps.y (.agg [cI x9.node.ID,cI x9.node.Parent,cI x9.node.Kind,cS x9.node.Key,.d (.sl (List.map Attr.cs x9.node.Attrs)),.d (.sl (List.map Action.cs x9.node.Actions)),.d (.sl (List.map (eInt .i64) x9.node.Kids)),cB_ x9.disabled]) ?_)
 refine OkOps.yield (jl:=4) (v1:=aI s6) (v2:=.agg [cI x9.node.ID,cI x9.node.Parent,cI x9.node.Kind,cS x9.node.Key,.d (.sl (List.map Attr.cs x9.node.Attrs)),.d (.sl (List.map Action.cs x9.node.Actions)),.d (.sl (List.map (eInt .i64) x9.node.Kids)),cB_ x9.disabled]) (nx:=0) E (by decide) rfl rfl rfl rfl trivial rfl rfl dom_cons dom_self (fun ρc Mc hT2=>?_)
 refine Ok.region (OkOps.m 0 (triAlloc (j:=5) (cs:=[cI 0,cI 0,cI 0,cS ByteArray.empty,.d (.v (.slice none 0 0)),.d (.v (.slice none 0 0)),.d (.v (.slice none 0 0)),cB_ false]) rfl rfl rfl rfl) (OkOps.w (triStore (cs':=[cI x9.node.ID,cI x9.node.Parent,cI x9.node.Kind,cS x9.node.Key,.d (.sl (List.map Attr.cs x9.node.Attrs)),.d (.sl (List.map Action.cs x9.node.Actions)),.d (.sl (List.map (eInt .i64) x9.node.Kids)),cB_ x9.disabled]) rfl rfl rfl rfl rfl rfl rfl rfl rfl) (OkOps.nil ?_)))
 refine ⟨rfl,rfl,?_⟩
 refine Ok.block (Ok.block (Ok.seq (Ok.region (OkOps.y (.c (.loc 5 7)) (OkOps.y (aB x9.disabled) (OkOps.y (aB x9.disabled) (OkOps.nil ?_)))))))
 refine Ok.cond (b:=x9.disabled) rfl (fun h10=>?_) (fun h10=>?_)
 have hr:=selT h10 hr
 refine Ok.skip ?_
 refine ⟨rfl,?_⟩
 refine OkOps.y (aB (!true)) (OkOps.nil ?_)
 refine Ok.cond (b:=!true) rfl (fun h=>by cases h) (fun _=>?_)
 refine Ok.skip (Ok.region (OkOps.y (aI s6) (OkOps.y (aI (IntKind.i64.wrap (s6 - 1))) (OkOps.y (aI (IntKind.i64.wrap (s6 - 1))) (OkOps.nil ?_)))))
 exact ⟨IntKind.i64.wrap (s6 - 1),hr,(Conv.mk (tau []) ⟨⟨_,rfl,.inl rfl⟩,⟨_,rfl,.inl rfl⟩,⟨_,rfl,.inl rfl⟩,trivial⟩ ⟨rfl,rfl,rfl,rfl,rfl,trivial⟩ rfl rfl rfl rfl)⟩
 have hr:=selF h10 hr
 refine Ok.seq (Ok.region (OkOps.y (.c (.loc 5 0)) (OkOps.y (.agg [cI x9.node.ID,cI x9.node.Parent,cI x9.node.Kind,cS x9.node.Key,.d (.sl (List.map Attr.cs x9.node.Attrs)),.d (.sl (List.map Action.cs x9.node.Actions)),.d (.sl (List.map (eInt .i64) x9.node.Kids))]) (OkOps.y (aS event) ?_))))
 obtain ⟨x12,hx12,hr⟩:=bind_some hr
 refine OkOps.q (triCl (tau []) (.s (aB x12)) [] (dp_lists_c _ _ _ hx12) rfl ⟨.inl rfl,.inl rfl,.inl rfl,trivial⟩ trivial entry32 trivial) (OkOps.y (aB x12) (OkOps.nil ?_))
 refine Ok.cond (b:=x12) rfl (fun h13=>?_) (fun h13=>?_)
 have hr:=selT h13 hr
 refine Ok.seq (Ok.region (OkOps.w (triStore (cs':=[cI 0]) rfl rfl rfl rfl rfl rfl rfl rfl rfl) (OkOps.nil (Ok.ret ?_))))
 refine ⟨rfl,?_⟩
 refine OkOps.y (aB (!false)) (OkOps.nil ?_)
 refine Ok.cond (b:=!false) rfl (fun _=>?_) (fun h=>by cases h)
 refine Ok.ret ?_
 refine ⟨.inl rfl,.inr ⟨.ret,_,rfl,rfl,?_⟩⟩
 obtain rfl:=Option.some.inj hr
 exact ⟨_,rfl,.inl rfl,trivial⟩
 have hr:=selF h13 hr
 refine Ok.seq (Ok.region (OkOps.y (.c (.loc 5 0)) (OkOps.y (.c (.loc 5 2)) (OkOps.y (aI x9.node.Kind) (OkOps.y (aS event) ?_)))))
 obtain ⟨x15,hx15,hr⟩:=bind_some hr
 refine OkOps.q (triCl (tau []) (.s (aB x15)) [] (dp_reacts_c _ _ hx15) rfl ⟨.inl rfl,.inl rfl,trivial⟩ trivial entry37 trivial) (OkOps.y (aB x15) (OkOps.nil ?_))
 refine Ok.cond (b:=x15) rfl (fun h16=>?_) (fun h16=>?_)
 have hr:=selT h16 hr
 refine Ok.seq (Ok.region (OkOps.y (.c (.loc 5 0)) (OkOps.y (.c (.loc 5 0)) (OkOps.y (aI x9.node.ID) (OkOps.w (triStore (cs':=[cI x9.node.ID]) rfl rfl rfl rfl rfl rfl rfl rfl rfl) (OkOps.nil (Ok.ret ?_)))))))
 refine ⟨rfl,?_⟩
 refine OkOps.y (aB (!false)) (OkOps.nil ?_)
 refine Ok.cond (b:=!false) rfl (fun _=>?_) (fun h=>by cases h)
 refine Ok.ret ?_
 refine ⟨.inl rfl,.inr ⟨.ret,_,rfl,rfl,?_⟩⟩
 obtain rfl:=Option.some.inj hr
 exact ⟨_,rfl,.inl rfl,trivial⟩
 have hr:=selF h16 hr
 refine Ok.skip ?_
 refine ⟨rfl,?_⟩
 refine OkOps.y (aB (!true)) (OkOps.nil ?_)
 refine Ok.cond (b:=!true) rfl (fun h=>by cases h) (fun _=>?_)
 refine Ok.skip (Ok.region (OkOps.y (aI s6) (OkOps.y (aI (IntKind.i64.wrap (s6 - 1))) (OkOps.y (aI (IntKind.i64.wrap (s6 - 1))) (OkOps.nil ?_)))))
 exact ⟨IntKind.i64.wrap (s6 - 1),hr,(Conv.mk (tau []) ⟨⟨_,rfl,.inl rfl⟩,⟨_,rfl,.inl rfl⟩,⟨_,rfl,.inl rfl⟩,trivial⟩ ⟨rfl,rfl,rfl,rfl,rfl,trivial⟩ rfl rfl rfl rfl)⟩
 have hr:=selF h8 hr
 refine Ok.exit ?_
 exact ⟨(),hr,(Conv.mk (tau []) trivial ⟨rfl,rfl,rfl,rfl,rfl,trivial⟩ rfl rfl rfl rfl)⟩
theorem entry21 : Entry Tryz.prog 21:=⟨_,Tryz.func21,by kernel_rfl,by kernel_rfl⟩
theorem dp_Disabled_c (t : Tree) (id : Int) {r : Bool} (hr : dp_Disabled t id = some r) : Con Tryz.prog 16 [.agg [cI t.Root,cI t.Next,.d (.sl (List.map Node.cs t.Nodes))],aI id] [] (.s (aB r)) []:=by
 unfold dp_Disabled at hr
 refine Con.of_ok 21 0 [.tmp 4] [(0,.s (.agg [cI t.Root,cI t.Next,.d (.sl (List.map Node.cs t.Nodes))])),(1,.s (aI id))] Tryz.func16 rfl rfl rfl rfl rfl rfl rfl rfl fun w g M ρ _=>(Ok.seq (Ok.region (OkOps.m 0 (triBox (j:=0) (cs:=[cI t.Root,cI t.Next,.d (.sl (List.map Node.cs t.Nodes))]) rfl rfl rfl rfl rfl) (OkOps.y (aB false) (OkOps.nil (Ok.seq (Ok.region (OkOps.y (.agg [cI t.Root,cI t.Next,.d (.sl (List.map Node.cs t.Nodes))]) (OkOps.y (aI id) ?_)))))))))
 obtain ⟨x1,hx1,hr⟩:=bind_some hr
 refine OkOps.q (triCl (tau []) (.s (.c (.d (.sl (List.map dispatch_step.cs x1))))) [] (dp_steps_c _ _ hx1) rfl ⟨.inl rfl,.inl rfl,trivial⟩ trivial entry25 trivial) (OkOps.y (.c (.d (.sl (List.map dispatch_step.cs x1)))) (OkOps.nil (Ok.seq (Ok.region (OkOps.y (.c (.d (.sl (List.map dispatch_step.cs x1)))) (OkOps.q (triLen (enc:=dispatch_step.cs) x1 rfl rfl trivial rfl) (OkOps.y (aB (decide ((x1.length : Int) > 0))) (OkOps.y (aB (decide ((x1.length : Int) > 0))) (OkOps.q (triQG (x:=.c (.d (.sl (List.map dispatch_step.cs x1)))) rfl rfl trivial rfl) (OkOps.q (triQG (x:=.c (.d (.sl (List.map dispatch_step.cs x1)))) rfl rfl trivial rfl) (OkOps.q (triLenG (enc:=dispatch_step.cs) x1 rfl rfl rfl ⟨fun h=>h,trivial⟩ rfl) (OkOps.q (triQG (x:=aI (IntKind.i64.wrap ((x1.length : Int) - 1))) rfl rfl ⟨fun h=>h,trivial⟩ rfl) ?_))))))))))))
 obtain ⟨x2,hx2,hr⟩:=bind_some hr
 refine OkOps.q (triIdxG (enc:=dispatch_step.cs) (L:=x1) (row:=[dI x2.node.ID,dI x2.node.Parent,dI x2.node.Kind,dS x2.node.Key,.sl (List.map Attr.cs x2.node.Attrs),.sl (List.map Action.cs x2.node.Actions),.sl (List.map (eInt .i64) x2.node.Kids),dB x2.disabled]) (gO_t hx2) rfl rfl rfl rfl rfl (fun _=>rfl) ⟨fun h=>h,⟨fun h=>h,trivial⟩⟩ rfl) (OkOps.q (triQG (x:=.c (.pt [dB x2.disabled])) rfl rfl ⟨fun h=>h,trivial⟩ rfl) (OkOps.q (triQG (x:=aB x2.disabled) rfl rfl ⟨fun h=>h,trivial⟩ rfl) (OkOps.q (triAnd rfl rfl (fun h=>h) rfl) (OkOps.y (aB ((decide ((x1.length : Int) > 0)) && x2.disabled)) (OkOps.nil (Ok.ret ?_))))))
 obtain rfl:=Option.some.inj hr
 exact ⟨_,rfl,.inl rfl,trivial⟩
theorem entry16 : Entry Tryz.prog 16:=⟨_,Tryz.func16,by kernel_rfl,by kernel_rfl⟩
theorem dp_Route_1_c (p_s : dispatch_step) (phase : Int) (name : Str) (p_end : Str) (c0 : (List Invocation)) (c1 : Str) {r : Bool × (List Invocation)} (hr : dp_Route_1 p_s phase name p_end c0 c1 = some r) : Con Tryz.prog 30 [.agg [cI p_s.node.ID,cI p_s.node.Parent,cI p_s.node.Kind,cS p_s.node.Key,.d (.sl (List.map Attr.cs p_s.node.Attrs)),.d (.sl (List.map Action.cs p_s.node.Actions)),.d (.sl (List.map (eInt .i64) p_s.node.Kids)),cB_ p_s.disabled],aI phase,aS name,aS p_end,.c (.loc 0 0),.c (.loc 2 0)] [(0,.blk [.tl 1 (List.map Invocation.cs c0)] 55),(1,.tail 6),(2,.blk [cS c1] 9)] (.s (aB r.1)) [(0,.blk [.tl 3000 (List.map Invocation.cs r.2)] 55),(2,.blk [cS c1] 9),(1,.dead),(3000,.tail 6)]:=by
 unfold dp_Route_1 at hr
 refine Con.of_ok 32 0 [.tmp 10] [(0,.s (.agg [cI p_s.node.ID,cI p_s.node.Parent,cI p_s.node.Kind,cS p_s.node.Key,.d (.sl (List.map Attr.cs p_s.node.Attrs)),.d (.sl (List.map Action.cs p_s.node.Actions)),.d (.sl (List.map (eInt .i64) p_s.node.Kids)),cB_ p_s.disabled])),(1,.s (aI phase)),(2,.s (aS name)),(3,.s (aS p_end)),(4,.s (.c (.loc 0 0))),(5,.s (.c (.loc 2 0)))] Tryz.func30 rfl rfl rfl rfl rfl rfl rfl rfl fun w g M ρ _=>(Ok.seq (Ok.region (OkOps.m 0 (triBox (j:=3) (cs:=[cI p_s.node.ID,cI p_s.node.Parent,cI p_s.node.Kind,cS p_s.node.Key,.d (.sl (List.map Attr.cs p_s.node.Attrs)),.d (.sl (List.map Action.cs p_s.node.Actions)),.d (.sl (List.map (eInt .i64) p_s.node.Kids)),cB_ p_s.disabled]) rfl rfl rfl rfl rfl) (OkOps.y (aB false) (OkOps.nil (Ok.seq (Ok.seq (Ok.region (OkOps.y (.c (.loc 3 7)) (OkOps.y (aB p_s.disabled) (OkOps.nil ?_)))))))))))
 refine Ok.cond (b:=p_s.disabled) rfl (fun h1=>?_) (fun h1=>?_)
 have hr:=selT h1 hr
 refine Ok.seq (Ok.region (OkOps.y (aB false) (OkOps.nil (Ok.conv (T:=⟨[(10,.s (aB false))],[(0,.blk [.tl 3000 (List.map Invocation.cs c0)] 55),(1,.dead),(2,.blk [cS c1] 9),(3000,.tail 6)],0⟩) (Conv.mk (tau [(3000,1)]) ⟨⟨_,rfl,.inl rfl⟩,trivial⟩ ⟨rfl,rfl,rfl,trivial⟩ rfl rfl rfl rfl) (Ok.ret ?_)))))
 obtain rfl:=Option.some.inj hr
 exact ⟨_,rfl,.inl rfl,⟨rfl,rfl,(fun h=>by cases h),rfl,trivial⟩⟩
 have hr:=selF h1 hr
 refine Ok.skip ?_
 obtain ⟨k3,hk3,hr⟩:=jn_some hr
 refine Ok.join (fun (s2 : (List Invocation))=>⟨[(3,.s (aS p_end)),(5,.s (.c (.loc 2 0))),(6,.s (.c (.loc 3 0)))],[(0,.blk [.tl 1000 (List.map Invocation.cs s2)] 55),(1,.dead),(2,.blk [cS c1] 9),(3,.blk [cI p_s.node.ID,cI p_s.node.Parent,cI p_s.node.Kind,cS p_s.node.Key,.d (.sl (List.map Attr.cs p_s.node.Attrs)),.d (.sl (List.map Action.cs p_s.node.Actions)),.d (.sl (List.map (eInt .i64) p_s.node.Kids)),cB_ p_s.disabled] 73),(1000,.tail 6)],0⟩) k3 r (fun s2 hr=>?_) ?_
 rw [hk3] at hr
 refine Ok.seq (Ok.region (OkOps.y (.c (.loc 3 0)) (OkOps.y (.agg [cI p_s.node.ID,cI p_s.node.Parent,cI p_s.node.Kind,cS p_s.node.Key,.d (.sl (List.map Attr.cs p_s.node.Attrs)),.d (.sl (List.map Action.cs p_s.node.Actions)),.d (.sl (List.map (eInt .i64) p_s.node.Kids))]) (OkOps.y (aS p_end) (OkOps.y (aS c1) ?_)))))
 obtain ⟨x4,hx4,hr⟩:=bind_some hr
 refine OkOps.q (triCl (tau []) (.s (aB x4)) [] (dp_lists_c _ _ _ hx4) rfl ⟨.inl rfl,.inl rfl,.inl rfl,trivial⟩ trivial entry32 trivial) (OkOps.y (aB x4) (OkOps.nil (Ok.conv (T:=⟨[(10,.s (aB x4))],[(0,.blk [.tl 3000 (List.map Invocation.cs s2)] 55),(1,.dead),(2,.blk [cS c1] 9),(3000,.tail 6)],0⟩) (Conv.mk (tau [(3000,1000)]) ⟨⟨_,rfl,.inl rfl⟩,trivial⟩ ⟨rfl,rfl,rfl,trivial⟩ rfl rfl rfl rfl) (Ok.ret ?_))))
 obtain rfl:=Option.some.inj hr
 exact ⟨_,rfl,.inl rfl,⟨rfl,rfl,(fun h=>by cases h),rfl,trivial⟩⟩
 clear hk3
 refine Ok.seq (Ok.region (OkOps.y (.agg [cI p_s.node.ID,cI p_s.node.Parent,cI p_s.node.Kind,cS p_s.node.Key,.d (.sl (List.map Attr.cs p_s.node.Attrs)),.d (.sl (List.map Action.cs p_s.node.Actions)),.d (.sl (List.map (eInt .i64) p_s.node.Kids)),cB_ p_s.disabled]) (OkOps.y (aI phase) (OkOps.y (aS name) ?_))))
 obtain ⟨x5,hx5,hr⟩:=bind_some hr
 refine OkOps.q (triCl (tau []) (.tup [.agg [cI x5.1.Node,cI x5.1.Phase,cS x5.1.Action.Event,cS x5.1.Action.Instance,cS x5.1.Action.Handler,.d (.sl (List.map AValue.cs x5.1.Action.Args))],aB x5.2]) [] (dp_step_invoke_c _ _ _ hx5) rfl ⟨.inl rfl,.inl rfl,.inl rfl,trivial⟩ trivial entry31 trivial) (OkOps.q (triMv (v:=.tup [.agg [cI x5.1.Node,cI x5.1.Phase,cS x5.1.Action.Event,cS x5.1.Action.Instance,cS x5.1.Action.Handler,.d (.sl (List.map AValue.cs x5.1.Action.Args))],aB x5.2]) rfl rfl) (OkOps.y (.agg [cI x5.1.Node,cI x5.1.Phase,cS x5.1.Action.Event,cS x5.1.Action.Instance,cS x5.1.Action.Handler,.d (.sl (List.map AValue.cs x5.1.Action.Args))]) (OkOps.y (aB x5.2) (OkOps.m 0 (triAlloc (j:=4) (cs:=[cI 0,cI 0,cS ByteArray.empty,cS ByteArray.empty,cS ByteArray.empty,.d (.v (.slice none 0 0))]) rfl rfl rfl rfl) (OkOps.w (triStore (cs':=[cI x5.1.Node,cI x5.1.Phase,cS x5.1.Action.Event,cS x5.1.Action.Instance,cS x5.1.Action.Handler,.d (.sl (List.map AValue.cs x5.1.Action.Args))]) rfl rfl rfl rfl rfl rfl rfl rfl rfl) (OkOps.y (aB x5.2) (OkOps.nil (Ok.seq (Ok.region (OkOps.y (aB x5.2) (OkOps.nil ?_)))))))))))
 refine Ok.cond (b:=x5.2) rfl (fun h6=>?_) (fun h6=>?_)
 have hr:=selT h6 hr
 refine Ok.region (OkOps.y (.c (.tl 1 (List.map Invocation.cs c0))) (OkOps.y (.agg [cI x5.1.Node,cI x5.1.Phase,cS x5.1.Action.Event,cS x5.1.Action.Instance,cS x5.1.Action.Handler,.d (.sl (List.map AValue.cs x5.1.Action.Args))]) (OkOps.m 0 (triBST (sz:=6) (enc:=Invocation.cs) (j:=5) ([x5.1]) rfl rfl rfl rfl rfl rfl rfl rfl (fun _=>rfl) trivial rfl rfl) ?_)))
 obtain ⟨x7,hx7,hr⟩:=bind_some hr
 refine OkOps.m2 0 (triApp (enc:=Invocation.cs) (L:=c0) (X:=[x5.1]) (j:=1) (j':=6) hx7 rfl rfl rfl rfl rfl rfl (fun _=>rfl) (fun _=>rfl) (by decide) trivial rfl rfl) (OkOps.w (triStore (cs':=[.tl 6 (List.map Invocation.cs x7)]) rfl rfl rfl rfl rfl rfl rfl rfl rfl) (OkOps.nil ?_))
 exact ⟨x7,hr,(Conv.mk (tau [(1000,6)]) ⟨⟨_,rfl,.inl rfl⟩,⟨_,rfl,.inl rfl⟩,⟨_,rfl,.inl rfl⟩,trivial⟩ ⟨rfl,rfl,rfl,rfl,trivial⟩ rfl rfl rfl rfl)⟩
 have hr:=selF h6 hr
 refine Ok.skip ?_
 exact ⟨c0,hr,(Conv.mk (tau [(1000,1)]) ⟨⟨_,rfl,.inl rfl⟩,⟨_,rfl,.inl rfl⟩,⟨_,rfl,.inl rfl⟩,trivial⟩ ⟨rfl,rfl,rfl,rfl,trivial⟩ rfl rfl rfl rfl)⟩
theorem entry30 : Entry Tryz.prog 30:=⟨_,Tryz.func30,by kernel_rfl,by kernel_rfl⟩
theorem dp_Route_c (t : Tree) (target : Int) (event : Str) {r : (List Invocation)} (hr : dp_Route t target event = some r) : Con Tryz.prog 19 [.agg [cI t.Root,cI t.Next,.d (.sl (List.map Node.cs t.Nodes))],aI target,aS event] [] (.s (.c (.d (.sl (List.map Invocation.cs r))))) []:=by
 unfold dp_Route at hr
 refine Con.of_ok 43 0 [.cell 6 55] [(0,.s (.agg [cI t.Root,cI t.Next,.d (.sl (List.map Node.cs t.Nodes))])),(1,.s (aI target)),(2,.s (aS event))] Tryz.func19 rfl rfl rfl rfl rfl rfl rfl rfl fun w g M ρ _=>(Ok.seq (Ok.region (OkOps.m 0 (triBox (j:=0) (cs:=[cI t.Root,cI t.Next,.d (.sl (List.map Node.cs t.Nodes))]) rfl rfl rfl rfl rfl) (OkOps.m 0 (triBox (j:=1) (cs:=[cS event]) rfl rfl rfl rfl rfl) (OkOps.m 0 (triAlloc (j:=2) (cs:=[.d (.v (.slice none 0 0))]) rfl rfl rfl rfl) (OkOps.nil (Ok.seq (Ok.seq (Ok.region (OkOps.y (aS event) ?_))))))))))
 obtain ⟨x1,hx1,hr⟩:=bind_some hr
 refine OkOps.q (triCl (tau []) (.s (aB x1)) [] (strings_HasPrefix_c _ _ hx1) rfl ⟨.inl rfl,.inl rfl,trivial⟩ trivial entry29 trivial) (OkOps.nil ?_)
 refine Ok.cond (b:=x1) rfl (fun h2=>?_) (fun h2=>?_)
 have hr:=selT h2 hr
 refine Ok.seq (Ok.region (OkOps.w (triStore (cs':=[.d (.v (.slice none 0 0))]) rfl rfl rfl rfl rfl rfl rfl rfl rfl) (OkOps.nil (Ok.ret ?_))))
 obtain rfl:=Option.some.inj hr
 exact ⟨_,rfl,.inr rfl,trivial⟩
 have hr:=selF h2 hr
 refine Ok.skip (Ok.seq (Ok.region (OkOps.m 0 (triAlloc (j:=3) (cs:=[.d (.v (.slice none 0 0))]) rfl rfl rfl rfl) (OkOps.nil (Ok.seq (Ok.region (OkOps.y (.agg [cI t.Root,cI t.Next,.d (.sl (List.map Node.cs t.Nodes))]) (OkOps.y (aI target) ?_))))))))
 obtain ⟨x3,hx3,hr⟩:=bind_some hr
 refine OkOps.q (triCl (tau []) (.s (.c (.d (.sl (List.map dispatch_step.cs x3))))) [] (dp_steps_c _ _ hx3) rfl ⟨.inl rfl,.inl rfl,trivial⟩ trivial entry25 trivial) (OkOps.y (.c (.d (.sl (List.map dispatch_step.cs x3)))) (OkOps.nil (Ok.seq (Ok.region (OkOps.q (triMkF [(3,0),(1,0)] rfl trivial rfl) (OkOps.m 0 (triAlloc (j:=4) (cs:=[.d (.v .nilFunc)]) rfl rfl rfl rfl) (OkOps.w (triStore (cs':=[.fn 30 [(3,0),(1,0)]]) rfl rfl rfl rfl rfl rfl rfl rfl rfl) (OkOps.nil ?_))))))))
 obtain ⟨k5,hk5,hr⟩:=jn_some hr
 refine Ok.join (fun (s4 : (List Invocation))=>⟨[(5,.s (.c (.loc 1 0))),(6,.s (.c (.loc 2 0))),(7,.s (.c (.loc 3 0))),(8,.s (.c (.d (.sl (List.map dispatch_step.cs x3))))),(9,.s (.c (.loc 4 0)))],[(1,.blk [cS event] 9),(2,.blk [.d (.v (.slice none 0 0))] 55),(3,.blk [.tl 1004 (List.map Invocation.cs s4)] 55),(4,.blk [.fn 30 [(3,0),(1,0)]] 81),(1004,.tail 6)],0⟩) k5 r (fun s4 hr=>?_) ?_
 rw [hk5] at hr
 obtain ⟨k7,hk7,hr⟩:=jn_some hr
 refine Ok.join (fun (s6 : (List Invocation))=>⟨[(6,.s (.c (.loc 2 0))),(7,.s (.c (.loc 3 0)))],[(2,.blk [.d (.v (.slice none 0 0))] 55),(3,.blk [.tl 1012 (List.map Invocation.cs s6)] 55),(1012,.tail 6)],0⟩) k7 r (fun s6 hr=>?_) ?_
 rw [hk7] at hr
 refine Ok.seq (Ok.region (OkOps.y (.c (.tl 1012 (List.map Invocation.cs s6))) (OkOps.w (triStore (cs':=[.tl 1012 (List.map Invocation.cs s6)]) rfl rfl rfl rfl rfl rfl rfl rfl rfl) (OkOps.nil (Ok.ret ?_)))))
 obtain rfl:=Option.some.inj hr
 exact ⟨_,rfl,.inr rfl,trivial⟩
 clear hk7
 refine Ok.seq (Ok.region (OkOps.y (.c (.d (.sl (List.map dispatch_step.cs x3)))) (OkOps.m 0 (triCall (tau [(0,5)]) (.s (.c (.fn 61 [(5,0)]))) [(5,.blk [.d (.sl (List.map dispatch_step.cs x3))] 70)] (slices_Backward_Sl_step_step_c x3) rfl ⟨.inl rfl,trivial⟩ trivial entry33 trivial rfl rfl rfl rfl ⟨rfl,trivial⟩ rfl rfl rfl) (OkOps.nil (Ok.block ?_)))))
 refine Ok.rangeB (jl:=6) (nx:=0) (nx1:=0) (caps:=[(5,0)]) rfl rfl trivial Tryz.func61 rfl rfl rfl rfl rfl rfl (fun l ρ1 M1 ob hT1 E=>?_)
 refine Ok.seq (Ok.region (OkOps.y (.c (.d (.sl (List.map dispatch_step.cs x3)))) (OkOps.q (triLen (enc:=dispatch_step.cs) x3 rfl rfl trivial rfl) (OkOps.y (aI (IntKind.i64.wrap ((x3.length : Int) - 1))) (OkOps.y (aI (IntKind.i64.wrap ((x3.length : Int) - 1))) (OkOps.nil ?_))))))
 obtain ⟨k9,hk9,hr⟩:=jn_some hr
 refine Ok.joinEnd (fun (s8 : (List Invocation))=>⟨[],[(1,.blk [cS event] 9),(2,.blk [.d (.v (.slice none 0 0))] 55),(3,.blk [.tl 1016 (List.map Invocation.cs s8)] 55),(4,.blk [.fn 30 [(3,0),(1,0)]] 81),(5,.blk [.d (.sl (List.map dispatch_step.cs x3))] 70),(6,.obj (ob .ready none)),(1004,.dead),(1016,.tail 6)],0⟩) k9 r (fun s8 hr=>?_) ?_
 rw [hk9] at hr
 refine ⟨.inr rfl,.inl ⟨rfl,?_⟩⟩
 exact ⟨s8,hr,(Conv.mk (tau [(1012,1016)]) ⟨⟨_,rfl,.inl rfl⟩,⟨_,rfl,.inl rfl⟩,trivial⟩ ⟨rfl,rfl,rfl,trivial⟩ rfl rfl rfl rfl)⟩
 clear hk9
 refine Ok.block (Ok.loopK (fun (s10 : Int × (List Invocation))=>⟨[(0,.s (.c (.d (.v (yl l))))),(1,.s (.c (.loc 5 0))),(3,.s (aI s10.1))],[(1,.blk [cS event] 9),(2,.blk [.d (.v (.slice none 0 0))] 55),(3,.blk [.tl 1018 (List.map Invocation.cs s10.2)] 55),(4,.blk [.fn 30 [(3,0),(1,0)]] 81),(5,.blk [.d (.sl (List.map dispatch_step.cs x3))] 70),(6,.obj (ob .ready none)),(1004,.dead),(1018,.tail 6)],0⟩) hr (Conv.mk (tau [(1018,1004)]) ⟨⟨_,rfl,.inl rfl⟩,⟨_,rfl,.inl rfl⟩,⟨_,rfl,.inl rfl⟩,trivial⟩ ⟨rfl,rfl,rfl,rfl,rfl,rfl,rfl,trivial⟩ rfl rfl rfl rfl) ?_)
 clear hr
 intro again11 s10 hr
 unfold dp_Route_L1 at hr
 refine Ok.seq (Ok.seq (Ok.region (OkOps.y (aI s10.1) (OkOps.y (aB (decide (s10.1 ≥ 0))) (OkOps.nil ?_)))))
 refine Ok.cond (b:=decide (s10.1 ≥ 0)) rfl (fun h12=>?_) (fun h12=>?_)
 have hr:=selT h12 hr
 refine Ok.skip (Ok.seq (Ok.block (Ok.seq (Ok.region (OkOps.y (.c (.d (.v (yl l)))) (OkOps.y (aI s10.1) (OkOps.y (.c (.d (.sl (List.map dispatch_step.cs x3)))) (OkOps.y (aI s10.1) ?_))))))))
 obtain ⟨x13,hx13,hr⟩:=bind_some hr
 refine OkOps.q (triIdx (enc:=dispatch_step.cs) (L:=x3) (row:=[dI x13.node.ID,dI x13.node.Parent,dI x13.node.Kind,dS x13.node.Key,.sl (List.map Attr.cs x13.node.Attrs),.sl (List.map Action.cs x13.node.Actions),.sl (List.map (eInt .i64) x13.node.Kids),dB x13.disabled]) hx13 rfl rfl rfl rfl (fun _=>rfl) trivial rfl) (OkOps.y (.agg [cI x13.node.ID,cI x13.node.Parent,cI x13.node.Kind,cS x13.node.Key,.d (.sl (List.map Attr.cs x13.node.Attrs)),.d (.sl (List.map Action.cs x13.node.Actions)),.d (.sl (List.map (eInt .i64) x13.node.Kids)),cB_ x13.disabled]) ?_)
 refine OkOps.yield (jl:=6) (v1:=aI s10.1) (v2:=.agg [cI x13.node.ID,cI x13.node.Parent,cI x13.node.Kind,cS x13.node.Key,.d (.sl (List.map Attr.cs x13.node.Attrs)),.d (.sl (List.map Action.cs x13.node.Actions)),.d (.sl (List.map (eInt .i64) x13.node.Kids)),cB_ x13.disabled]) (nx:=0) E (by decide) rfl rfl rfl rfl trivial rfl rfl dom_cons dom_self (fun ρc Mc hT2=>?_)
 refine Ok.region (OkOps.m 0 (triAlloc (j:=7) (cs:=[cI 0,cI 0,cI 0,cS ByteArray.empty,.d (.v (.slice none 0 0)),.d (.v (.slice none 0 0)),.d (.v (.slice none 0 0)),cB_ false]) rfl rfl rfl rfl) (OkOps.w (triStore (cs':=[cI x13.node.ID,cI x13.node.Parent,cI x13.node.Kind,cS x13.node.Key,.d (.sl (List.map Attr.cs x13.node.Attrs)),.d (.sl (List.map Action.cs x13.node.Actions)),.d (.sl (List.map (eInt .i64) x13.node.Kids)),cB_ x13.disabled]) rfl rfl rfl rfl rfl rfl rfl rfl rfl) (OkOps.nil ?_)))
 refine ⟨rfl,rfl,?_⟩
 refine Ok.block (Ok.seq (Ok.region (OkOps.y (.c (.fn 30 [(3,0),(1,0)])) (OkOps.y (.agg [cI x13.node.ID,cI x13.node.Parent,cI x13.node.Kind,cS x13.node.Key,.d (.sl (List.map Attr.cs x13.node.Attrs)),.d (.sl (List.map Action.cs x13.node.Actions)),.d (.sl (List.map (eInt .i64) x13.node.Kids)),cB_ x13.disabled]) (OkOps.y (aS event) ?_)))))
 obtain ⟨x14,hx14,hr⟩:=bind_some hr
 refine OkOps.wq [(3,.blk [.tl 8 (List.map Invocation.cs x14.2)] 55),(1,.blk [cS event] 9),(1018,.dead),(8,.tail 6)] (triCallF (caps:=[(3,0),(1,0)]) (tau [(0,3),(1,1018),(2,1),(3000,8)]) (.s (aB x14.1)) [(3,.blk [.tl 8 (List.map Invocation.cs x14.2)] 55),(1,.blk [cS event] 9),(1018,.dead),(8,.tail 6)] rfl (dp_Route_1_c _ _ _ _ _ _ hx14) rfl ⟨.inl rfl,.inl rfl,.inl rfl,.inl rfl,.inl rfl,.inl rfl,trivial⟩ trivial entry30 ⟨rfl,rfl,rfl,trivial⟩ rfl rfl rfl rfl ⟨rfl,trivial⟩ rfl rfl rfl) (OkOps.nil ?_)
 refine Ok.cond (b:=x14.1) rfl (fun h15=>?_) (fun h15=>?_)
 have hr:=selT h15 hr
 refine Ok.seq (Ok.region (OkOps.y (.c (.tl 8 (List.map Invocation.cs x14.2))) (OkOps.w (triStore (cs':=[.tl 8 (List.map Invocation.cs x14.2)]) rfl rfl rfl rfl rfl rfl rfl rfl rfl) (OkOps.nil (Ok.ret ?_)))))
 refine ⟨rfl,?_⟩
 refine OkOps.y (aB (!false)) (OkOps.nil ?_)
 refine Ok.cond (b:=!false) rfl (fun _=>?_) (fun h=>by cases h)
 refine Ok.ret ?_
 refine ⟨.inl rfl,.inr ⟨.ret,_,rfl,rfl,?_⟩⟩
 obtain rfl:=Option.some.inj hr
 exact ⟨_,rfl,.inr rfl,trivial⟩
 have hr:=selF h15 hr
 refine Ok.skip ?_
 refine ⟨rfl,?_⟩
 refine OkOps.y (aB (!true)) (OkOps.nil ?_)
 refine Ok.cond (b:=!true) rfl (fun h=>by cases h) (fun _=>?_)
 refine Ok.skip (Ok.region (OkOps.y (aI s10.1) (OkOps.y (aI (IntKind.i64.wrap (s10.1 - 1))) (OkOps.y (aI (IntKind.i64.wrap (s10.1 - 1))) (OkOps.nil ?_)))))
 exact ⟨(IntKind.i64.wrap (s10.1 - 1),x14.2),hr,(Conv.mk (tau [(1018,8)]) ⟨⟨_,rfl,.inl rfl⟩,⟨_,rfl,.inl rfl⟩,⟨_,rfl,.inl rfl⟩,trivial⟩ ⟨rfl,rfl,rfl,rfl,rfl,rfl,rfl,trivial⟩ rfl rfl rfl rfl)⟩
 have hr:=selF h12 hr
 refine Ok.exit ?_
 exact ⟨s10.2,hr,(Conv.mk (tau [(1016,1018)]) trivial ⟨rfl,rfl,rfl,rfl,rfl,rfl,rfl,trivial⟩ rfl rfl rfl rfl)⟩
 clear hk5
 refine Ok.seq (Ok.region (OkOps.y (.c (.d (.sl (List.map dispatch_step.cs x3)))) (OkOps.q (triLen (enc:=dispatch_step.cs) x3 rfl rfl trivial rfl) (OkOps.y (aI 0) (OkOps.nil (Ok.block (Ok.loopK (fun (s18 : Int × (List Invocation))=>⟨[(5,.s (.c (.loc 1 0))),(6,.s (.c (.loc 2 0))),(7,.s (.c (.loc 3 0))),(8,.s (.c (.d (.sl (List.map dispatch_step.cs x3))))),(9,.s (.c (.loc 4 0))),(20,.s (.c (.d (.sl (List.map dispatch_step.cs x3))))),(21,.s (aI (x3.length : Int))),(22,.s (aI s18.1))],[(1,.blk [cS event] 9),(2,.blk [.d (.v (.slice none 0 0))] 55),(3,.blk [.tl 1022 (List.map Invocation.cs s18.2)] 55),(4,.blk [.fn 30 [(3,0),(1,0)]] 81),(1022,.tail 6)],0⟩) hr (Conv.trans (Conv.nilO 3 0 1024 6 [.d (.v (.slice none 0 0))] [.tl 1024 (List.map Invocation.cs ([] : (List Invocation)))] 55 0 rfl rfl rfl rfl) (Conv.mk (tau [(1022,1024)]) ⟨⟨_,rfl,.inl rfl⟩,⟨_,rfl,.inl rfl⟩,⟨_,rfl,.inl rfl⟩,⟨_,rfl,.inl rfl⟩,⟨_,rfl,.inl rfl⟩,⟨_,rfl,.inl rfl⟩,⟨_,rfl,.inl rfl⟩,⟨_,rfl,.inl rfl⟩,trivial⟩ ⟨rfl,rfl,rfl,rfl,rfl,trivial⟩ rfl rfl rfl rfl)) ?_)))))))
 clear hr
 intro again19 s18 hr
 unfold dp_Route_L2 at hr
 refine Ok.seq (Ok.region (OkOps.y (aB (decide (s18.1 < (x3.length : Int)))) (OkOps.nil (Ok.seq ?_))))
 refine Ok.cond (b:=decide (s18.1 < (x3.length : Int))) rfl (fun h20=>?_) (fun h20=>?_)
 have hr:=selT h20 hr
 refine Ok.skip (Ok.seq (Ok.block (Ok.seq (Ok.region ?_))))
 obtain ⟨x21,hx21,hr⟩:=bind_some hr
 refine OkOps.q (triIdx (enc:=dispatch_step.cs) (L:=x3) (row:=[dI x21.node.ID,dI x21.node.Parent,dI x21.node.Kind,dS x21.node.Key,.sl (List.map Attr.cs x21.node.Attrs),.sl (List.map Action.cs x21.node.Actions),.sl (List.map (eInt .i64) x21.node.Kids),dB x21.disabled]) hx21 rfl rfl rfl rfl (fun _=>rfl) trivial rfl) (OkOps.y (.agg [cI x21.node.ID,cI x21.node.Parent,cI x21.node.Kind,cS x21.node.Key,.d (.sl (List.map Attr.cs x21.node.Attrs)),.d (.sl (List.map Action.cs x21.node.Actions)),.d (.sl (List.map (eInt .i64) x21.node.Kids)),cB_ x21.disabled]) (OkOps.m 0 (triAlloc (j:=9) (cs:=[cI 0,cI 0,cI 0,cS ByteArray.empty,.d (.v (.slice none 0 0)),.d (.v (.slice none 0 0)),.d (.v (.slice none 0 0)),cB_ false]) rfl rfl rfl rfl) (OkOps.w (triStore (cs':=[cI x21.node.ID,cI x21.node.Parent,cI x21.node.Kind,cS x21.node.Key,.d (.sl (List.map Attr.cs x21.node.Attrs)),.d (.sl (List.map Action.cs x21.node.Actions)),.d (.sl (List.map (eInt .i64) x21.node.Kids)),cB_ x21.disabled]) rfl rfl rfl rfl rfl rfl rfl rfl rfl) (OkOps.nil (Ok.seq (Ok.region (OkOps.y (.c (.fn 30 [(3,0),(1,0)])) (OkOps.y (.agg [cI x21.node.ID,cI x21.node.Parent,cI x21.node.Kind,cS x21.node.Key,.d (.sl (List.map Attr.cs x21.node.Attrs)),.d (.sl (List.map Action.cs x21.node.Actions)),.d (.sl (List.map (eInt .i64) x21.node.Kids)),cB_ x21.disabled]) (OkOps.y (aS event) ?_)))))))))
 obtain ⟨x22,hx22,hr⟩:=bind_some hr
 refine OkOps.q (triCat hx22 rfl rfl trivial rfl) ?_
 obtain ⟨x23,hx23,hr⟩:=bind_some hr
 refine OkOps.wq [(3,.blk [.tl 10 (List.map Invocation.cs x23.2)] 55),(1,.blk [cS event] 9),(1022,.dead),(10,.tail 6)] (triCallF (caps:=[(3,0),(1,0)]) (tau [(0,3),(1,1022),(2,1),(3000,10)]) (.s (aB x23.1)) [(3,.blk [.tl 10 (List.map Invocation.cs x23.2)] 55),(1,.blk [cS event] 9),(1022,.dead),(10,.tail 6)] rfl (dp_Route_1_c _ _ _ _ _ _ hx23) rfl ⟨.inl rfl,.inl rfl,.inl rfl,.inl rfl,.inl rfl,.inl rfl,trivial⟩ trivial entry30 ⟨rfl,rfl,rfl,trivial⟩ rfl rfl rfl rfl ⟨rfl,trivial⟩ rfl rfl rfl) (OkOps.nil ?_)
 refine Ok.cond (b:=x23.1) rfl (fun h24=>?_) (fun h24=>?_)
 have hr:=selT h24 hr
 refine Ok.seq (Ok.region (OkOps.y (.c (.tl 10 (List.map Invocation.cs x23.2))) (OkOps.w (triStore (cs':=[.tl 10 (List.map Invocation.cs x23.2)]) rfl rfl rfl rfl rfl rfl rfl rfl rfl) (OkOps.nil (Ok.ret ?_)))))
 obtain rfl:=Option.some.inj hr
 exact ⟨_,rfl,.inr rfl,trivial⟩
 have hr:=selF h24 hr
 refine Ok.skip (Ok.region (OkOps.y (aI (IntKind.i64.wrap (s18.1 + 1))) (OkOps.y (aI (IntKind.i64.wrap (s18.1 + 1))) (OkOps.nil ?_))))
 exact ⟨(IntKind.i64.wrap (s18.1 + 1),x23.2),hr,(Conv.mk (tau [(1022,10)]) ⟨⟨_,rfl,.inl rfl⟩,⟨_,rfl,.inl rfl⟩,⟨_,rfl,.inl rfl⟩,⟨_,rfl,.inl rfl⟩,⟨_,rfl,.inl rfl⟩,⟨_,rfl,.inl rfl⟩,⟨_,rfl,.inl rfl⟩,⟨_,rfl,.inl rfl⟩,trivial⟩ ⟨rfl,rfl,rfl,rfl,rfl,trivial⟩ rfl rfl rfl rfl)⟩
 have hr:=selF h20 hr
 refine Ok.exit ?_
 exact ⟨s18.2,hr,(Conv.mk (tau [(1004,1022)]) ⟨⟨_,rfl,.inl rfl⟩,⟨_,rfl,.inl rfl⟩,⟨_,rfl,.inl rfl⟩,⟨_,rfl,.inl rfl⟩,⟨_,rfl,.inl rfl⟩,trivial⟩ ⟨rfl,rfl,rfl,rfl,rfl,trivial⟩ rfl rfl rfl rfl)⟩
theorem entry19 : Entry Tryz.prog 19:=⟨_,Tryz.func19,by kernel_rfl,by kernel_rfl⟩
end Go.Proofs.YtcenpkkficeaaaaGreatDoor
end
section
set_option maxRecDepth 100000
namespace Go.Proofs.YtcenpkkficeaaaaGreatDoor
open Go Go.E2
theorem entry83 : Entry Tryz.prog 83:=⟨_,Tryz.func83,by kernel_rfl,by kernel_rfl⟩
theorem r11_join_B_c (self0 : AType → AType → Option (AType × Bool)) (hself0 : ∀ (a : AType) (b : AType) {r : AType × Bool},self0 a b = some r → Con Tryz.prog 83 [.agg [cI a.Kind,.d (.sl (List.map AType.cs a.Of))],.agg [cI b.Kind,.d (.sl (List.map AType.cs b.Of))]] [] (.tup [.agg [cI r.1.Kind,.d (.sl (List.map AType.cs r.1.Of))],aB r.2]) []) (a : AType) (b : AType) {r : AType × Bool} (hr : r11_join_B self0 a b = some r) : Con Tryz.prog 83 [.agg [cI a.Kind,.d (.sl (List.map AType.cs a.Of))],.agg [cI b.Kind,.d (.sl (List.map AType.cs b.Of))]] [] (.tup [.agg [cI r.1.Kind,.d (.sl (List.map AType.cs r.1.Of))],aB r.2]) []:=by
 unfold r11_join_B at hr
 refine Con.of_ok 44 0 [.cell 4 111,.tmp 5] [(0,.s (.agg [cI a.Kind,.d (.sl (List.map AType.cs a.Of))])),(1,.s (.agg [cI b.Kind,.d (.sl (List.map AType.cs b.Of))]))] Tryz.func83 rfl rfl rfl rfl rfl rfl rfl rfl fun w g M ρ _=>(Ok.seq (Ok.region (OkOps.m 0 (triBox (j:=0) (cs:=[cI a.Kind,.d (.sl (List.map AType.cs a.Of))]) rfl rfl rfl rfl rfl) (OkOps.m 0 (triBox (j:=1) (cs:=[cI b.Kind,.d (.sl (List.map AType.cs b.Of))]) rfl rfl rfl rfl rfl) (OkOps.m 0 (triAlloc (j:=2) (cs:=[cI 0,.d (.v (.slice none 0 0))]) rfl rfl rfl rfl) (OkOps.y (aB false) (OkOps.nil (Ok.seq (Ok.seq (Ok.region (OkOps.y (.c (.loc 0 0)) (OkOps.y (aI a.Kind) (OkOps.y (.c (.loc 1 0)) (OkOps.y (aI b.Kind) (OkOps.y (aB (a.Kind != b.Kind)) ?_)))))))))))))))
 refine OkOps.nil ?_
 refine Ok.cond (b:=a.Kind != b.Kind) rfl (fun h1=>?_) (fun h1=>?_)
 have hr:=selT h1 hr
 refine Ok.seq (Ok.region (OkOps.y (.agg [cI 0,.d (.v (.slice none 0 0))]) (OkOps.w (triStore (cs':=[cI 0,.d (.v (.slice none 0 0))]) rfl rfl rfl rfl rfl rfl rfl rfl rfl) (OkOps.y (aB false) (OkOps.nil (Ok.ret ?_))))))
 obtain rfl:=Option.some.inj hr
 exact ⟨_,rfl,.inr rfl,trivial⟩
 have hr:=selF h1 hr
 refine Ok.skip (Ok.seq (Ok.seq (Ok.region (OkOps.y (.c (.loc 0 1)) (OkOps.y (.c (.d (.sl (List.map AType.cs a.Of)))) (OkOps.q (triLen (enc:=AType.cs) a.Of rfl rfl trivial rfl) (OkOps.y (aB ((a.Of.length : Int) == 0)) (OkOps.nil ?_))))))))
 refine Ok.cond (b:=(a.Of.length : Int) == 0) rfl (fun h2=>?_) (fun h2=>?_)
 have hr:=selT h2 hr
 refine Ok.seq (Ok.region (OkOps.y (.agg [cI b.Kind,.d (.sl (List.map AType.cs b.Of))]) (OkOps.w (triStore (cs':=[cI b.Kind,.d (.sl (List.map AType.cs b.Of))]) rfl rfl rfl rfl rfl rfl rfl rfl rfl) (OkOps.y (aB true) (OkOps.nil (Ok.ret ?_))))))
 obtain rfl:=Option.some.inj hr
 exact ⟨_,rfl,.inl rfl,trivial⟩
 have hr:=selF h2 hr
 refine Ok.skip (Ok.seq (Ok.seq (Ok.region (OkOps.y (.c (.loc 1 1)) (OkOps.y (.c (.d (.sl (List.map AType.cs b.Of)))) (OkOps.q (triLen (enc:=AType.cs) b.Of rfl rfl trivial rfl) (OkOps.y (aB ((b.Of.length : Int) == 0)) (OkOps.nil ?_))))))))
 refine Ok.cond (b:=(b.Of.length : Int) == 0) rfl (fun h3=>?_) (fun h3=>?_)
 have hr:=selT h3 hr
 refine Ok.seq (Ok.region (OkOps.y (.agg [cI a.Kind,.d (.sl (List.map AType.cs a.Of))]) (OkOps.w (triStore (cs':=[cI a.Kind,.d (.sl (List.map AType.cs a.Of))]) rfl rfl rfl rfl rfl rfl rfl rfl rfl) (OkOps.y (aB true) (OkOps.nil (Ok.ret ?_))))))
 obtain rfl:=Option.some.inj hr
 exact ⟨_,rfl,.inl rfl,trivial⟩
 have hr:=selF h3 hr
 refine Ok.skip (Ok.seq (Ok.regionD (by kernel_rfl) (OkD.x (.c (.loc 0 1)) rfl trivial rfl (OkD.x (.c (.d (.sl (List.map AType.cs a.Of)))) rfl trivial rfl ?_))))
 obtain ⟨x4,hx4,hr⟩:=bind_some hr
 refine OkD.q (triIdx (enc:=AType.cs) (L:=a.Of) (row:=[dI x4.Kind,.sl (List.map AType.cs x4.Of)]) hx4 (AType.cs_eq _) rfl rfl rfl (fun x=>by rw [AType.cs_eq];rfl) trivial rfl) ?_
 refine OkD.x (.agg [cI x4.Kind,.d (.sl (List.map AType.cs x4.Of))]) rfl trivial rfl (OkD.x (.c (.loc 1 1)) rfl trivial rfl (OkD.x (.c (.d (.sl (List.map AType.cs b.Of)))) rfl trivial rfl ?_))
 obtain ⟨x5,hx5,hr⟩:=bind_some hr
 refine OkD.q (triIdx (enc:=AType.cs) (L:=b.Of) (row:=[dI x5.Kind,.sl (List.map AType.cs x5.Of)]) hx5 (AType.cs_eq _) rfl rfl rfl (fun x=>by rw [AType.cs_eq];rfl) trivial rfl) ?_
 refine OkD.x (.agg [cI x5.Kind,.d (.sl (List.map AType.cs x5.Of))]) rfl trivial rfl ?_
 obtain ⟨x6,hx6,hr⟩:=bind_some hr
 refine OkD.q (triCl (tau []) (.tup [.agg [cI x6.1.Kind,.d (.sl (List.map AType.cs x6.1.Of))],aB x6.2]) [] (hself0 _ _ hx6) rfl ⟨.inl rfl,.inl rfl,trivial⟩ trivial entry83 trivial) (OkD.q (triMv (v:=.tup [.agg [cI x6.1.Kind,.d (.sl (List.map AType.cs x6.1.Of))],aB x6.2]) rfl rfl) (OkD.x (.agg [cI x6.1.Kind,.d (.sl (List.map AType.cs x6.1.Of))]) rfl trivial rfl (OkD.x (aB x6.2) rfl trivial rfl (OkD.m 0 (triAlloc (j:=3) (cs:=[cI 0,.d (.v (.slice none 0 0))]) rfl rfl rfl rfl) (OkD.w (triStore (cs':=[cI x6.1.Kind,.d (.sl (List.map AType.cs x6.1.Of))]) rfl rfl rfl rfl rfl rfl rfl rfl rfl) (OkD.x (aB x6.2) rfl trivial rfl (OkD.nil (by kernel_rfl) (Ok.seq (Ok.seq (Ok.region (OkOps.y (aB x6.2) (OkOps.y (aB (!x6.2)) (OkOps.nil ?_)))))))))))))
 refine Ok.cond (b:=!x6.2) rfl (fun h7=>?_) (fun h7=>?_)
 have hr:=selT h7 hr
 refine Ok.seq (Ok.region (OkOps.y (.agg [cI 0,.d (.v (.slice none 0 0))]) (OkOps.w (triStore (cs':=[cI 0,.d (.v (.slice none 0 0))]) rfl rfl rfl rfl rfl rfl rfl rfl rfl) (OkOps.y (aB false) (OkOps.nil (Ok.ret ?_))))))
 obtain rfl:=Option.some.inj hr
 exact ⟨_,rfl,.inr rfl,trivial⟩
 have hr:=selF h7 hr
 refine Ok.skip (Ok.seq (Ok.region (OkOps.y (.c (.loc 0 0)) (OkOps.y (aI a.Kind) (OkOps.y (.agg [cI x6.1.Kind,.d (.sl (List.map AType.cs x6.1.Of))]) ?_)))))
 refine OkOps.m 0 (triBST (sz:=2) (enc:=AType.cs) (j:=4) ([x6.1]) rfl rfl rfl rfl rfl (rows:=[[dI x6.1.Kind,.sl (List.map AType.cs x6.1.Of)]]) (by simp only [List.map,AType.cs_eq]) rfl rfl (fun x=>by rw [AType.cs_eq];rfl) trivial rfl rfl) ?_
 refine OkOps.y (.agg [cI a.Kind,.tl 4 (List.map AType.cs ([x6.1]))]) (OkOps.w (triStore (cs':=[cI a.Kind,.tl 4 (List.map AType.cs ([x6.1]))]) rfl rfl rfl rfl rfl rfl rfl rfl rfl) (OkOps.y (aB true) (OkOps.nil (Ok.ret ?_))))
 obtain rfl:=Option.some.inj hr
 exact ⟨_,rfl,.inr rfl,trivial⟩
theorem r11_join_all : ∀ n : Nat,(∀ (a : AType) (b : AType) {r : AType × Bool},r11_join n a b = some r → Con Tryz.prog 83 [.agg [cI a.Kind,.d (.sl (List.map AType.cs a.Of))],.agg [cI b.Kind,.d (.sl (List.map AType.cs b.Of))]] [] (.tup [.agg [cI r.1.Kind,.d (.sl (List.map AType.cs r.1.Of))],aB r.2]) []) ∧ True:=by
 intro n
 induction n with
 | zero=>exact ⟨(by intros;rename_i hr;cases hr),trivial⟩
 | succ n ih=>exact ⟨(by intros;rename_i hr;exact r11_join_B_c _ ih.1 _ _ hr),trivial⟩
theorem r11_join_c (n : Nat) (a : AType) (b : AType) {r : AType × Bool} (hr : r11_join n a b = some r) : Con Tryz.prog 83 [.agg [cI a.Kind,.d (.sl (List.map AType.cs a.Of))],.agg [cI b.Kind,.d (.sl (List.map AType.cs b.Of))]] [] (.tup [.agg [cI r.1.Kind,.d (.sl (List.map AType.cs r.1.Of))],aB r.2]) []:=(r11_join_all n).1 a b hr
theorem entry77 : Entry Tryz.prog 77:=⟨_,Tryz.func77,by kernel_rfl,by kernel_rfl⟩
theorem r11_check_B_c (self0 : AValue → Int → Int → Option (AType × Int × Int)) (hself0 : ∀ (v : AValue) (depth : Int) (met : Int) {r : AType × Int × Int},self0 v depth met = some r → Con Tryz.prog 77 [.agg [cI v.Kind,cI v.N,cS v.S,.d (.sl (List.map AValue.cs v.L))],aI depth,aI met] [] (.tup [.agg [cI r.1.Kind,.d (.sl (List.map AType.cs r.1.Of))],aI r.2.1,aI r.2.2]) []) (v : AValue) (depth : Int) (met : Int) {r : AType × Int × Int} (hr : r11_check_B self0 v depth met = some r) : Con Tryz.prog 77 [.agg [cI v.Kind,cI v.N,cS v.S,.d (.sl (List.map AValue.cs v.L))],aI depth,aI met] [] (.tup [.agg [cI r.1.Kind,.d (.sl (List.map AType.cs r.1.Of))],aI r.2.1,aI r.2.2]) []:=by
 unfold r11_check_B at hr
 refine Con.of_ok 184 0 [.cell 6 111,.tmp 7,.tmp 8] [(0,.s (.agg [cI v.Kind,cI v.N,cS v.S,.d (.sl (List.map AValue.cs v.L))])),(1,.s (aI depth)),(2,.s (aI met))] Tryz.func77 rfl rfl rfl rfl rfl rfl rfl rfl fun w g M ρ _=>(Ok.seq (Ok.region (OkOps.m 0 (triBox (j:=0) (cs:=[cI v.Kind,cI v.N,cS v.S,.d (.sl (List.map AValue.cs v.L))]) rfl rfl rfl rfl rfl) (OkOps.m 0 (triAlloc (j:=1) (cs:=[cI 0,.d (.v (.slice none 0 0))]) rfl rfl rfl rfl) (OkOps.y (aI 0) (OkOps.y (aI 0) (OkOps.nil (Ok.seq (Ok.region (OkOps.y (aI met) (OkOps.y (aI (IntKind.i64.wrap (met + 1))) (OkOps.y (aI (IntKind.i64.wrap (met + 1))) (OkOps.nil (Ok.seq (Ok.region ?_)))))))))))))))
 refine OkOps.y (.c (.loc 0 0)) (OkOps.y (aI v.Kind) (OkOps.y (aB (v.Kind == 4)) (OkOps.y (aB (v.Kind == 4)) (OkOps.nil (Ok.seq (Ok.seq (Ok.region (OkOps.y (aB (v.Kind == 4)) (OkOps.y (aB (v.Kind == 4)) (OkOps.q (triQG (x:=aI depth) rfl rfl trivial rfl) (OkOps.q (triQG (x:=aB (decide (depth > 16))) rfl rfl ⟨fun h=>h,trivial⟩ rfl) (OkOps.q (triAnd rfl rfl (fun h=>h) rfl) (OkOps.nil ?_)))))))))))))
 refine Ok.cond (b:=(v.Kind == 4) && (decide (depth > 16))) rfl (fun h1=>?_) (fun h1=>?_)
 have hr:=selT h1 hr
 refine Ok.seq (Ok.region (OkOps.y (.agg [cI 0,.d (.v (.slice none 0 0))]) (OkOps.y (aI (IntKind.i64.wrap (met + 1))) (OkOps.w (triStore (cs':=[cI 0,.d (.v (.slice none 0 0))]) rfl rfl rfl rfl rfl rfl rfl rfl rfl) (OkOps.y (aI (IntKind.i64.wrap (met + 1))) (OkOps.y (aI 8) (OkOps.nil (Ok.ret ?_))))))))
 obtain rfl:=Option.some.inj hr
 exact ⟨_,rfl,.inr rfl,trivial⟩
 have hr:=selF h1 hr
 refine Ok.skip (Ok.seq (Ok.seq (Ok.region (OkOps.y (.c (.loc 0 0)) (OkOps.y (aI v.Kind) (OkOps.y (aB (decide (v.Kind < 1))) (OkOps.y (aB (decide (v.Kind < 1))) (OkOps.q (triQG (x:=.c (.loc 0 0)) rfl rfl trivial rfl) (OkOps.q (triQG (x:=aI v.Kind) rfl rfl ⟨fun h=>h,trivial⟩ rfl) (OkOps.q (triQG (x:=aB (decide (v.Kind > 4))) rfl rfl ⟨fun h=>h,trivial⟩ rfl) ?_))))))))))
 refine OkOps.q (triOr rfl rfl (fun h=>by rw [h];rfl) rfl) ?_
 refine OkOps.y (aB ((decide (v.Kind < 1)) || (decide (v.Kind > 4)))) (OkOps.q (triQG (x:=.c (.loc 0 1)) rfl rfl trivial rfl) (OkOps.q (triQG (x:=aI v.N) rfl rfl ⟨fun h=>h,trivial⟩ rfl) (OkOps.q (triQG (x:=aB (v.N != 0)) rfl rfl ⟨fun h=>h,trivial⟩ rfl) (OkOps.q (triQG (x:=aB (v.N != 0)) rfl rfl ⟨fun h=>h,trivial⟩ rfl) (OkOps.q (triQG (x:=.c (.loc 0 0)) rfl rfl trivial rfl) (OkOps.q (triQG (x:=aI v.Kind) rfl rfl ⟨fun h=>h,trivial⟩ rfl) (OkOps.q (triQG (x:=aB (v.Kind != 1)) rfl rfl ⟨fun h=>h,trivial⟩ rfl) ?_)))))))
 refine OkOps.q (triAndG rfl rfl rfl (fun h=>h) (fun h h2=>by rw [h,h2];rfl) rfl) ?_
 refine OkOps.q (triQG (x:=aB ((v.N != 0) && (v.Kind != 1))) rfl rfl ⟨fun h=>h,trivial⟩ rfl) (OkOps.q (triQG (x:=.c (.loc 0 0)) rfl rfl trivial rfl) (OkOps.q (triQG (x:=aI v.Kind) rfl rfl ⟨fun h=>h,trivial⟩ rfl) (OkOps.q (triQG (x:=aB (v.Kind != 2)) rfl rfl ⟨fun h=>h,trivial⟩ rfl) ?_)))
 refine OkOps.q (triAndG rfl rfl rfl (fun h=>h) (fun h h2=>by rw [h,h2];rfl) rfl) ?_
 refine OkOps.q (triOr rfl rfl (fun h=>by rw [h];rfl) rfl) ?_
 refine OkOps.y (aB (((decide (v.Kind < 1)) || (decide (v.Kind > 4))) || (((v.N != 0) && (v.Kind != 1)) && (v.Kind != 2)))) (OkOps.q (triQG (x:=.c (.loc 0 2)) rfl rfl trivial rfl) (OkOps.q (triQG (x:=aS v.S) rfl rfl ⟨fun h=>h,trivial⟩ rfl) (OkOps.q (triQG (x:=aB (!(v.S.toList == (ByteArray.mk #[]).toList))) rfl rfl ⟨fun h=>h,trivial⟩ rfl) (OkOps.q (triQG (x:=aB (!(v.S.toList == (ByteArray.mk #[]).toList))) rfl rfl ⟨fun h=>h,trivial⟩ rfl) (OkOps.q (triQG (x:=.c (.loc 0 0)) rfl rfl trivial rfl) (OkOps.q (triQG (x:=aI v.Kind) rfl rfl ⟨fun h=>h,trivial⟩ rfl) (OkOps.q (triQG (x:=aB (v.Kind != 3)) rfl rfl ⟨fun h=>h,trivial⟩ rfl) ?_)))))))
 refine OkOps.q (triAndG rfl rfl rfl (fun h=>h) (fun h h2=>by rw [h,h2];rfl) rfl) ?_
 refine OkOps.q (triOr rfl rfl (fun h=>by rw [h];rfl) rfl) ?_
 refine OkOps.y (aB ((((decide (v.Kind < 1)) || (decide (v.Kind > 4))) || (((v.N != 0) && (v.Kind != 1)) && (v.Kind != 2))) || ((!(v.S.toList == (ByteArray.mk #[]).toList)) && (v.Kind != 3)))) (OkOps.q (triQG (x:=.c (.loc 0 3)) rfl rfl trivial rfl) (OkOps.q (triQG (x:=.c (.d (.sl (List.map AValue.cs v.L)))) rfl rfl ⟨fun h=>h,trivial⟩ rfl) (OkOps.q (triLenG (enc:=AValue.cs) v.L rfl rfl rfl ⟨fun h=>h,trivial⟩ rfl) (OkOps.q (triQG (x:=aB (decide ((v.L.length : Int) > 0))) rfl rfl ⟨fun h=>h,trivial⟩ rfl) (OkOps.q (triQG (x:=aB (decide ((v.L.length : Int) > 0))) rfl rfl ⟨fun h=>h,trivial⟩ rfl) (OkOps.q (triQG (x:=aB (v.Kind == 4)) rfl rfl trivial rfl) (OkOps.q (triQG (x:=aB (!(v.Kind == 4))) rfl rfl ⟨fun h=>h,trivial⟩ rfl) ?_)))))))
 refine OkOps.q (triAndG rfl rfl rfl (fun h=>h) (fun h h2=>by rw [h,h2];rfl) rfl) ?_
 refine OkOps.q (triOr rfl rfl (fun h=>by rw [h];rfl) rfl) ?_
 refine OkOps.nil ?_
 refine Ok.cond (b:=((((decide (v.Kind < 1)) || (decide (v.Kind > 4))) || (((v.N != 0) && (v.Kind != 1)) && (v.Kind != 2))) || ((!(v.S.toList == (ByteArray.mk #[]).toList)) && (v.Kind != 3))) || ((decide ((v.L.length : Int) > 0)) && (!(v.Kind == 4)))) rfl (fun h2=>?_) (fun h2=>?_)
 have hr:=selT h2 hr
 refine Ok.seq (Ok.region (OkOps.y (.agg [cI 0,.d (.v (.slice none 0 0))]) (OkOps.y (aI (IntKind.i64.wrap (met + 1))) (OkOps.w (triStore (cs':=[cI 0,.d (.v (.slice none 0 0))]) rfl rfl rfl rfl rfl rfl rfl rfl rfl) (OkOps.y (aI (IntKind.i64.wrap (met + 1))) (OkOps.y (aI 9) (OkOps.nil (Ok.ret ?_))))))))
 obtain rfl:=Option.some.inj hr
 exact ⟨_,rfl,.inr rfl,trivial⟩
 have hr:=selF h2 hr
 refine Ok.skip (Ok.seq (Ok.seq (Ok.region (OkOps.y (.c (.loc 0 0)) (OkOps.y (aI v.Kind) (OkOps.y (aB (v.Kind == 1)) (OkOps.y (aB (v.Kind == 1)) (OkOps.q (triQG (x:=.c (.loc 0 1)) rfl rfl trivial rfl) (OkOps.q (triQG (x:=aI v.N) rfl rfl ⟨fun h=>h,trivial⟩ rfl) (OkOps.q (triQG (x:=aB (decide (v.N < (-1099511627776)))) rfl rfl ⟨fun h=>h,trivial⟩ rfl) (OkOps.q (triQG (x:=aB (decide (v.N < (-1099511627776)))) rfl rfl ⟨fun h=>h,trivial⟩ rfl) (OkOps.q (triQG (x:=.c (.loc 0 1)) rfl rfl trivial rfl) (OkOps.q (triQG (x:=aI v.N) rfl rfl ⟨fun h=>h,trivial⟩ rfl) (OkOps.q (triQG (x:=aB (decide (v.N > 1099511627776))) rfl rfl ⟨fun h=>h,trivial⟩ rfl) ?_))))))))))))))
 refine OkOps.q (triOrG rfl rfl rfl (fun h=>h) (fun h h2=>by rw [h,h2];rfl) rfl) ?_
 refine OkOps.q (triAnd rfl rfl (fun h=>h) rfl) (OkOps.y (aB ((v.Kind == 1) && ((decide (v.N < (-1099511627776))) || (decide (v.N > 1099511627776))))) (OkOps.q (triQG (x:=.c (.loc 0 0)) rfl rfl trivial rfl) (OkOps.q (triQG (x:=aI v.Kind) rfl rfl ⟨fun h=>h,trivial⟩ rfl) (OkOps.q (triQG (x:=aB (v.Kind == 2)) rfl rfl ⟨fun h=>h,trivial⟩ rfl) (OkOps.q (triQG (x:=aB (v.Kind == 2)) rfl rfl ⟨fun h=>h,trivial⟩ rfl) (OkOps.q (triQG (x:=.c (.loc 0 1)) rfl rfl trivial rfl) (OkOps.q (triQG (x:=aI v.N) rfl rfl ⟨fun h=>h,trivial⟩ rfl) (OkOps.q (triQG (x:=aB (v.N != 0)) rfl rfl ⟨fun h=>h,trivial⟩ rfl) ?_))))))))
 refine OkOps.q (triAndG rfl rfl rfl (fun h=>h) (fun h h2=>by rw [h,h2];rfl) rfl) ?_
 refine OkOps.q (triQG (x:=aB ((v.Kind == 2) && (v.N != 0))) rfl rfl ⟨fun h=>h,trivial⟩ rfl) (OkOps.q (triQG (x:=.c (.loc 0 1)) rfl rfl trivial rfl) (OkOps.q (triQG (x:=aI v.N) rfl rfl ⟨fun h=>h,trivial⟩ rfl) (OkOps.q (triQG (x:=aB (v.N != 1)) rfl rfl ⟨fun h=>h,trivial⟩ rfl) ?_)))
 refine OkOps.q (triAndG rfl rfl rfl (fun h=>h) (fun h h2=>by rw [h,h2];rfl) rfl) ?_
 refine OkOps.q (triOr rfl rfl (fun h=>by rw [h];rfl) rfl) ?_
 refine OkOps.nil ?_
 refine Ok.cond (b:=((v.Kind == 1) && ((decide (v.N < (-1099511627776))) || (decide (v.N > 1099511627776)))) || (((v.Kind == 2) && (v.N != 0)) && (v.N != 1))) rfl (fun h3=>?_) (fun h3=>?_)
 have hr:=selT h3 hr
 refine Ok.seq (Ok.region (OkOps.y (.agg [cI 0,.d (.v (.slice none 0 0))]) (OkOps.y (aI (IntKind.i64.wrap (met + 1))) (OkOps.w (triStore (cs':=[cI 0,.d (.v (.slice none 0 0))]) rfl rfl rfl rfl rfl rfl rfl rfl rfl) (OkOps.y (aI (IntKind.i64.wrap (met + 1))) (OkOps.y (aI 1) (OkOps.nil (Ok.ret ?_))))))))
 obtain rfl:=Option.some.inj hr
 exact ⟨_,rfl,.inr rfl,trivial⟩
 have hr:=selF h3 hr
 refine Ok.skip (Ok.seq (Ok.seq (Ok.region (OkOps.y (.c (.loc 0 2)) (OkOps.y (aS v.S) (OkOps.y (aI (v.S.size : Int)) (OkOps.y (aB (decide ((v.S.size : Int) > 2000))) (OkOps.y (aB (decide ((v.S.size : Int) > 2000))) (OkOps.q (triQG (x:=.c (.loc 0 3)) rfl rfl trivial rfl) (OkOps.q (triQG (x:=.c (.d (.sl (List.map AValue.cs v.L)))) rfl rfl ⟨fun h=>h,trivial⟩ rfl) (OkOps.q (triLenG (enc:=AValue.cs) v.L rfl rfl rfl ⟨fun h=>h,trivial⟩ rfl) (OkOps.q (triQG (x:=aB (decide ((v.L.length : Int) > 100))) rfl rfl ⟨fun h=>h,trivial⟩ rfl) ?_))))))))))))
 refine OkOps.q (triOr rfl rfl (fun h=>by rw [h];rfl) rfl) ?_
 refine OkOps.y (aB ((decide ((v.S.size : Int) > 2000)) || (decide ((v.L.length : Int) > 100)))) (OkOps.q (triQG (x:=aI (IntKind.i64.wrap (met + 1))) rfl rfl trivial rfl) (OkOps.q (triQG (x:=aB (decide ((IntKind.i64.wrap (met + 1)) > 1000))) rfl rfl ⟨fun h=>h,trivial⟩ rfl) ?_))
 refine OkOps.q (triOr rfl rfl (fun h=>by rw [h];rfl) rfl) ?_
 refine OkOps.nil ?_
 refine Ok.cond (b:=((decide ((v.S.size : Int) > 2000)) || (decide ((v.L.length : Int) > 100))) || (decide ((IntKind.i64.wrap (met + 1)) > 1000))) rfl (fun h4=>?_) (fun h4=>?_)
 have hr:=selT h4 hr
 refine Ok.seq (Ok.region (OkOps.y (.agg [cI 0,.d (.v (.slice none 0 0))]) (OkOps.y (aI (IntKind.i64.wrap (met + 1))) (OkOps.w (triStore (cs':=[cI 0,.d (.v (.slice none 0 0))]) rfl rfl rfl rfl rfl rfl rfl rfl rfl) (OkOps.y (aI (IntKind.i64.wrap (met + 1))) (OkOps.y (aI 2) (OkOps.nil (Ok.ret ?_))))))))
 obtain rfl:=Option.some.inj hr
 exact ⟨_,rfl,.inr rfl,trivial⟩
 have hr:=selF h4 hr
 refine Ok.skip (Ok.seq (Ok.seq (Ok.region (OkOps.y (.c (.loc 0 2)) (OkOps.y (aS v.S) ?_)))))
 obtain ⟨x5,hx5,hr⟩:=bind_some hr
 refine OkOps.q (triCl (tau []) (.s (aB x5)) [] (r11_UTF8_c _ hx5) rfl ⟨.inl rfl,trivial⟩ trivial entry82 trivial) (OkOps.y (aB (!x5)) (OkOps.nil ?_))
 refine Ok.cond (b:=!x5) rfl (fun h6=>?_) (fun h6=>?_)
 have hr:=selT h6 hr
 refine Ok.seq (Ok.region (OkOps.y (.agg [cI 0,.d (.v (.slice none 0 0))]) (OkOps.y (aI (IntKind.i64.wrap (met + 1))) (OkOps.w (triStore (cs':=[cI 0,.d (.v (.slice none 0 0))]) rfl rfl rfl rfl rfl rfl rfl rfl rfl) (OkOps.y (aI (IntKind.i64.wrap (met + 1))) (OkOps.y (aI 3) (OkOps.nil (Ok.ret ?_))))))))
 obtain rfl:=Option.some.inj hr
 exact ⟨_,rfl,.inr rfl,trivial⟩
 have hr:=selF h6 hr
 refine Ok.skip (Ok.seq (Ok.region (OkOps.y (.c (.loc 0 0)) (OkOps.y (aI v.Kind) (OkOps.y (.agg [cI v.Kind,.d (.v (.slice none 0 0))]) (OkOps.m 0 (triAlloc (j:=2) (cs:=[cI 0,.d (.v (.slice none 0 0))]) rfl rfl rfl rfl) (OkOps.w (triStore (cs':=[cI v.Kind,.d (.v (.slice none 0 0))]) rfl rfl rfl rfl rfl rfl rfl rfl rfl) (OkOps.nil (Ok.seq (Ok.region (OkOps.y (aB true) (OkOps.nil ?_))))))))))))
 obtain ⟨k8,hk8,hr⟩:=jn_some hr
 refine Ok.join (fun (s7 : Int × Bool × (List AType))=>⟨[(2,.s (aI s7.1)),(6,.s (.c (.loc 1 0))),(10,.s (.c (.loc 2 0))),(11,.s (aB s7.2.1))],[(1,.blk [cI 0,.d (.v (.slice none 0 0))] 111),(2,.blk [cI v.Kind,.tl 1008 (List.map AType.cs s7.2.2)] 111),(1008,.tail 2)],0⟩) k8 r (fun s7 hr=>?_) ?_
 rw [hk8] at hr
 refine Ok.seq (Ok.seq (Ok.region (OkOps.y (aB s7.2.1) (OkOps.y (aB (!s7.2.1)) (OkOps.nil ?_)))))
 refine Ok.cond (b:=!s7.2.1) rfl (fun h9=>?_) (fun h9=>?_)
 have hr:=selT h9 hr
 refine Ok.seq (Ok.region (OkOps.y (.agg [cI 0,.d (.v (.slice none 0 0))]) (OkOps.y (aI s7.1) (OkOps.w (triStore (cs':=[cI 0,.d (.v (.slice none 0 0))]) rfl rfl rfl rfl rfl rfl rfl rfl rfl) (OkOps.y (aI s7.1) (OkOps.y (aI 5) (OkOps.nil (Ok.ret ?_))))))))
 obtain rfl:=Option.some.inj hr
 exact ⟨_,rfl,.inr rfl,trivial⟩
 have hr:=selF h9 hr
 refine Ok.skip (Ok.seq (Ok.region (OkOps.y (.agg [cI v.Kind,.tl 1008 (List.map AType.cs s7.2.2)]) (OkOps.y (aI s7.1) (OkOps.w (triStore (cs':=[cI v.Kind,.tl 1008 (List.map AType.cs s7.2.2)]) rfl rfl rfl rfl rfl rfl rfl rfl rfl) (OkOps.y (aI s7.1) (OkOps.y (aI 0) (OkOps.nil (Ok.ret ?_)))))))))
 obtain rfl:=Option.some.inj hr
 exact ⟨_,rfl,.inr rfl,trivial⟩
 clear hk8
 refine Ok.seq (Ok.region (OkOps.y (aI 0) (OkOps.nil (Ok.block (Ok.loopK (fun (s10 : Int × Bool × Int × (List AType))=>⟨[(1,.s (aI depth)),(2,.s (aI s10.1)),(3,.s (.c (.loc 0 0))),(6,.s (.c (.loc 1 0))),(10,.s (.c (.loc 2 0))),(11,.s (aB s10.2.1)),(12,.s (aI s10.2.2.1))],[(0,.blk [cI v.Kind,cI v.N,cS v.S,.d (.sl (List.map AValue.cs v.L))] 66),(1,.blk [cI 0,.d (.v (.slice none 0 0))] 111),(2,.blk [cI v.Kind,.tl 1013 (List.map AType.cs s10.2.2.2)] 111),(1013,.tail 2)],0⟩) hr (Conv.trans (Conv.nilO 2 1 1016 2 [cI v.Kind,.d (.v (.slice none 0 0))] [cI v.Kind,.tl 1016 (List.map AType.cs ([] : (List AType)))] 111 0 rfl rfl rfl rfl) (Conv.mk (tau [(1013,1016)]) ⟨⟨_,rfl,.inl rfl⟩,⟨_,rfl,.inl rfl⟩,⟨_,rfl,.inl rfl⟩,⟨_,rfl,.inl rfl⟩,⟨_,rfl,.inl rfl⟩,⟨_,rfl,.inl rfl⟩,⟨_,rfl,.inl rfl⟩,trivial⟩ ⟨rfl,rfl,rfl,rfl,trivial⟩ rfl rfl rfl rfl)) ?_)))))
 clear hr
 intro again11 s10 hr
 unfold r11_check_L1 at hr
 refine Ok.seq (Ok.seq (Ok.region (OkOps.y (aI s10.2.2.1) (OkOps.y (.c (.loc 0 3)) (OkOps.y (.c (.d (.sl (List.map AValue.cs v.L)))) (OkOps.q (triLen (enc:=AValue.cs) v.L rfl rfl trivial rfl) (OkOps.y (aB (decide (s10.2.2.1 < (v.L.length : Int)))) (OkOps.nil ?_))))))))
 refine Ok.cond (b:=decide (s10.2.2.1 < (v.L.length : Int))) rfl (fun h12=>?_) (fun h12=>?_)
 have hr:=selT h12 hr
 refine Ok.skip ?_
 obtain ⟨k14,hk14,hr⟩:=jn_some hr
 refine Ok.join (fun (s13 : Int × Bool × (List AType))=>⟨[(1,.s (aI depth)),(2,.s (aI s13.1)),(3,.s (.c (.loc 0 0))),(6,.s (.c (.loc 1 0))),(10,.s (.c (.loc 2 0))),(11,.s (aB s13.2.1)),(12,.s (aI s10.2.2.1))],[(0,.blk [cI v.Kind,cI v.N,cS v.S,.d (.sl (List.map AValue.cs v.L))] 66),(1,.blk [cI 0,.d (.v (.slice none 0 0))] 111),(2,.blk [cI v.Kind,.tl 1017 (List.map AType.cs s13.2.2)] 111),(1017,.tail 2)],0⟩) k14 r (fun s13 hr=>?_) ?_
 rw [hk14] at hr
 refine Ok.region (OkOps.y (aI s10.2.2.1) (OkOps.y (aI (IntKind.i64.wrap (s10.2.2.1 + 1))) (OkOps.y (aI (IntKind.i64.wrap (s10.2.2.1 + 1))) (OkOps.nil ?_))))
 exact ⟨(s13.1,s13.2.1,IntKind.i64.wrap (s10.2.2.1 + 1),s13.2.2),hr,(Conv.mk (tau [(1013,1017)]) ⟨⟨_,rfl,.inl rfl⟩,⟨_,rfl,.inl rfl⟩,⟨_,rfl,.inl rfl⟩,⟨_,rfl,.inl rfl⟩,⟨_,rfl,.inl rfl⟩,⟨_,rfl,.inl rfl⟩,⟨_,rfl,.inl rfl⟩,trivial⟩ ⟨rfl,rfl,rfl,rfl,trivial⟩ rfl rfl rfl rfl)⟩
 clear hk14
 refine Ok.block (Ok.seq (Ok.region (OkOps.y (.c (.loc 0 3)) (OkOps.y (.c (.d (.sl (List.map AValue.cs v.L)))) (OkOps.y (aI s10.2.2.1) ?_)))))
 obtain ⟨x15,hx15,hr⟩:=bind_some hr
 refine OkOps.q (triIdx (enc:=AValue.cs) (L:=v.L) (row:=[dI x15.Kind,dI x15.N,dS x15.S,.sl (List.map AValue.cs x15.L)]) hx15 (AValue.cs_eq _) rfl rfl rfl (fun x=>by rw [AValue.cs_eq];rfl) trivial rfl) ?_
 refine OkOps.y (.agg [cI x15.Kind,cI x15.N,cS x15.S,.d (.sl (List.map AValue.cs x15.L))]) (OkOps.y (aI depth) (OkOps.y (aI (IntKind.i64.wrap (depth + 1))) (OkOps.y (aI s10.1) ?_)))
 obtain ⟨x16,hx16,hr⟩:=bind_some hr
 refine OkOps.q (triCl (tau []) (.tup [.agg [cI x16.1.Kind,.d (.sl (List.map AType.cs x16.1.Of))],aI x16.2.1,aI x16.2.2]) [] (hself0 _ _ _ hx16) rfl ⟨.inl rfl,.inl rfl,.inl rfl,trivial⟩ trivial entry77 trivial) (OkOps.q (triMv (v:=.tup [.agg [cI x16.1.Kind,.d (.sl (List.map AType.cs x16.1.Of))],aI x16.2.1,aI x16.2.2]) rfl rfl) (OkOps.y (.agg [cI x16.1.Kind,.d (.sl (List.map AType.cs x16.1.Of))]) (OkOps.y (aI x16.2.1) (OkOps.y (aI x16.2.2) (OkOps.m 0 (triAlloc (j:=3) (cs:=[cI 0,.d (.v (.slice none 0 0))]) rfl rfl rfl rfl) (OkOps.w (triStore (cs':=[cI x16.1.Kind,.d (.sl (List.map AType.cs x16.1.Of))]) rfl rfl rfl rfl rfl rfl rfl rfl rfl) (OkOps.y (aI x16.2.1) (OkOps.y (aI x16.2.2) (OkOps.nil (Ok.seq (Ok.region (OkOps.y (aI x16.2.1) (OkOps.y (aI x16.2.1) (OkOps.nil (Ok.seq ?_)))))))))))))))
 refine Ok.seq (Ok.region (OkOps.y (aI x16.2.2) (OkOps.y (aB (x16.2.2 != 0)) (OkOps.nil ?_))))
 refine Ok.cond (b:=x16.2.2 != 0) rfl (fun h17=>?_) (fun h17=>?_)
 have hr:=selT h17 hr
 refine Ok.seq (Ok.region (OkOps.y (.agg [cI 0,.d (.v (.slice none 0 0))]) (OkOps.y (aI x16.2.1) (OkOps.y (aI x16.2.2) (OkOps.w (triStore (cs':=[cI 0,.d (.v (.slice none 0 0))]) rfl rfl rfl rfl rfl rfl rfl rfl rfl) (OkOps.y (aI x16.2.1) (OkOps.y (aI x16.2.2) (OkOps.nil (Ok.ret ?_)))))))))
 obtain rfl:=Option.some.inj hr
 exact ⟨_,rfl,.inr rfl,trivial⟩
 have hr:=selF h17 hr
 refine Ok.skip (Ok.seq (Ok.seq (Ok.region (OkOps.y (aB s10.2.1) (OkOps.y (aB (!s10.2.1)) (OkOps.nil ?_))))))
 refine Ok.cond (b:=!s10.2.1) rfl (fun h18=>?_) (fun h18=>?_)
 have hr:=selT h18 hr
 refine Ok.exit ?_
 exact ⟨(x16.2.1,s10.2.1,s10.2.2.2),hr,(Conv.mk (tau [(1017,1013)]) ⟨⟨_,rfl,.inl rfl⟩,⟨_,rfl,.inl rfl⟩,⟨_,rfl,.inl rfl⟩,⟨_,rfl,.inl rfl⟩,⟨_,rfl,.inl rfl⟩,⟨_,rfl,.inl rfl⟩,⟨_,rfl,.inl rfl⟩,trivial⟩ ⟨rfl,rfl,rfl,rfl,trivial⟩ rfl rfl rfl rfl)⟩
 have hr:=selF h18 hr
 refine Ok.skip (Ok.seq (Ok.seq (Ok.region (OkOps.y (.c (.loc 2 1)) (OkOps.y (.c (.tl 1013 (List.map AType.cs s10.2.2.2))) (OkOps.q (triLen (enc:=AType.cs) s10.2.2.2 rfl rfl trivial rfl) (OkOps.y (aB ((s10.2.2.2.length : Int) == 0)) (OkOps.nil ?_))))))))
 refine Ok.cond (b:=(s10.2.2.2.length : Int) == 0) rfl (fun h19=>?_) (fun h19=>?_)
 have hr:=selT h19 hr
 refine Ok.seq (Ok.region (OkOps.y (.agg [cI x16.1.Kind,.d (.sl (List.map AType.cs x16.1.Of))]) ?_))
 refine OkOps.m 0 (triBST (sz:=2) (enc:=AType.cs) (j:=4) ([x16.1]) rfl rfl rfl rfl rfl (rows:=[[dI x16.1.Kind,.sl (List.map AType.cs x16.1.Of)]]) (by simp only [List.map,AType.cs_eq]) rfl rfl (fun x=>by rw [AType.cs_eq];rfl) trivial rfl rfl) ?_
 refine OkOps.y (.c (.loc 2 1)) (OkOps.w (triStore (cs':=[cI v.Kind,.tl 4 (List.map AType.cs ([x16.1]))]) rfl rfl rfl rfl rfl rfl rfl rfl rfl) (OkOps.nil (Ok.exit ?_)))
 exact ⟨(x16.2.1,s10.2.1,[x16.1]),hr,(Conv.mk (tau [(1017,4)]) ⟨⟨_,rfl,.inl rfl⟩,⟨_,rfl,.inl rfl⟩,⟨_,rfl,.inl rfl⟩,⟨_,rfl,.inl rfl⟩,⟨_,rfl,.inl rfl⟩,⟨_,rfl,.inl rfl⟩,⟨_,rfl,.inl rfl⟩,trivial⟩ ⟨rfl,rfl,rfl,rfl,trivial⟩ rfl rfl rfl rfl)⟩
 have hr:=selF h19 hr
 refine Ok.skip (Ok.seq (Ok.regionD (by kernel_rfl) (OkD.x (.c (.loc 2 1)) rfl trivial rfl (OkD.x (.c (.tl 1013 (List.map AType.cs s10.2.2.2))) rfl trivial rfl ?_))))
 obtain ⟨x20,hx20,hr⟩:=bind_some hr
 refine OkD.q (triIdx (enc:=AType.cs) (L:=s10.2.2.2) (row:=[dI x20.Kind,.sl (List.map AType.cs x20.Of)]) hx20 (AType.cs_eq _) rfl rfl rfl (fun x=>by rw [AType.cs_eq];rfl) trivial rfl) ?_
 refine OkD.x (.agg [cI x20.Kind,.d (.sl (List.map AType.cs x20.Of))]) rfl trivial rfl (OkD.x (.agg [cI x16.1.Kind,.d (.sl (List.map AType.cs x16.1.Of))]) rfl trivial rfl ?_)
 obtain ⟨x21,hx21,hr⟩:=bind_some hr
 refine OkD.q (triCl (tau []) (.tup [.agg [cI x21.1.Kind,.d (.sl (List.map AType.cs x21.1.Of))],aB x21.2]) [] (r11_join_c _ _ _ hx21) rfl ⟨.inl rfl,.inl rfl,trivial⟩ trivial entry83 trivial) (OkD.q (triMv (v:=.tup [.agg [cI x21.1.Kind,.d (.sl (List.map AType.cs x21.1.Of))],aB x21.2]) rfl rfl) (OkD.x (.agg [cI x21.1.Kind,.d (.sl (List.map AType.cs x21.1.Of))]) rfl trivial rfl (OkD.x (aB x21.2) rfl trivial rfl (OkD.m 0 (triAlloc (j:=5) (cs:=[cI 0,.d (.v (.slice none 0 0))]) rfl rfl rfl rfl) (OkD.w (triStore (cs':=[cI x21.1.Kind,.d (.sl (List.map AType.cs x21.1.Of))]) rfl rfl rfl rfl rfl rfl rfl rfl rfl) (OkD.x (aB x21.2) rfl trivial rfl (OkD.nil (by kernel_rfl) (Ok.seq (Ok.region (OkOps.y (aB x21.2) (OkOps.y (aB x21.2) (OkOps.nil (Ok.region (OkOps.y (.agg [cI x21.1.Kind,.d (.sl (List.map AType.cs x21.1.Of))]) ?_))))))))))))))
 refine OkOps.m 0 (triBST (sz:=2) (enc:=AType.cs) (j:=6) ([x21.1]) rfl rfl rfl rfl rfl (rows:=[[dI x21.1.Kind,.sl (List.map AType.cs x21.1.Of)]]) (by simp only [List.map,AType.cs_eq]) rfl rfl (fun x=>by rw [AType.cs_eq];rfl) trivial rfl rfl) ?_
 refine OkOps.y (.c (.loc 2 1)) (OkOps.w (triStore (cs':=[cI v.Kind,.tl 6 (List.map AType.cs ([x21.1]))]) rfl rfl rfl rfl rfl rfl rfl rfl rfl) (OkOps.nil ?_))
 exact ⟨(x16.2.1,x21.2,[x21.1]),hr,(Conv.mk (tau [(1017,6)]) ⟨⟨_,rfl,.inl rfl⟩,⟨_,rfl,.inl rfl⟩,⟨_,rfl,.inl rfl⟩,⟨_,rfl,.inl rfl⟩,⟨_,rfl,.inl rfl⟩,⟨_,rfl,.inl rfl⟩,⟨_,rfl,.inl rfl⟩,trivial⟩ ⟨rfl,rfl,rfl,rfl,trivial⟩ rfl rfl rfl rfl)⟩
 have hr:=selF h12 hr
 refine Ok.exit ?_
 exact ⟨(s10.1,s10.2.1,s10.2.2.2),hr,(Conv.mk (tau [(1008,1013)]) ⟨⟨_,rfl,.inl rfl⟩,⟨_,rfl,.inl rfl⟩,⟨_,rfl,.inl rfl⟩,⟨_,rfl,.inl rfl⟩,trivial⟩ ⟨rfl,rfl,rfl,trivial⟩ rfl rfl rfl rfl)⟩
theorem r11_check_all : ∀ n : Nat,(∀ (v : AValue) (depth : Int) (met : Int) {r : AType × Int × Int},r11_check n v depth met = some r → Con Tryz.prog 77 [.agg [cI v.Kind,cI v.N,cS v.S,.d (.sl (List.map AValue.cs v.L))],aI depth,aI met] [] (.tup [.agg [cI r.1.Kind,.d (.sl (List.map AType.cs r.1.Of))],aI r.2.1,aI r.2.2]) []) ∧ True:=by
 intro n
 induction n with
 | zero=>exact ⟨(by intros;rename_i hr;cases hr),trivial⟩
 | succ n ih=>exact ⟨(by intros;rename_i hr;exact r11_check_B_c _ ih.1 _ _ _ hr),trivial⟩
theorem r11_check_c (n : Nat) (v : AValue) (depth : Int) (met : Int) {r : AType × Int × Int} (hr : r11_check n v depth met = some r) : Con Tryz.prog 77 [.agg [cI v.Kind,cI v.N,cS v.S,.d (.sl (List.map AValue.cs v.L))],aI depth,aI met] [] (.tup [.agg [cI r.1.Kind,.d (.sl (List.map AType.cs r.1.Of))],aI r.2.1,aI r.2.2]) []:=(r11_check_all n).1 v depth met hr
theorem r11_TypeOf_c (v : AValue) {r : AType × Int} (hr : r11_TypeOf v = some r) : Con Tryz.prog 66 [.agg [cI v.Kind,cI v.N,cS v.S,.d (.sl (List.map AValue.cs v.L))]] [] (.tup [.agg [cI r.1.Kind,.d (.sl (List.map AType.cs r.1.Of))],aI r.2]) []:=by
 unfold r11_TypeOf at hr
 refine Con.of_ok 15 0 [.cell 2 111,.tmp 3] [(0,.s (.agg [cI v.Kind,cI v.N,cS v.S,.d (.sl (List.map AValue.cs v.L))]))] Tryz.func66 rfl rfl rfl rfl rfl rfl rfl rfl fun w g M ρ _=>(Ok.seq (Ok.region (OkOps.m 0 (triBox (j:=0) (cs:=[cI v.Kind,cI v.N,cS v.S,.d (.sl (List.map AValue.cs v.L))]) rfl rfl rfl rfl rfl) (OkOps.m 0 (triAlloc (j:=1) (cs:=[cI 0,.d (.v (.slice none 0 0))]) rfl rfl rfl rfl) (OkOps.y (aI 0) (OkOps.nil (Ok.seq (Ok.region (OkOps.y (.agg [cI v.Kind,cI v.N,cS v.S,.d (.sl (List.map AValue.cs v.L))]) ?_)))))))))
 obtain ⟨x1,hx1,hr⟩:=bind_some hr
 refine OkOps.q (triCl (tau []) (.tup [.agg [cI x1.1.Kind,.d (.sl (List.map AType.cs x1.1.Of))],aI x1.2.1,aI x1.2.2]) [] (r11_check_c _ _ _ _ hx1) rfl ⟨.inl rfl,.inl rfl,.inl rfl,trivial⟩ trivial entry77 trivial) (OkOps.q (triMv (v:=.tup [.agg [cI x1.1.Kind,.d (.sl (List.map AType.cs x1.1.Of))],aI x1.2.1,aI x1.2.2]) rfl rfl) (OkOps.y (.agg [cI x1.1.Kind,.d (.sl (List.map AType.cs x1.1.Of))]) (OkOps.y (aI x1.2.1) (OkOps.y (aI x1.2.2) (OkOps.m 0 (triAlloc (j:=2) (cs:=[cI 0,.d (.v (.slice none 0 0))]) rfl rfl rfl rfl) (OkOps.w (triStore (cs':=[cI x1.1.Kind,.d (.sl (List.map AType.cs x1.1.Of))]) rfl rfl rfl rfl rfl rfl rfl rfl rfl) (OkOps.y (aI x1.2.1) (OkOps.y (aI x1.2.2) (OkOps.nil (Ok.seq (Ok.region (OkOps.y (.agg [cI x1.1.Kind,.d (.sl (List.map AType.cs x1.1.Of))]) (OkOps.y (aI x1.2.2) (OkOps.w (triStore (cs':=[cI x1.1.Kind,.d (.sl (List.map AType.cs x1.1.Of))]) rfl rfl rfl rfl rfl rfl rfl rfl rfl) (OkOps.y (aI x1.2.2) ?_)))))))))))))))
 refine OkOps.nil (Ok.ret ?_)
 obtain rfl:=Option.some.inj hr
 exact ⟨_,rfl,.inl rfl,trivial⟩
theorem entry66 : Entry Tryz.prog 66:=⟨_,Tryz.func66,by kernel_rfl,by kernel_rfl⟩
theorem r11_Check_c (v : AValue) {r : Int} (hr : r11_Check v = some r) : Con Tryz.prog 41 [.agg [cI v.Kind,cI v.N,cS v.S,.d (.sl (List.map AValue.cs v.L))]] [] (.s (aI r)) []:=by
 unfold r11_Check at hr
 refine Con.of_ok 11 0 [.tmp 2] [(0,.s (.agg [cI v.Kind,cI v.N,cS v.S,.d (.sl (List.map AValue.cs v.L))]))] Tryz.func41 rfl rfl rfl rfl rfl rfl rfl rfl fun w g M ρ _=>(Ok.seq (Ok.region (OkOps.m 0 (triBox (j:=0) (cs:=[cI v.Kind,cI v.N,cS v.S,.d (.sl (List.map AValue.cs v.L))]) rfl rfl rfl rfl rfl) (OkOps.y (aI 0) (OkOps.nil (Ok.seq (Ok.region (OkOps.y (.agg [cI v.Kind,cI v.N,cS v.S,.d (.sl (List.map AValue.cs v.L))]) ?_))))))))
 obtain ⟨x1,hx1,hr⟩:=bind_some hr
 refine OkOps.q (triCl (tau []) (.tup [.agg [cI x1.1.Kind,.d (.sl (List.map AType.cs x1.1.Of))],aI x1.2]) [] (r11_TypeOf_c _ hx1) rfl ⟨.inl rfl,trivial⟩ trivial entry66 trivial) (OkOps.q (triMv (v:=.tup [.agg [cI x1.1.Kind,.d (.sl (List.map AType.cs x1.1.Of))],aI x1.2]) rfl rfl) (OkOps.y (.agg [cI x1.1.Kind,.d (.sl (List.map AType.cs x1.1.Of))]) (OkOps.y (aI x1.2) (OkOps.m 0 (triAlloc (j:=1) (cs:=[cI 0,.d (.v (.slice none 0 0))]) rfl rfl rfl rfl) (OkOps.w (triStore (cs':=[cI x1.1.Kind,.d (.sl (List.map AType.cs x1.1.Of))]) rfl rfl rfl rfl rfl rfl rfl rfl rfl) (OkOps.y (aI x1.2) (OkOps.nil (Ok.seq (Ok.region (OkOps.y (aI x1.2) (OkOps.y (aI x1.2) (OkOps.nil (Ok.ret ?_)))))))))))))
 obtain rfl:=Option.some.inj hr
 exact ⟨_,rfl,.inl rfl,trivial⟩
theorem entry41 : Entry Tryz.prog 41:=⟨_,Tryz.func41,by kernel_rfl,by kernel_rfl⟩
theorem entry73 : Entry Tryz.prog 73:=⟨_,Tryz.func73,by kernel_rfl,by kernel_rfl⟩
theorem entry55 : Entry Tryz.prog 55:=⟨_,Tryz.func55,by kernel_rfl,by kernel_rfl⟩
theorem r11_Same_B_c (self0 : AValue → AValue → Option Bool) (self1 : (List AValue) → (List AValue) → Option Bool) (hself0 : ∀ (a : AValue) (b : AValue) {r : Bool},self0 a b = some r → Con Tryz.prog 73 [.agg [cI a.Kind,cI a.N,cS a.S,.d (.sl (List.map AValue.cs a.L))],.agg [cI b.Kind,cI b.N,cS b.S,.d (.sl (List.map AValue.cs b.L))]] [] (.s (aB r)) []) (_hself1 : ∀ (a : (List AValue)) (b : (List AValue)) {r : Bool},self1 a b = some r → Con Tryz.prog 55 [.c (.d (.sl (List.map AValue.cs a))),.c (.d (.sl (List.map AValue.cs b)))] [] (.s (aB r)) []) (a : AValue) (b : AValue) {r : Bool} (hr : r11_Same_B self0 self1 a b = some r) : Con Tryz.prog 73 [.agg [cI a.Kind,cI a.N,cS a.S,.d (.sl (List.map AValue.cs a.L))],.agg [cI b.Kind,cI b.N,cS b.S,.d (.sl (List.map AValue.cs b.L))]] [] (.s (aB r)) []:=by
 unfold r11_Same_B at hr
 refine Con.of_ok 53 0 [.tmp 4] [(0,.s (.agg [cI a.Kind,cI a.N,cS a.S,.d (.sl (List.map AValue.cs a.L))])),(1,.s (.agg [cI b.Kind,cI b.N,cS b.S,.d (.sl (List.map AValue.cs b.L))]))] Tryz.func73 rfl rfl rfl rfl rfl rfl rfl rfl fun w g M ρ _=>(Ok.seq (Ok.region (OkOps.m 0 (triBox (j:=0) (cs:=[cI a.Kind,cI a.N,cS a.S,.d (.sl (List.map AValue.cs a.L))]) rfl rfl rfl rfl rfl) (OkOps.m 0 (triBox (j:=1) (cs:=[cI b.Kind,cI b.N,cS b.S,.d (.sl (List.map AValue.cs b.L))]) rfl rfl rfl rfl rfl) (OkOps.y (aB false) (OkOps.nil (Ok.seq (Ok.seq (Ok.region (OkOps.y (.c (.loc 0 0)) (OkOps.y (aI a.Kind) (OkOps.y (.c (.loc 1 0)) (OkOps.y (aI b.Kind) (OkOps.y (aB (a.Kind != b.Kind)) (OkOps.y (aB (a.Kind != b.Kind)) ?_)))))))))))))))
 refine OkOps.q (triQG (x:=.c (.loc 0 1)) rfl rfl trivial rfl) (OkOps.q (triQG (x:=aI a.N) rfl rfl ⟨fun h=>h,trivial⟩ rfl) (OkOps.q (triQG (x:=.c (.loc 1 1)) rfl rfl trivial rfl) (OkOps.q (triQG (x:=aI b.N) rfl rfl ⟨fun h=>h,trivial⟩ rfl) (OkOps.q (triQG (x:=aB (a.N != b.N)) rfl rfl ⟨fun h=>h,⟨fun h=>h,trivial⟩⟩ rfl) ?_))))
 refine OkOps.q (triOr rfl rfl (fun h=>by rw [h];rfl) rfl) ?_
 refine OkOps.y (aB ((a.Kind != b.Kind) || (a.N != b.N))) (OkOps.q (triQG (x:=.c (.loc 0 2)) rfl rfl trivial rfl) (OkOps.q (triQG (x:=aS a.S) rfl rfl ⟨fun h=>h,trivial⟩ rfl) (OkOps.q (triQG (x:=.c (.loc 1 2)) rfl rfl trivial rfl) (OkOps.q (triQG (x:=aS b.S) rfl rfl ⟨fun h=>h,trivial⟩ rfl) (OkOps.q (triQG (x:=aB (!(a.S.toList == b.S.toList))) rfl rfl ⟨fun h=>h,⟨fun h=>h,trivial⟩⟩ rfl) ?_)))))
 refine OkOps.q (triOr rfl rfl (fun h=>by rw [h];rfl) rfl) ?_
 refine OkOps.y (aB (((a.Kind != b.Kind) || (a.N != b.N)) || (!(a.S.toList == b.S.toList)))) (OkOps.q (triQG (x:=.c (.loc 0 3)) rfl rfl trivial rfl) (OkOps.q (triQG (x:=.c (.d (.sl (List.map AValue.cs a.L)))) rfl rfl ⟨fun h=>h,trivial⟩ rfl) (OkOps.q (triLenG (enc:=AValue.cs) a.L rfl rfl rfl ⟨fun h=>h,trivial⟩ rfl) (OkOps.q (triQG (x:=.c (.loc 1 3)) rfl rfl trivial rfl) (OkOps.q (triQG (x:=.c (.d (.sl (List.map AValue.cs b.L)))) rfl rfl ⟨fun h=>h,trivial⟩ rfl) (OkOps.q (triLenG (enc:=AValue.cs) b.L rfl rfl rfl ⟨fun h=>h,trivial⟩ rfl) (OkOps.q (triQG (x:=aB ((a.L.length : Int) != (b.L.length : Int))) rfl rfl ⟨fun h=>h,⟨fun h=>h,trivial⟩⟩ rfl) ?_)))))))
 refine OkOps.q (triOr rfl rfl (fun h=>by rw [h];rfl) rfl) ?_
 refine OkOps.nil ?_
 refine Ok.cond (b:=(((a.Kind != b.Kind) || (a.N != b.N)) || (!(a.S.toList == b.S.toList))) || ((a.L.length : Int) != (b.L.length : Int))) rfl (fun h1=>?_) (fun h1=>?_)
 have hr:=selT h1 hr
 refine Ok.seq (Ok.region (OkOps.y (aB false) (OkOps.nil (Ok.ret ?_))))
 obtain rfl:=Option.some.inj hr
 exact ⟨_,rfl,.inl rfl,trivial⟩
 have hr:=selF h1 hr
 refine Ok.skip ?_
 obtain ⟨k3,hk3,hr⟩:=jn_some hr
 refine Ok.join (fun (s2 : Unit)=>⟨[],[],0⟩) k3 r (fun s2 hr=>?_) ?_
 rw [hk3] at hr
 refine Ok.seq (Ok.region (OkOps.y (aB true) (OkOps.nil (Ok.ret ?_))))
 obtain rfl:=Option.some.inj hr
 exact ⟨_,rfl,.inl rfl,trivial⟩
 clear hk3
 refine Ok.seq (Ok.region (OkOps.y (aI 0) (OkOps.nil (Ok.block (Ok.loopK (fun (s4 : Int)=>⟨[(2,.s (.c (.loc 0 0))),(3,.s (.c (.loc 1 0))),(5,.s (aI s4))],[(0,.blk [cI a.Kind,cI a.N,cS a.S,.d (.sl (List.map AValue.cs a.L))] 66),(1,.blk [cI b.Kind,cI b.N,cS b.S,.d (.sl (List.map AValue.cs b.L))] 66)],0⟩) hr (Conv.mk (tau []) ⟨⟨_,rfl,.inl rfl⟩,⟨_,rfl,.inl rfl⟩,⟨_,rfl,.inl rfl⟩,trivial⟩ ⟨rfl,rfl,trivial⟩ rfl rfl rfl rfl) ?_)))))
 clear hr
 intro again5 s4 hr
 unfold r11_Same_L1 at hr
 refine Ok.seq (Ok.seq (Ok.region (OkOps.y (aI s4) (OkOps.y (.c (.loc 0 3)) (OkOps.y (.c (.d (.sl (List.map AValue.cs a.L)))) (OkOps.q (triLen (enc:=AValue.cs) a.L rfl rfl trivial rfl) (OkOps.y (aB (decide (s4 < (a.L.length : Int)))) (OkOps.nil ?_))))))))
 refine Ok.cond (b:=decide (s4 < (a.L.length : Int))) rfl (fun h6=>?_) (fun h6=>?_)
 have hr:=selT h6 hr
 refine Ok.skip (Ok.seq (Ok.block (Ok.seq (Ok.regionD (by kernel_rfl) (OkD.x (.c (.loc 0 3)) rfl trivial rfl (OkD.x (.c (.d (.sl (List.map AValue.cs a.L)))) rfl trivial rfl (OkD.x (aI s4) rfl trivial rfl ?_)))))))
 obtain ⟨x7,hx7,hr⟩:=bind_some hr
 refine OkD.q (triIdx (enc:=AValue.cs) (L:=a.L) (row:=[dI x7.Kind,dI x7.N,dS x7.S,.sl (List.map AValue.cs x7.L)]) hx7 (AValue.cs_eq _) rfl rfl rfl (fun x=>by rw [AValue.cs_eq];rfl) trivial rfl) ?_
 refine OkD.x (.agg [cI x7.Kind,cI x7.N,cS x7.S,.d (.sl (List.map AValue.cs x7.L))]) rfl trivial rfl (OkD.x (.c (.loc 1 3)) rfl trivial rfl (OkD.x (.c (.d (.sl (List.map AValue.cs b.L)))) rfl trivial rfl (OkD.x (aI s4) rfl trivial rfl ?_)))
 obtain ⟨x8,hx8,hr⟩:=bind_some hr
 refine OkD.q (triIdx (enc:=AValue.cs) (L:=b.L) (row:=[dI x8.Kind,dI x8.N,dS x8.S,.sl (List.map AValue.cs x8.L)]) hx8 (AValue.cs_eq _) rfl rfl rfl (fun x=>by rw [AValue.cs_eq];rfl) trivial rfl) ?_
 refine OkD.x (.agg [cI x8.Kind,cI x8.N,cS x8.S,.d (.sl (List.map AValue.cs x8.L))]) rfl trivial rfl ?_
 obtain ⟨x9,hx9,hr⟩:=bind_some hr
 refine OkD.q (triCl (tau []) (.s (aB x9)) [] (hself0 _ _ hx9) rfl ⟨.inl rfl,.inl rfl,trivial⟩ trivial entry73 trivial) (OkD.x (aB (!x9)) rfl trivial rfl (OkD.nil (by kernel_rfl) ?_))
 refine Ok.cond (b:=!x9) rfl (fun h10=>?_) (fun h10=>?_)
 have hr:=selT h10 hr
 refine Ok.seq (Ok.region (OkOps.y (aB false) (OkOps.nil (Ok.ret ?_))))
 obtain rfl:=Option.some.inj hr
 exact ⟨_,rfl,.inl rfl,trivial⟩
 have hr:=selF h10 hr
 refine Ok.skip (Ok.region (OkOps.y (aI s4) (OkOps.y (aI (IntKind.i64.wrap (s4 + 1))) (OkOps.y (aI (IntKind.i64.wrap (s4 + 1))) (OkOps.nil ?_)))))
 exact ⟨IntKind.i64.wrap (s4 + 1),hr,(Conv.mk (tau []) ⟨⟨_,rfl,.inl rfl⟩,⟨_,rfl,.inl rfl⟩,⟨_,rfl,.inl rfl⟩,trivial⟩ ⟨rfl,rfl,trivial⟩ rfl rfl rfl rfl)⟩
 have hr:=selF h6 hr
 refine Ok.exit ?_
 exact ⟨(),hr,(Conv.mk (tau []) trivial trivial rfl rfl rfl rfl)⟩
theorem r11_SameValues_B_c (self0 : AValue → AValue → Option Bool) (self1 : (List AValue) → (List AValue) → Option Bool) (hself0 : ∀ (a : AValue) (b : AValue) {r : Bool},self0 a b = some r → Con Tryz.prog 73 [.agg [cI a.Kind,cI a.N,cS a.S,.d (.sl (List.map AValue.cs a.L))],.agg [cI b.Kind,cI b.N,cS b.S,.d (.sl (List.map AValue.cs b.L))]] [] (.s (aB r)) []) (_hself1 : ∀ (a : (List AValue)) (b : (List AValue)) {r : Bool},self1 a b = some r → Con Tryz.prog 55 [.c (.d (.sl (List.map AValue.cs a))),.c (.d (.sl (List.map AValue.cs b)))] [] (.s (aB r)) []) (a : (List AValue)) (b : (List AValue)) {r : Bool} (hr : r11_SameValues_B self0 self1 a b = some r) : Con Tryz.prog 55 [.c (.d (.sl (List.map AValue.cs a))),.c (.d (.sl (List.map AValue.cs b)))] [] (.s (aB r)) []:=by
 unfold r11_SameValues_B at hr
 refine Con.of_ok 27 0 [.tmp 4] [(0,.s (.c (.d (.sl (List.map AValue.cs a))))),(1,.s (.c (.d (.sl (List.map AValue.cs b)))))] Tryz.func55 rfl rfl rfl rfl rfl rfl rfl rfl fun w g M ρ _=>(Ok.seq (Ok.region (OkOps.y (aB false) (OkOps.nil (Ok.seq (Ok.seq (Ok.region (OkOps.y (.c (.d (.sl (List.map AValue.cs a)))) (OkOps.q (triLen (enc:=AValue.cs) a rfl rfl trivial rfl) (OkOps.y (.c (.d (.sl (List.map AValue.cs b)))) (OkOps.q (triLen (enc:=AValue.cs) b rfl rfl trivial rfl) (OkOps.y (aB ((a.length : Int) != (b.length : Int))) (OkOps.nil ?_)))))))))))))
 refine Ok.cond (b:=(a.length : Int) != (b.length : Int)) rfl (fun h1=>?_) (fun h1=>?_)
 have hr:=selT h1 hr
 refine Ok.seq (Ok.region (OkOps.y (aB false) (OkOps.nil (Ok.ret ?_))))
 obtain rfl:=Option.some.inj hr
 exact ⟨_,rfl,.inl rfl,trivial⟩
 have hr:=selF h1 hr
 refine Ok.skip ?_
 obtain ⟨k3,hk3,hr⟩:=jn_some hr
 refine Ok.join (fun (s2 : Unit)=>⟨[],[],0⟩) k3 r (fun s2 hr=>?_) ?_
 rw [hk3] at hr
 refine Ok.seq (Ok.region (OkOps.y (aB true) (OkOps.nil (Ok.ret ?_))))
 obtain rfl:=Option.some.inj hr
 exact ⟨_,rfl,.inl rfl,trivial⟩
 clear hk3
 refine Ok.seq (Ok.region (OkOps.y (aI 0) (OkOps.nil (Ok.block (Ok.loopK (fun (s4 : Int)=>⟨[(0,.s (.c (.d (.sl (List.map AValue.cs a))))),(1,.s (.c (.d (.sl (List.map AValue.cs b))))),(5,.s (aI s4))],[],0⟩) hr (Conv.mk (tau []) ⟨⟨_,rfl,.inl rfl⟩,⟨_,rfl,.inl rfl⟩,⟨_,rfl,.inl rfl⟩,trivial⟩ trivial rfl rfl rfl rfl) ?_)))))
 clear hr
 intro again5 s4 hr
 unfold r11_SameValues_L1 at hr
 refine Ok.seq (Ok.seq (Ok.region (OkOps.y (aI s4) (OkOps.y (.c (.d (.sl (List.map AValue.cs a)))) (OkOps.q (triLen (enc:=AValue.cs) a rfl rfl trivial rfl) (OkOps.y (aB (decide (s4 < (a.length : Int)))) (OkOps.nil ?_)))))))
 refine Ok.cond (b:=decide (s4 < (a.length : Int))) rfl (fun h6=>?_) (fun h6=>?_)
 have hr:=selT h6 hr
 refine Ok.skip (Ok.seq (Ok.block (Ok.seq (Ok.regionD (by kernel_rfl) (OkD.x (.c (.d (.sl (List.map AValue.cs a)))) rfl trivial rfl (OkD.x (aI s4) rfl trivial rfl ?_))))))
 obtain ⟨x7,hx7,hr⟩:=bind_some hr
 refine OkD.q (triIdx (enc:=AValue.cs) (L:=a) (row:=[dI x7.Kind,dI x7.N,dS x7.S,.sl (List.map AValue.cs x7.L)]) hx7 (AValue.cs_eq _) rfl rfl rfl (fun x=>by rw [AValue.cs_eq];rfl) trivial rfl) ?_
 refine OkD.x (.agg [cI x7.Kind,cI x7.N,cS x7.S,.d (.sl (List.map AValue.cs x7.L))]) rfl trivial rfl (OkD.x (.c (.d (.sl (List.map AValue.cs b)))) rfl trivial rfl (OkD.x (aI s4) rfl trivial rfl ?_))
 obtain ⟨x8,hx8,hr⟩:=bind_some hr
 refine OkD.q (triIdx (enc:=AValue.cs) (L:=b) (row:=[dI x8.Kind,dI x8.N,dS x8.S,.sl (List.map AValue.cs x8.L)]) hx8 (AValue.cs_eq _) rfl rfl rfl (fun x=>by rw [AValue.cs_eq];rfl) trivial rfl) ?_
 refine OkD.x (.agg [cI x8.Kind,cI x8.N,cS x8.S,.d (.sl (List.map AValue.cs x8.L))]) rfl trivial rfl ?_
 obtain ⟨x9,hx9,hr⟩:=bind_some hr
 refine OkD.q (triCl (tau []) (.s (aB x9)) [] (hself0 _ _ hx9) rfl ⟨.inl rfl,.inl rfl,trivial⟩ trivial entry73 trivial) (OkD.x (aB (!x9)) rfl trivial rfl (OkD.nil (by kernel_rfl) ?_))
 refine Ok.cond (b:=!x9) rfl (fun h10=>?_) (fun h10=>?_)
 have hr:=selT h10 hr
 refine Ok.seq (Ok.region (OkOps.y (aB false) (OkOps.nil (Ok.ret ?_))))
 obtain rfl:=Option.some.inj hr
 exact ⟨_,rfl,.inl rfl,trivial⟩
 have hr:=selF h10 hr
 refine Ok.skip (Ok.region (OkOps.y (aI s4) (OkOps.y (aI (IntKind.i64.wrap (s4 + 1))) (OkOps.y (aI (IntKind.i64.wrap (s4 + 1))) (OkOps.nil ?_)))))
 exact ⟨IntKind.i64.wrap (s4 + 1),hr,(Conv.mk (tau []) ⟨⟨_,rfl,.inl rfl⟩,⟨_,rfl,.inl rfl⟩,⟨_,rfl,.inl rfl⟩,trivial⟩ trivial rfl rfl rfl rfl)⟩
 have hr:=selF h6 hr
 refine Ok.exit ?_
 exact ⟨(),hr,(Conv.mk (tau []) trivial trivial rfl rfl rfl rfl)⟩
theorem r11_Same_all : ∀ n : Nat,(∀ (a : AValue) (b : AValue) {r : Bool},r11_Same n a b = some r → Con Tryz.prog 73 [.agg [cI a.Kind,cI a.N,cS a.S,.d (.sl (List.map AValue.cs a.L))],.agg [cI b.Kind,cI b.N,cS b.S,.d (.sl (List.map AValue.cs b.L))]] [] (.s (aB r)) []) ∧ (∀ (a : (List AValue)) (b : (List AValue)) {r : Bool},r11_SameValues n a b = some r → Con Tryz.prog 55 [.c (.d (.sl (List.map AValue.cs a))),.c (.d (.sl (List.map AValue.cs b)))] [] (.s (aB r)) []) ∧ True:=by
 intro n
 induction n with
 | zero=>exact ⟨(by intros;rename_i hr;cases hr),(by intros;rename_i hr;cases hr),trivial⟩
 | succ n ih=>exact ⟨(by intros;rename_i hr;exact r11_Same_B_c _ _ ih.1 ih.2.1 _ _ hr),(by intros;rename_i hr;exact r11_SameValues_B_c _ _ ih.1 ih.2.1 _ _ hr),trivial⟩
theorem r11_SameValues_c (n : Nat) (a : (List AValue)) (b : (List AValue)) {r : Bool} (hr : r11_SameValues n a b = some r) : Con Tryz.prog 55 [.c (.d (.sl (List.map AValue.cs a))),.c (.d (.sl (List.map AValue.cs b)))] [] (.s (aB r)) []:=(r11_Same_all n).2.1 a b hr
end Go.Proofs.YtcenpkkficeaaaaGreatDoor
end
section
set_option maxRecDepth 100000
namespace Go.Proofs.YtcenpkkficeaaaaGreatDoor
open Go Go.E2
theorem entry23 : Entry Tryz.prog 23:=⟨_,Tryz.func23,by kernel_rfl,by kernel_rfl⟩
theorem r14_validate_B_c (self0 : View → Int → Int → Option (Int × Int)) (hself0 : ∀ (v : View) (depth : Int) (met : Int) {r : Int × Int},self0 v depth met = some r → Con Tryz.prog 23 [.agg [cI v.Kind,cS v.Key,.d (.sl (List.map Attr.cs v.Attrs)),.d (.sl (List.map Action.cs v.Actions)),.d (.sl (List.map View.cs v.Kids))],aI depth,aI met] [] (.tup [aI r.1,aI r.2]) []) (v : View) (depth : Int) (met : Int) {r : Int × Int} (hr : r14_validate_B self0 v depth met = some r) : Con Tryz.prog 23 [.agg [cI v.Kind,cS v.Key,.d (.sl (List.map Attr.cs v.Attrs)),.d (.sl (List.map Action.cs v.Actions)),.d (.sl (List.map View.cs v.Kids))],aI depth,aI met] [] (.tup [aI r.1,aI r.2]) []:=by
 unfold r14_validate_B at hr
 refine Con.of_ok 230 0 [.tmp 6,.tmp 7] [(0,.s (.agg [cI v.Kind,cS v.Key,.d (.sl (List.map Attr.cs v.Attrs)),.d (.sl (List.map Action.cs v.Actions)),.d (.sl (List.map View.cs v.Kids))])),(1,.s (aI depth)),(2,.s (aI met))] Tryz.func23 rfl rfl rfl rfl rfl rfl rfl rfl fun w g M ρ _=>(Ok.seq (Ok.region (OkOps.m 0 (triBox (j:=0) (cs:=[cI v.Kind,cS v.Key,.d (.sl (List.map Attr.cs v.Attrs)),.d (.sl (List.map Action.cs v.Actions)),.d (.sl (List.map View.cs v.Kids))]) rfl rfl rfl rfl rfl) (OkOps.y (aI 0) (OkOps.y (aI 0) (OkOps.nil (Ok.seq (Ok.region (OkOps.y (aI met) (OkOps.y (aI (IntKind.i64.wrap (met + 1))) (OkOps.y (aI (IntKind.i64.wrap (met + 1))) (OkOps.nil (Ok.seq (Ok.seq (Ok.region ?_)))))))))))))))
 refine OkOps.y (aI depth) (OkOps.y (aB (decide (depth > 16))) (OkOps.nil ?_))
 refine Ok.cond (b:=decide (depth > 16)) rfl (fun h1=>?_) (fun h1=>?_)
 have hr:=selT h1 hr
 refine Ok.seq (Ok.region (OkOps.y (aI (IntKind.i64.wrap (met + 1))) (OkOps.y (aI (IntKind.i64.wrap (met + 1))) (OkOps.y (aI 8) (OkOps.nil (Ok.ret ?_))))))
 obtain rfl:=Option.some.inj hr
 exact ⟨_,rfl,.inl rfl,trivial⟩
 have hr:=selF h1 hr
 refine Ok.skip (Ok.seq (Ok.seq (Ok.region (OkOps.y (aI (IntKind.i64.wrap (met + 1))) (OkOps.y (aB (decide ((IntKind.i64.wrap (met + 1)) > 400))) (OkOps.nil ?_))))))
 refine Ok.cond (b:=decide ((IntKind.i64.wrap (met + 1)) > 400)) rfl (fun h2=>?_) (fun h2=>?_)
 have hr:=selT h2 hr
 refine Ok.seq (Ok.region (OkOps.y (aI (IntKind.i64.wrap (met + 1))) (OkOps.y (aI (IntKind.i64.wrap (met + 1))) (OkOps.y (aI 2) (OkOps.nil (Ok.ret ?_))))))
 obtain rfl:=Option.some.inj hr
 exact ⟨_,rfl,.inl rfl,trivial⟩
 have hr:=selF h2 hr
 refine Ok.skip (Ok.seq (Ok.seq (Ok.region (OkOps.y (.c (.loc 0 0)) (OkOps.y (aI v.Kind) (OkOps.y (aB (decide (v.Kind < 1))) (OkOps.y (aB (decide (v.Kind < 1))) (OkOps.q (triQG (x:=.c (.loc 0 0)) rfl rfl trivial rfl) (OkOps.q (triQG (x:=aI v.Kind) rfl rfl ⟨fun h=>h,trivial⟩ rfl) (OkOps.q (triQG (x:=aB (decide (v.Kind > 13))) rfl rfl ⟨fun h=>h,trivial⟩ rfl) ?_))))))))))
 refine OkOps.q (triOr rfl rfl (fun h=>by rw [h];rfl) rfl) ?_
 refine OkOps.nil ?_
 refine Ok.cond (b:=(decide (v.Kind < 1)) || (decide (v.Kind > 13))) rfl (fun h3=>?_) (fun h3=>?_)
 have hr:=selT h3 hr
 refine Ok.seq (Ok.region (OkOps.y (aI (IntKind.i64.wrap (met + 1))) (OkOps.y (aI (IntKind.i64.wrap (met + 1))) (OkOps.y (aI 9) (OkOps.nil (Ok.ret ?_))))))
 obtain rfl:=Option.some.inj hr
 exact ⟨_,rfl,.inl rfl,trivial⟩
 have hr:=selF h3 hr
 refine Ok.skip (Ok.seq (Ok.seq (Ok.region (OkOps.y (.c (.loc 0 1)) (OkOps.y (aS v.Key) ?_)))))
 obtain ⟨x4,hx4,hr⟩:=bind_some hr
 refine OkOps.q (triCl (tau []) (.s (aB x4)) [] (r14_Key_c _ hx4) rfl ⟨.inl rfl,trivial⟩ trivial entry39 trivial) (OkOps.y (aB (!x4)) (OkOps.nil ?_))
 refine Ok.cond (b:=!x4) rfl (fun h5=>?_) (fun h5=>?_)
 have hr:=selT h5 hr
 refine Ok.seq (Ok.region (OkOps.y (aI (IntKind.i64.wrap (met + 1))) (OkOps.y (aI (IntKind.i64.wrap (met + 1))) (OkOps.y (aI 4) (OkOps.nil (Ok.ret ?_))))))
 obtain rfl:=Option.some.inj hr
 exact ⟨_,rfl,.inl rfl,trivial⟩
 have hr:=selF h5 hr
 refine Ok.skip (Ok.seq (Ok.seq (Ok.region (OkOps.y (.c (.loc 0 2)) (OkOps.y (.c (.d (.sl (List.map Attr.cs v.Attrs)))) (OkOps.q (triLen (enc:=Attr.cs) v.Attrs rfl rfl trivial rfl) (OkOps.y (aB (decide ((v.Attrs.length : Int) > 24))) (OkOps.y (aB (decide ((v.Attrs.length : Int) > 24))) (OkOps.q (triQG (x:=.c (.loc 0 3)) rfl rfl trivial rfl) (OkOps.q (triQG (x:=.c (.d (.sl (List.map Action.cs v.Actions)))) rfl rfl ⟨fun h=>h,trivial⟩ rfl) (OkOps.q (triLenG (enc:=Action.cs) v.Actions rfl rfl rfl ⟨fun h=>h,trivial⟩ rfl) (OkOps.q (triQG (x:=aB (decide ((v.Actions.length : Int) > 24))) rfl rfl ⟨fun h=>h,trivial⟩ rfl) ?_))))))))))))
 refine OkOps.q (triOr rfl rfl (fun h=>by rw [h];rfl) rfl) ?_
 refine OkOps.y (aB ((decide ((v.Attrs.length : Int) > 24)) || (decide ((v.Actions.length : Int) > 24)))) (OkOps.q (triQG (x:=.c (.loc 0 4)) rfl rfl trivial rfl) (OkOps.q (triQG (x:=.c (.d (.sl (List.map View.cs v.Kids)))) rfl rfl ⟨fun h=>h,trivial⟩ rfl) (OkOps.q (triLenG (enc:=View.cs) v.Kids rfl rfl rfl ⟨fun h=>h,trivial⟩ rfl) (OkOps.q (triQG (x:=aB (decide ((v.Kids.length : Int) > 100))) rfl rfl ⟨fun h=>h,trivial⟩ rfl) ?_))))
 refine OkOps.q (triOr rfl rfl (fun h=>by rw [h];rfl) rfl) ?_
 refine OkOps.nil ?_
 refine Ok.cond (b:=((decide ((v.Attrs.length : Int) > 24)) || (decide ((v.Actions.length : Int) > 24))) || (decide ((v.Kids.length : Int) > 100))) rfl (fun h6=>?_) (fun h6=>?_)
 have hr:=selT h6 hr
 refine Ok.seq (Ok.region (OkOps.y (aI (IntKind.i64.wrap (met + 1))) (OkOps.y (aI (IntKind.i64.wrap (met + 1))) (OkOps.y (aI 2) (OkOps.nil (Ok.ret ?_))))))
 obtain rfl:=Option.some.inj hr
 exact ⟨_,rfl,.inl rfl,trivial⟩
 have hr:=selF h6 hr
 refine Ok.skip ?_
 obtain ⟨k8,hk8,hr⟩:=jn_some hr
 refine Ok.join (fun (s7 : Unit)=>⟨[(1,.s (aI depth)),(2,.s (aI (IntKind.i64.wrap (met + 1)))),(3,.s (.c (.loc 0 0)))],[(0,.blk [cI v.Kind,cS v.Key,.d (.sl (List.map Attr.cs v.Attrs)),.d (.sl (List.map Action.cs v.Actions)),.d (.sl (List.map View.cs v.Kids))] 35)],0⟩) k8 r (fun s7 hr=>?_) ?_
 rw [hk8] at hr
 obtain ⟨k10,hk10,hr⟩:=jn_some hr
 refine Ok.join (fun (s9 : Unit)=>⟨[(1,.s (aI depth)),(2,.s (aI (IntKind.i64.wrap (met + 1)))),(3,.s (.c (.loc 0 0)))],[(0,.blk [cI v.Kind,cS v.Key,.d (.sl (List.map Attr.cs v.Attrs)),.d (.sl (List.map Action.cs v.Actions)),.d (.sl (List.map View.cs v.Kids))] 35)],0⟩) k10 r (fun s9 hr=>?_) ?_
 rw [hk10] at hr
 obtain ⟨k12,hk12,hr⟩:=jn_some hr
 refine Ok.join (fun (s11 : Unit)=>⟨[(1,.s (aI depth)),(2,.s (aI (IntKind.i64.wrap (met + 1)))),(3,.s (.c (.loc 0 0)))],[(0,.blk [cI v.Kind,cS v.Key,.d (.sl (List.map Attr.cs v.Attrs)),.d (.sl (List.map Action.cs v.Actions)),.d (.sl (List.map View.cs v.Kids))] 35)],0⟩) k12 r (fun s11 hr=>?_) ?_
 rw [hk12] at hr
 obtain ⟨k14,hk14,hr⟩:=jn_some hr
 refine Ok.join (fun (s13 : Int)=>⟨[(2,.s (aI s13))],[],0⟩) k14 r (fun s13 hr=>?_) ?_
 rw [hk14] at hr
 refine Ok.seq (Ok.region (OkOps.y (aI s13) (OkOps.y (aI s13) (OkOps.y (aI 0) (OkOps.nil (Ok.ret ?_))))))
 obtain rfl:=Option.some.inj hr
 exact ⟨_,rfl,.inl rfl,trivial⟩
 clear hk14
 refine Ok.seq (Ok.region (OkOps.y (aI 0) (OkOps.nil (Ok.block (Ok.loopK (fun (s15 : Int × Int)=>⟨[(1,.s (aI depth)),(2,.s (aI s15.1)),(3,.s (.c (.loc 0 0))),(16,.s (aI s15.2))],[(0,.blk [cI v.Kind,cS v.Key,.d (.sl (List.map Attr.cs v.Attrs)),.d (.sl (List.map Action.cs v.Actions)),.d (.sl (List.map View.cs v.Kids))] 35)],0⟩) hr (Conv.mk (tau []) ⟨⟨_,rfl,.inl rfl⟩,⟨_,rfl,.inl rfl⟩,⟨_,rfl,.inl rfl⟩,⟨_,rfl,.inl rfl⟩,trivial⟩ ⟨rfl,trivial⟩ rfl rfl rfl rfl) ?_)))))
 clear hr
 intro again16 s15 hr
 unfold r14_validate_L1 at hr
 refine Ok.seq (Ok.seq (Ok.region (OkOps.y (aI s15.2) (OkOps.y (.c (.loc 0 4)) (OkOps.y (.c (.d (.sl (List.map View.cs v.Kids)))) (OkOps.q (triLen (enc:=View.cs) v.Kids rfl rfl trivial rfl) (OkOps.y (aB (decide (s15.2 < (v.Kids.length : Int)))) (OkOps.nil ?_))))))))
 refine Ok.cond (b:=decide (s15.2 < (v.Kids.length : Int))) rfl (fun h17=>?_) (fun h17=>?_)
 have hr:=selT h17 hr
 refine Ok.skip (Ok.seq (Ok.block (Ok.seq (Ok.region (OkOps.y (.c (.loc 0 4)) (OkOps.y (.c (.d (.sl (List.map View.cs v.Kids)))) (OkOps.y (aI s15.2) ?_)))))))
 obtain ⟨x18,hx18,hr⟩:=bind_some hr
 refine OkOps.q (triIdx (enc:=View.cs) (L:=v.Kids) (row:=[dI x18.Kind,dS x18.Key,.sl (List.map Attr.cs x18.Attrs),.sl (List.map Action.cs x18.Actions),.sl (List.map View.cs x18.Kids)]) hx18 (View.cs_eq _) rfl rfl rfl (fun x=>by rw [View.cs_eq];rfl) trivial rfl) ?_
 refine OkOps.y (.agg [cI x18.Kind,cS x18.Key,.d (.sl (List.map Attr.cs x18.Attrs)),.d (.sl (List.map Action.cs x18.Actions)),.d (.sl (List.map View.cs x18.Kids))]) (OkOps.y (aI depth) (OkOps.y (aI (IntKind.i64.wrap (depth + 1))) (OkOps.y (aI s15.1) ?_)))
 obtain ⟨x19,hx19,hr⟩:=bind_some hr
 refine OkOps.q (triCl (tau []) (.tup [aI x19.1,aI x19.2]) [] (hself0 _ _ _ hx19) rfl ⟨.inl rfl,.inl rfl,.inl rfl,trivial⟩ trivial entry23 trivial) (OkOps.q (triMv (v:=.tup [aI x19.1,aI x19.2]) rfl rfl) (OkOps.y (aI x19.1) (OkOps.y (aI x19.2) (OkOps.y (aI x19.1) (OkOps.y (aI x19.2) (OkOps.nil (Ok.seq (Ok.region (OkOps.y (aI x19.1) (OkOps.y (aI x19.1) (OkOps.nil (Ok.seq (Ok.region (OkOps.y (aI x19.2) (OkOps.y (aB (x19.2 != 0)) ?_)))))))))))))))
 refine OkOps.nil ?_
 refine Ok.cond (b:=x19.2 != 0) rfl (fun h20=>?_) (fun h20=>?_)
 have hr:=selT h20 hr
 refine Ok.seq (Ok.region (OkOps.y (aI x19.1) (OkOps.y (aI x19.2) (OkOps.y (aI x19.1) (OkOps.y (aI x19.2) (OkOps.nil (Ok.ret ?_)))))))
 obtain rfl:=Option.some.inj hr
 exact ⟨_,rfl,.inl rfl,trivial⟩
 have hr:=selF h20 hr
 refine Ok.skip (Ok.region (OkOps.y (aI s15.2) (OkOps.y (aI (IntKind.i64.wrap (s15.2 + 1))) (OkOps.y (aI (IntKind.i64.wrap (s15.2 + 1))) (OkOps.nil ?_)))))
 exact ⟨(x19.1,IntKind.i64.wrap (s15.2 + 1)),hr,(Conv.mk (tau []) ⟨⟨_,rfl,.inl rfl⟩,⟨_,rfl,.inl rfl⟩,⟨_,rfl,.inl rfl⟩,⟨_,rfl,.inl rfl⟩,trivial⟩ ⟨rfl,trivial⟩ rfl rfl rfl rfl)⟩
 have hr:=selF h17 hr
 refine Ok.exit ?_
 exact ⟨s15.1,hr,(Conv.mk (tau []) ⟨⟨_,rfl,.inl rfl⟩,trivial⟩ trivial rfl rfl rfl rfl)⟩
 clear hk12
 refine Ok.seq (Ok.region (OkOps.y (aI 0) (OkOps.nil (Ok.block (Ok.loopK (fun (s21 : Int)=>⟨[(1,.s (aI depth)),(2,.s (aI (IntKind.i64.wrap (met + 1)))),(3,.s (.c (.loc 0 0))),(14,.s (aI s21))],[(0,.blk [cI v.Kind,cS v.Key,.d (.sl (List.map Attr.cs v.Attrs)),.d (.sl (List.map Action.cs v.Actions)),.d (.sl (List.map View.cs v.Kids))] 35)],0⟩) hr (Conv.mk (tau []) ⟨⟨_,rfl,.inl rfl⟩,⟨_,rfl,.inl rfl⟩,⟨_,rfl,.inl rfl⟩,⟨_,rfl,.inl rfl⟩,trivial⟩ ⟨rfl,trivial⟩ rfl rfl rfl rfl) ?_)))))
 clear hr
 intro again22 s21 hr
 unfold r14_validate_L3 at hr
 refine Ok.seq (Ok.seq (Ok.region (OkOps.y (aI s21) (OkOps.y (.c (.loc 0 4)) (OkOps.y (.c (.d (.sl (List.map View.cs v.Kids)))) (OkOps.q (triLen (enc:=View.cs) v.Kids rfl rfl trivial rfl) (OkOps.y (aB (decide (s21 < (v.Kids.length : Int)))) (OkOps.nil ?_))))))))
 refine Ok.cond (b:=decide (s21 < (v.Kids.length : Int))) rfl (fun h23=>?_) (fun h23=>?_)
 have hr:=selT h23 hr
 refine Ok.skip ?_
 obtain ⟨k25,hk25,hr⟩:=jn_some hr
 refine Ok.join (fun (s24 : Unit)=>⟨[(1,.s (aI depth)),(2,.s (aI (IntKind.i64.wrap (met + 1)))),(3,.s (.c (.loc 0 0))),(14,.s (aI s21))],[(0,.blk [cI v.Kind,cS v.Key,.d (.sl (List.map Attr.cs v.Attrs)),.d (.sl (List.map Action.cs v.Actions)),.d (.sl (List.map View.cs v.Kids))] 35)],0⟩) k25 r (fun s24 hr=>?_) ?_
 rw [hk25] at hr
 refine Ok.region (OkOps.y (aI s21) (OkOps.y (aI (IntKind.i64.wrap (s21 + 1))) (OkOps.y (aI (IntKind.i64.wrap (s21 + 1))) (OkOps.nil ?_))))
 exact ⟨IntKind.i64.wrap (s21 + 1),hr,(Conv.mk (tau []) ⟨⟨_,rfl,.inl rfl⟩,⟨_,rfl,.inl rfl⟩,⟨_,rfl,.inl rfl⟩,⟨_,rfl,.inl rfl⟩,trivial⟩ ⟨rfl,trivial⟩ rfl rfl rfl rfl)⟩
 clear hk25
 refine Ok.block (Ok.seq (Ok.region (OkOps.y (aI 0) (OkOps.nil ?_))))
 obtain ⟨k27,hk27,hr⟩:=jn_some hr
 refine Ok.joinEnd (fun (s26 : Unit)=>⟨[(1,.s (aI depth)),(2,.s (aI (IntKind.i64.wrap (met + 1)))),(3,.s (.c (.loc 0 0))),(14,.s (aI s21))],[(0,.blk [cI v.Kind,cS v.Key,.d (.sl (List.map Attr.cs v.Attrs)),.d (.sl (List.map Action.cs v.Actions)),.d (.sl (List.map View.cs v.Kids))] 35)],0⟩) k27 r (fun s26 hr=>?_) ?_
 rw [hk27] at hr
 exact ⟨(),hr,(Conv.mk (tau []) ⟨⟨_,rfl,.inl rfl⟩,⟨_,rfl,.inl rfl⟩,⟨_,rfl,.inl rfl⟩,⟨_,rfl,.inl rfl⟩,trivial⟩ ⟨rfl,trivial⟩ rfl rfl rfl rfl)⟩
 clear hk27
 refine Ok.block (Ok.loopK (fun (s28 : Int)=>⟨[(1,.s (aI depth)),(2,.s (aI (IntKind.i64.wrap (met + 1)))),(3,.s (.c (.loc 0 0))),(14,.s (aI s21)),(15,.s (aI s28))],[(0,.blk [cI v.Kind,cS v.Key,.d (.sl (List.map Attr.cs v.Attrs)),.d (.sl (List.map Action.cs v.Actions)),.d (.sl (List.map View.cs v.Kids))] 35)],0⟩) hr (Conv.mk (tau []) ⟨⟨_,rfl,.inl rfl⟩,⟨_,rfl,.inl rfl⟩,⟨_,rfl,.inl rfl⟩,⟨_,rfl,.inl rfl⟩,⟨_,rfl,.inl rfl⟩,trivial⟩ ⟨rfl,trivial⟩ rfl rfl rfl rfl) ?_)
 clear hr
 intro again29 s28 hr
 unfold r14_validate_L2 at hr
 refine Ok.seq (Ok.seq (Ok.region (OkOps.y (aI s28) (OkOps.y (aI s21) (OkOps.y (aB (decide (s28 < s21))) (OkOps.nil ?_))))))
 refine Ok.cond (b:=decide (s28 < s21)) rfl (fun h30=>?_) (fun h30=>?_)
 have hr:=selT h30 hr
 refine Ok.skip (Ok.seq (Ok.block (Ok.seq (Ok.regionD (by kernel_rfl) (OkD.x (.c (.loc 0 4)) rfl trivial rfl (OkD.x (.c (.d (.sl (List.map View.cs v.Kids)))) rfl trivial rfl (OkD.x (aI s21) rfl trivial rfl ?_)))))))
 obtain ⟨x31,hx31,hr⟩:=bind_some hr
 refine OkD.q (triIdx (enc:=View.cs) (L:=v.Kids) (row:=[dI x31.Kind,dS x31.Key,.sl (List.map Attr.cs x31.Attrs),.sl (List.map Action.cs x31.Actions),.sl (List.map View.cs x31.Kids)]) hx31 (View.cs_eq _) rfl rfl rfl (fun x=>by rw [View.cs_eq];rfl) trivial rfl) ?_
 refine OkD.x (.c (.pt [dS x31.Key,.sl (List.map Attr.cs x31.Attrs),.sl (List.map Action.cs x31.Actions),.sl (List.map View.cs x31.Kids)])) rfl trivial rfl (OkD.x (aS x31.Key) rfl trivial rfl (OkD.x (aB (!(x31.Key.toList == (ByteArray.mk #[]).toList))) rfl trivial rfl (OkD.x (aB (!(x31.Key.toList == (ByteArray.mk #[]).toList))) rfl trivial rfl (OkD.q (triQG (x:=.c (.loc 0 4)) rfl rfl trivial rfl) (OkD.q (triQG (x:=.c (.d (.sl (List.map View.cs v.Kids)))) rfl rfl ⟨fun h=>h,trivial⟩ rfl) (OkD.q (triQG (x:=aI s21) rfl rfl trivial rfl) ?_))))))
 obtain ⟨x32,hx32,hr⟩:=bind_some hr
 refine OkD.q (triIdxG (enc:=View.cs) (L:=v.Kids) (row:=[dI x32.Kind,dS x32.Key,.sl (List.map Attr.cs x32.Attrs),.sl (List.map Action.cs x32.Actions),.sl (List.map View.cs x32.Kids)]) (gO_t hx32) (View.cs_eq _) rfl rfl rfl rfl (fun x=>by rw [View.cs_eq];rfl) ⟨fun h=>h,⟨fun h=>h,trivial⟩⟩ rfl) ?_
 refine OkD.q (triQG (x:=.c (.pt [dS x32.Key,.sl (List.map Attr.cs x32.Attrs),.sl (List.map Action.cs x32.Actions),.sl (List.map View.cs x32.Kids)])) rfl rfl ⟨fun h=>h,trivial⟩ rfl) (OkD.q (triQG (x:=aS x32.Key) rfl rfl ⟨fun h=>h,trivial⟩ rfl) (OkD.q (triQG (x:=.c (.loc 0 4)) rfl rfl trivial rfl) (OkD.q (triQG (x:=.c (.d (.sl (List.map View.cs v.Kids)))) rfl rfl ⟨fun h=>h,trivial⟩ rfl) (OkD.q (triQG (x:=aI s28) rfl rfl trivial rfl) ?_))))
 obtain ⟨x33,hx33,hr⟩:=bind_some hr
 refine OkD.q (triIdxG (enc:=View.cs) (L:=v.Kids) (row:=[dI x33.Kind,dS x33.Key,.sl (List.map Attr.cs x33.Attrs),.sl (List.map Action.cs x33.Actions),.sl (List.map View.cs x33.Kids)]) (gO_t hx33) (View.cs_eq _) rfl rfl rfl rfl (fun x=>by rw [View.cs_eq];rfl) ⟨fun h=>h,⟨fun h=>h,trivial⟩⟩ rfl) ?_
 refine OkD.q (triQG (x:=.c (.pt [dS x33.Key,.sl (List.map Attr.cs x33.Attrs),.sl (List.map Action.cs x33.Actions),.sl (List.map View.cs x33.Kids)])) rfl rfl ⟨fun h=>h,trivial⟩ rfl) (OkD.q (triQG (x:=aS x33.Key) rfl rfl ⟨fun h=>h,trivial⟩ rfl) (OkD.q (triQG (x:=aB (x32.Key.toList == x33.Key.toList)) rfl rfl ⟨fun h=>h,⟨fun h=>h,trivial⟩⟩ rfl) (OkD.q (triAnd rfl rfl (fun h=>h) rfl) (OkD.nil (by kernel_rfl) ?_))))
 refine Ok.cond (b:=(!(x31.Key.toList == (ByteArray.mk #[]).toList)) && (x32.Key.toList == x33.Key.toList)) rfl (fun h34=>?_) (fun h34=>?_)
 have hr:=selT h34 hr
 refine Ok.seq (Ok.region (OkOps.y (aI (IntKind.i64.wrap (met + 1))) (OkOps.y (aI (IntKind.i64.wrap (met + 1))) (OkOps.y (aI 6) (OkOps.nil (Ok.ret ?_))))))
 obtain rfl:=Option.some.inj hr
 exact ⟨_,rfl,.inl rfl,trivial⟩
 have hr:=selF h34 hr
 refine Ok.skip (Ok.region (OkOps.y (aI s28) (OkOps.y (aI (IntKind.i64.wrap (s28 + 1))) (OkOps.y (aI (IntKind.i64.wrap (s28 + 1))) (OkOps.nil ?_)))))
 exact ⟨IntKind.i64.wrap (s28 + 1),hr,(Conv.mk (tau []) ⟨⟨_,rfl,.inl rfl⟩,⟨_,rfl,.inl rfl⟩,⟨_,rfl,.inl rfl⟩,⟨_,rfl,.inl rfl⟩,⟨_,rfl,.inl rfl⟩,trivial⟩ ⟨rfl,trivial⟩ rfl rfl rfl rfl)⟩
 have hr:=selF h30 hr
 refine Ok.exit ?_
 exact ⟨(),hr,(Conv.mk (tau []) ⟨⟨_,rfl,.inl rfl⟩,⟨_,rfl,.inl rfl⟩,⟨_,rfl,.inl rfl⟩,⟨_,rfl,.inl rfl⟩,trivial⟩ ⟨rfl,trivial⟩ rfl rfl rfl rfl)⟩
 have hr:=selF h23 hr
 refine Ok.exit ?_
 exact ⟨(),hr,(Conv.mk (tau []) ⟨⟨_,rfl,.inl rfl⟩,⟨_,rfl,.inl rfl⟩,⟨_,rfl,.inl rfl⟩,trivial⟩ ⟨rfl,trivial⟩ rfl rfl rfl rfl)⟩
 clear hk10
 refine Ok.seq (Ok.region (OkOps.y (aI 0) (OkOps.nil (Ok.block (Ok.loopK (fun (s35 : Int)=>⟨[(1,.s (aI depth)),(2,.s (aI (IntKind.i64.wrap (met + 1)))),(3,.s (.c (.loc 0 0))),(10,.s (aI s35))],[(0,.blk [cI v.Kind,cS v.Key,.d (.sl (List.map Attr.cs v.Attrs)),.d (.sl (List.map Action.cs v.Actions)),.d (.sl (List.map View.cs v.Kids))] 35)],0⟩) hr (Conv.mk (tau []) ⟨⟨_,rfl,.inl rfl⟩,⟨_,rfl,.inl rfl⟩,⟨_,rfl,.inl rfl⟩,⟨_,rfl,.inl rfl⟩,trivial⟩ ⟨rfl,trivial⟩ rfl rfl rfl rfl) ?_)))))
 clear hr
 intro again36 s35 hr
 unfold r14_validate_L5 at hr
 refine Ok.seq (Ok.seq (Ok.region (OkOps.y (aI s35) (OkOps.y (.c (.loc 0 3)) (OkOps.y (.c (.d (.sl (List.map Action.cs v.Actions)))) (OkOps.q (triLen (enc:=Action.cs) v.Actions rfl rfl trivial rfl) (OkOps.y (aB (decide (s35 < (v.Actions.length : Int)))) (OkOps.nil ?_))))))))
 refine Ok.cond (b:=decide (s35 < (v.Actions.length : Int))) rfl (fun h37=>?_) (fun h37=>?_)
 have hr:=selT h37 hr
 refine Ok.skip ?_
 obtain ⟨k39,hk39,hr⟩:=jn_some hr
 refine Ok.join (fun (s38 : Unit)=>⟨[(1,.s (aI depth)),(2,.s (aI (IntKind.i64.wrap (met + 1)))),(3,.s (.c (.loc 0 0))),(10,.s (aI s35))],[(0,.blk [cI v.Kind,cS v.Key,.d (.sl (List.map Attr.cs v.Attrs)),.d (.sl (List.map Action.cs v.Actions)),.d (.sl (List.map View.cs v.Kids))] 35)],0⟩) k39 r (fun s38 hr=>?_) ?_
 rw [hk39] at hr
 refine Ok.region (OkOps.y (aI s35) (OkOps.y (aI (IntKind.i64.wrap (s35 + 1))) (OkOps.y (aI (IntKind.i64.wrap (s35 + 1))) (OkOps.nil ?_))))
 exact ⟨IntKind.i64.wrap (s35 + 1),hr,(Conv.mk (tau []) ⟨⟨_,rfl,.inl rfl⟩,⟨_,rfl,.inl rfl⟩,⟨_,rfl,.inl rfl⟩,⟨_,rfl,.inl rfl⟩,trivial⟩ ⟨rfl,trivial⟩ rfl rfl rfl rfl)⟩
 clear hk39
 refine Ok.block (Ok.seq (Ok.region (OkOps.y (.c (.loc 0 3)) (OkOps.y (.c (.d (.sl (List.map Action.cs v.Actions)))) (OkOps.y (aI s35) ?_)))))
 obtain ⟨x40,hx40,hr⟩:=bind_some hr
 refine OkOps.q (triIdx (enc:=Action.cs) (L:=v.Actions) (row:=[dS x40.Event,dS x40.Instance,dS x40.Handler,.sl (List.map AValue.cs x40.Args)]) hx40 rfl rfl rfl rfl (fun _=>rfl) trivial rfl) (OkOps.y (.agg [cS x40.Event,cS x40.Instance,cS x40.Handler,.d (.sl (List.map AValue.cs x40.Args))]) (OkOps.m 0 (triAlloc (j:=1) (cs:=[cS ByteArray.empty,cS ByteArray.empty,cS ByteArray.empty,.d (.v (.slice none 0 0))]) rfl rfl rfl rfl) (OkOps.w (triStore (cs':=[cS x40.Event,cS x40.Instance,cS x40.Handler,.d (.sl (List.map AValue.cs x40.Args))]) rfl rfl rfl rfl rfl rfl rfl rfl rfl) (OkOps.nil (Ok.seq (Ok.seq (Ok.region (OkOps.y (.c (.loc 1 0)) (OkOps.y (aS x40.Event) ?_)))))))))
 obtain ⟨x41,hx41,hr⟩:=bind_some hr
 refine OkOps.q (triCl (tau []) (.s (aB x41)) [] (r11_Name_c _ hx41) rfl ⟨.inl rfl,trivial⟩ trivial entry40 trivial) (OkOps.y (aB (!x41)) (OkOps.y (aB (!x41)) (OkOps.q (triQG (x:=.c (.loc 1 2)) rfl rfl trivial rfl) (OkOps.q (triQG (x:=aS x40.Handler) rfl rfl ⟨fun h=>h,trivial⟩ rfl) ?_))))
 obtain ⟨x42,hx42,hr⟩:=bind_some hr
 refine OkOps.q (triCallG (x:=aB x42) (fun hg=>r11_Name_c _ (gO_t hx42 hg)) rfl rfl ⟨.inl rfl,trivial⟩ ⟨fun h=>h,trivial⟩ entry40 rfl rfl rfl) (OkOps.q (triQG (x:=aB (!x42)) rfl rfl ⟨fun h=>h,trivial⟩ rfl) ?_)
 refine OkOps.q (triOr rfl rfl (fun h=>by rw [h];rfl) rfl) ?_
 refine OkOps.nil ?_
 refine Ok.cond (b:=(!x41) || (!x42)) rfl (fun h43=>?_) (fun h43=>?_)
 have hr:=selT h43 hr
 refine Ok.seq (Ok.region (OkOps.y (aI (IntKind.i64.wrap (met + 1))) (OkOps.y (aI (IntKind.i64.wrap (met + 1))) (OkOps.y (aI 4) (OkOps.nil (Ok.ret ?_))))))
 obtain rfl:=Option.some.inj hr
 exact ⟨_,rfl,.inl rfl,trivial⟩
 have hr:=selF h43 hr
 refine Ok.skip (Ok.seq (Ok.seq (Ok.regionD (by kernel_rfl) (OkD.x (aI s35) rfl trivial rfl (OkD.x (aB (decide (s35 > 0))) rfl trivial rfl (OkD.x (aB (decide (s35 > 0))) rfl trivial rfl (OkD.q (triQG (x:=.c (.loc 1 0)) rfl rfl trivial rfl) (OkD.q (triQG (x:=aS x40.Event) rfl rfl ⟨fun h=>h,trivial⟩ rfl) (OkD.q (triQG (x:=.c (.loc 0 3)) rfl rfl trivial rfl) (OkD.q (triQG (x:=.c (.d (.sl (List.map Action.cs v.Actions)))) rfl rfl ⟨fun h=>h,trivial⟩ rfl) (OkD.q (triQG (x:=aI s35) rfl rfl trivial rfl) (OkD.q (triQG (x:=aI (IntKind.i64.wrap (s35 - 1))) rfl rfl ⟨fun h=>h,trivial⟩ rfl) ?_))))))))))))
 obtain ⟨x44,hx44,hr⟩:=bind_some hr
 refine OkD.q (triIdxG (enc:=Action.cs) (L:=v.Actions) (row:=[dS x44.Event,dS x44.Instance,dS x44.Handler,.sl (List.map AValue.cs x44.Args)]) (gO_t hx44) rfl rfl rfl rfl rfl (fun _=>rfl) ⟨fun h=>h,⟨fun h=>h,trivial⟩⟩ rfl) (OkD.q (triQG (x:=.c (.pt [dS x44.Event,dS x44.Instance,dS x44.Handler,.sl (List.map AValue.cs x44.Args)])) rfl rfl ⟨fun h=>h,trivial⟩ rfl) (OkD.q (triQG (x:=aS x44.Event) rfl rfl ⟨fun h=>h,trivial⟩ rfl) (OkD.q (triQG (x:=aB (Op.bytesLess x40.Event.toList x44.Event.toList || x40.Event.toList == x44.Event.toList)) rfl rfl ⟨fun h=>h,⟨fun h=>h,trivial⟩⟩ rfl) (OkD.q (triAnd rfl rfl (fun h=>h) rfl) (OkD.nil (by kernel_rfl) ?_)))))
 refine Ok.cond (b:=(decide (s35 > 0)) && (Op.bytesLess x40.Event.toList x44.Event.toList || x40.Event.toList == x44.Event.toList)) rfl (fun h45=>?_) (fun h45=>?_)
 have hr:=selT h45 hr
 refine Ok.seq (Ok.region (OkOps.y (aI (IntKind.i64.wrap (met + 1))) (OkOps.y (aI (IntKind.i64.wrap (met + 1))) (OkOps.y (aI 10) (OkOps.nil (Ok.ret ?_))))))
 obtain rfl:=Option.some.inj hr
 exact ⟨_,rfl,.inl rfl,trivial⟩
 have hr:=selF h45 hr
 refine Ok.skip (Ok.seq (Ok.seq (Ok.region (OkOps.y (.c (.loc 1 1)) (OkOps.y (aS x40.Instance) (OkOps.y (aI (x40.Instance.size : Int)) (OkOps.y (aB (decide ((x40.Instance.size : Int) > 400))) (OkOps.y (aB (decide ((x40.Instance.size : Int) > 400))) (OkOps.q (triQG (x:=.c (.loc 1 3)) rfl rfl trivial rfl) (OkOps.q (triQG (x:=.c (.d (.sl (List.map AValue.cs x40.Args)))) rfl rfl ⟨fun h=>h,trivial⟩ rfl) (OkOps.q (triLenG (enc:=AValue.cs) x40.Args rfl rfl rfl ⟨fun h=>h,trivial⟩ rfl) (OkOps.q (triQG (x:=aB (decide ((x40.Args.length : Int) > 100))) rfl rfl ⟨fun h=>h,trivial⟩ rfl) ?_))))))))))))
 refine OkOps.q (triOr rfl rfl (fun h=>by rw [h];rfl) rfl) ?_
 refine OkOps.nil ?_
 refine Ok.cond (b:=(decide ((x40.Instance.size : Int) > 400)) || (decide ((x40.Args.length : Int) > 100))) rfl (fun h46=>?_) (fun h46=>?_)
 have hr:=selT h46 hr
 refine Ok.seq (Ok.region (OkOps.y (aI (IntKind.i64.wrap (met + 1))) (OkOps.y (aI (IntKind.i64.wrap (met + 1))) (OkOps.y (aI 2) (OkOps.nil (Ok.ret ?_))))))
 obtain rfl:=Option.some.inj hr
 exact ⟨_,rfl,.inl rfl,trivial⟩
 have hr:=selF h46 hr
 refine Ok.skip (Ok.seq (Ok.region (OkOps.y (aI 0) (OkOps.nil ?_))))
 obtain ⟨k48,hk48,hr⟩:=jn_some hr
 refine Ok.joinEnd (fun (s47 : Unit)=>⟨[(1,.s (aI depth)),(2,.s (aI (IntKind.i64.wrap (met + 1)))),(3,.s (.c (.loc 0 0))),(10,.s (aI s35))],[(0,.blk [cI v.Kind,cS v.Key,.d (.sl (List.map Attr.cs v.Attrs)),.d (.sl (List.map Action.cs v.Actions)),.d (.sl (List.map View.cs v.Kids))] 35)],0⟩) k48 r (fun s47 hr=>?_) ?_
 rw [hk48] at hr
 exact ⟨(),hr,(Conv.mk (tau []) ⟨⟨_,rfl,.inl rfl⟩,⟨_,rfl,.inl rfl⟩,⟨_,rfl,.inl rfl⟩,⟨_,rfl,.inl rfl⟩,trivial⟩ ⟨rfl,trivial⟩ rfl rfl rfl rfl)⟩
 clear hk48
 refine Ok.block (Ok.loopK (fun (s49 : Int)=>⟨[(1,.s (aI depth)),(2,.s (aI (IntKind.i64.wrap (met + 1)))),(3,.s (.c (.loc 0 0))),(10,.s (aI s35)),(11,.s (.c (.loc 1 0))),(12,.s (aI s49))],[(0,.blk [cI v.Kind,cS v.Key,.d (.sl (List.map Attr.cs v.Attrs)),.d (.sl (List.map Action.cs v.Actions)),.d (.sl (List.map View.cs v.Kids))] 35),(1,.blk [cS x40.Event,cS x40.Instance,cS x40.Handler,.d (.sl (List.map AValue.cs x40.Args))] 60)],0⟩) hr (Conv.mk (tau []) ⟨⟨_,rfl,.inl rfl⟩,⟨_,rfl,.inl rfl⟩,⟨_,rfl,.inl rfl⟩,⟨_,rfl,.inl rfl⟩,⟨_,rfl,.inl rfl⟩,⟨_,rfl,.inl rfl⟩,trivial⟩ ⟨rfl,rfl,trivial⟩ rfl rfl rfl rfl) ?_)
 clear hr
 intro again50 s49 hr
 unfold r14_validate_L4 at hr
 refine Ok.seq (Ok.seq (Ok.region (OkOps.y (aI s49) (OkOps.y (.c (.loc 1 3)) (OkOps.y (.c (.d (.sl (List.map AValue.cs x40.Args)))) (OkOps.q (triLen (enc:=AValue.cs) x40.Args rfl rfl trivial rfl) (OkOps.y (aB (decide (s49 < (x40.Args.length : Int)))) (OkOps.nil ?_))))))))
 refine Ok.cond (b:=decide (s49 < (x40.Args.length : Int))) rfl (fun h51=>?_) (fun h51=>?_)
 have hr:=selT h51 hr
 refine Ok.skip (Ok.seq (Ok.block (Ok.seq (Ok.region (OkOps.y (.c (.loc 1 3)) (OkOps.y (.c (.d (.sl (List.map AValue.cs x40.Args)))) (OkOps.y (aI s49) ?_)))))))
 obtain ⟨x52,hx52,hr⟩:=bind_some hr
 refine OkOps.q (triIdx (enc:=AValue.cs) (L:=x40.Args) (row:=[dI x52.Kind,dI x52.N,dS x52.S,.sl (List.map AValue.cs x52.L)]) hx52 (AValue.cs_eq _) rfl rfl rfl (fun x=>by rw [AValue.cs_eq];rfl) trivial rfl) ?_
 refine OkOps.y (.agg [cI x52.Kind,cI x52.N,cS x52.S,.d (.sl (List.map AValue.cs x52.L))]) ?_
 obtain ⟨x53,hx53,hr⟩:=bind_some hr
 refine OkOps.q (triCl (tau []) (.s (aI x53)) [] (r11_Check_c _ hx53) rfl ⟨.inl rfl,trivial⟩ trivial entry41 trivial) (OkOps.y (aI x53) (OkOps.nil (Ok.seq (Ok.region (OkOps.y (aI x53) (OkOps.y (aB (x53 != 0)) (OkOps.nil ?_)))))))
 refine Ok.cond (b:=x53 != 0) rfl (fun h54=>?_) (fun h54=>?_)
 have hr:=selT h54 hr
 refine Ok.seq (Ok.region (OkOps.y (aI (IntKind.i64.wrap (met + 1))) (OkOps.y (aI x53) (OkOps.y (aI (IntKind.i64.wrap (met + 1))) (OkOps.y (aI x53) (OkOps.nil (Ok.ret ?_)))))))
 obtain rfl:=Option.some.inj hr
 exact ⟨_,rfl,.inl rfl,trivial⟩
 have hr:=selF h54 hr
 refine Ok.skip (Ok.region (OkOps.y (aI s49) (OkOps.y (aI (IntKind.i64.wrap (s49 + 1))) (OkOps.y (aI (IntKind.i64.wrap (s49 + 1))) (OkOps.nil ?_)))))
 exact ⟨IntKind.i64.wrap (s49 + 1),hr,(Conv.mk (tau []) ⟨⟨_,rfl,.inl rfl⟩,⟨_,rfl,.inl rfl⟩,⟨_,rfl,.inl rfl⟩,⟨_,rfl,.inl rfl⟩,⟨_,rfl,.inl rfl⟩,⟨_,rfl,.inl rfl⟩,trivial⟩ ⟨rfl,rfl,trivial⟩ rfl rfl rfl rfl)⟩
 have hr:=selF h51 hr
 refine Ok.exit ?_
 exact ⟨(),hr,(Conv.mk (tau []) ⟨⟨_,rfl,.inl rfl⟩,⟨_,rfl,.inl rfl⟩,⟨_,rfl,.inl rfl⟩,⟨_,rfl,.inl rfl⟩,trivial⟩ ⟨rfl,trivial⟩ rfl rfl rfl rfl)⟩
 have hr:=selF h37 hr
 refine Ok.exit ?_
 exact ⟨(),hr,(Conv.mk (tau []) ⟨⟨_,rfl,.inl rfl⟩,⟨_,rfl,.inl rfl⟩,⟨_,rfl,.inl rfl⟩,trivial⟩ ⟨rfl,trivial⟩ rfl rfl rfl rfl)⟩
 clear hk8
 refine Ok.seq (Ok.region (OkOps.y (aI 0) (OkOps.nil (Ok.block (Ok.loopK (fun (s55 : Int)=>⟨[(1,.s (aI depth)),(2,.s (aI (IntKind.i64.wrap (met + 1)))),(3,.s (.c (.loc 0 0))),(8,.s (aI s55))],[(0,.blk [cI v.Kind,cS v.Key,.d (.sl (List.map Attr.cs v.Attrs)),.d (.sl (List.map Action.cs v.Actions)),.d (.sl (List.map View.cs v.Kids))] 35)],0⟩) hr (Conv.mk (tau []) ⟨⟨_,rfl,.inl rfl⟩,⟨_,rfl,.inl rfl⟩,⟨_,rfl,.inl rfl⟩,⟨_,rfl,.inl rfl⟩,trivial⟩ ⟨rfl,trivial⟩ rfl rfl rfl rfl) ?_)))))
 clear hr
 intro again56 s55 hr
 unfold r14_validate_L6 at hr
 refine Ok.seq (Ok.seq (Ok.region (OkOps.y (aI s55) (OkOps.y (.c (.loc 0 2)) (OkOps.y (.c (.d (.sl (List.map Attr.cs v.Attrs)))) (OkOps.q (triLen (enc:=Attr.cs) v.Attrs rfl rfl trivial rfl) (OkOps.y (aB (decide (s55 < (v.Attrs.length : Int)))) (OkOps.nil ?_))))))))
 refine Ok.cond (b:=decide (s55 < (v.Attrs.length : Int))) rfl (fun h57=>?_) (fun h57=>?_)
 have hr:=selT h57 hr
 refine Ok.skip (Ok.seq (Ok.block (Ok.seq (Ok.seq (Ok.region (OkOps.y (.c (.loc 0 2)) (OkOps.y (.c (.d (.sl (List.map Attr.cs v.Attrs)))) (OkOps.y (aI s55) ?_))))))))
 obtain ⟨x58,hx58,hr⟩:=bind_some hr
 refine OkOps.q (triIdx (enc:=Attr.cs) (L:=v.Attrs) (row:=[dS x58.Name,dI x58.Value.Kind,dI x58.Value.N,dS x58.Value.S,.sl (List.map AValue.cs x58.Value.L)]) hx58 rfl rfl rfl rfl (fun _=>rfl) trivial rfl) (OkOps.y (.c (.pt [dS x58.Name,dI x58.Value.Kind,dI x58.Value.N,dS x58.Value.S,.sl (List.map AValue.cs x58.Value.L)])) (OkOps.y (aS x58.Name) ?_))
 obtain ⟨x59,hx59,hr⟩:=bind_some hr
 refine OkOps.q (triCl (tau []) (.s (aB x59)) [] (r11_Name_c _ hx59) rfl ⟨.inl rfl,trivial⟩ trivial entry40 trivial) (OkOps.y (aB (!x59)) (OkOps.nil ?_))
 refine Ok.cond (b:=!x59) rfl (fun h60=>?_) (fun h60=>?_)
 have hr:=selT h60 hr
 refine Ok.seq (Ok.region (OkOps.y (aI (IntKind.i64.wrap (met + 1))) (OkOps.y (aI (IntKind.i64.wrap (met + 1))) (OkOps.y (aI 4) (OkOps.nil (Ok.ret ?_))))))
 obtain rfl:=Option.some.inj hr
 exact ⟨_,rfl,.inl rfl,trivial⟩
 have hr:=selF h60 hr
 refine Ok.skip (Ok.seq (Ok.seq (Ok.regionD (by kernel_rfl) (OkD.x (aI s55) rfl trivial rfl (OkD.x (aB (decide (s55 > 0))) rfl trivial rfl (OkD.x (aB (decide (s55 > 0))) rfl trivial rfl (OkD.q (triQG (x:=.c (.loc 0 2)) rfl rfl trivial rfl) (OkD.q (triQG (x:=.c (.d (.sl (List.map Attr.cs v.Attrs)))) rfl rfl ⟨fun h=>h,trivial⟩ rfl) (OkD.q (triQG (x:=aI s55) rfl rfl trivial rfl) ?_)))))))))
 obtain ⟨x61,hx61,hr⟩:=bind_some hr
 refine OkD.q (triIdxG (enc:=Attr.cs) (L:=v.Attrs) (row:=[dS x61.Name,dI x61.Value.Kind,dI x61.Value.N,dS x61.Value.S,.sl (List.map AValue.cs x61.Value.L)]) (gO_t hx61) rfl rfl rfl rfl rfl (fun _=>rfl) ⟨fun h=>h,⟨fun h=>h,trivial⟩⟩ rfl) (OkD.q (triQG (x:=.c (.pt [dS x61.Name,dI x61.Value.Kind,dI x61.Value.N,dS x61.Value.S,.sl (List.map AValue.cs x61.Value.L)])) rfl rfl ⟨fun h=>h,trivial⟩ rfl) (OkD.q (triQG (x:=aS x61.Name) rfl rfl ⟨fun h=>h,trivial⟩ rfl) (OkD.q (triQG (x:=.c (.loc 0 2)) rfl rfl trivial rfl) (OkD.q (triQG (x:=.c (.d (.sl (List.map Attr.cs v.Attrs)))) rfl rfl ⟨fun h=>h,trivial⟩ rfl) (OkD.q (triQG (x:=aI s55) rfl rfl trivial rfl) (OkD.q (triQG (x:=aI (IntKind.i64.wrap (s55 - 1))) rfl rfl ⟨fun h=>h,trivial⟩ rfl) ?_))))))
 obtain ⟨x62,hx62,hr⟩:=bind_some hr
 refine OkD.q (triIdxG (enc:=Attr.cs) (L:=v.Attrs) (row:=[dS x62.Name,dI x62.Value.Kind,dI x62.Value.N,dS x62.Value.S,.sl (List.map AValue.cs x62.Value.L)]) (gO_t hx62) rfl rfl rfl rfl rfl (fun _=>rfl) ⟨fun h=>h,⟨fun h=>h,trivial⟩⟩ rfl) (OkD.q (triQG (x:=.c (.pt [dS x62.Name,dI x62.Value.Kind,dI x62.Value.N,dS x62.Value.S,.sl (List.map AValue.cs x62.Value.L)])) rfl rfl ⟨fun h=>h,trivial⟩ rfl) (OkD.q (triQG (x:=aS x62.Name) rfl rfl ⟨fun h=>h,trivial⟩ rfl) (OkD.q (triQG (x:=aB (Op.bytesLess x61.Name.toList x62.Name.toList || x61.Name.toList == x62.Name.toList)) rfl rfl ⟨fun h=>h,⟨fun h=>h,trivial⟩⟩ rfl) (OkD.q (triAnd rfl rfl (fun h=>h) rfl) (OkD.nil (by kernel_rfl) ?_)))))
 refine Ok.cond (b:=(decide (s55 > 0)) && (Op.bytesLess x61.Name.toList x62.Name.toList || x61.Name.toList == x62.Name.toList)) rfl (fun h63=>?_) (fun h63=>?_)
 have hr:=selT h63 hr
 refine Ok.seq (Ok.region (OkOps.y (aI (IntKind.i64.wrap (met + 1))) (OkOps.y (aI (IntKind.i64.wrap (met + 1))) (OkOps.y (aI 10) (OkOps.nil (Ok.ret ?_))))))
 obtain rfl:=Option.some.inj hr
 exact ⟨_,rfl,.inl rfl,trivial⟩
 have hr:=selF h63 hr
 refine Ok.skip (Ok.seq (Ok.region (OkOps.y (.c (.loc 0 2)) (OkOps.y (.c (.d (.sl (List.map Attr.cs v.Attrs)))) (OkOps.y (aI s55) ?_)))))
 obtain ⟨x64,hx64,hr⟩:=bind_some hr
 refine OkOps.q (triIdx (enc:=Attr.cs) (L:=v.Attrs) (row:=[dS x64.Name,dI x64.Value.Kind,dI x64.Value.N,dS x64.Value.S,.sl (List.map AValue.cs x64.Value.L)]) hx64 rfl rfl rfl rfl (fun _=>rfl) trivial rfl) (OkOps.y (.c (.pt [dI x64.Value.Kind,dI x64.Value.N,dS x64.Value.S,.sl (List.map AValue.cs x64.Value.L)])) (OkOps.y (.agg [cI x64.Value.Kind,cI x64.Value.N,cS x64.Value.S,.d (.sl (List.map AValue.cs x64.Value.L))]) ?_))
 obtain ⟨x65,hx65,hr⟩:=bind_some hr
 refine OkOps.q (triCl (tau []) (.s (aI x65)) [] (r11_Check_c _ hx65) rfl ⟨.inl rfl,trivial⟩ trivial entry41 trivial) (OkOps.y (aI x65) (OkOps.nil (Ok.seq (Ok.region (OkOps.y (aI x65) (OkOps.y (aB (x65 != 0)) (OkOps.nil ?_)))))))
 refine Ok.cond (b:=x65 != 0) rfl (fun h66=>?_) (fun h66=>?_)
 have hr:=selT h66 hr
 refine Ok.seq (Ok.region (OkOps.y (aI (IntKind.i64.wrap (met + 1))) (OkOps.y (aI x65) (OkOps.y (aI (IntKind.i64.wrap (met + 1))) (OkOps.y (aI x65) (OkOps.nil (Ok.ret ?_)))))))
 obtain rfl:=Option.some.inj hr
 exact ⟨_,rfl,.inl rfl,trivial⟩
 have hr:=selF h66 hr
 refine Ok.skip (Ok.region (OkOps.y (aI s55) (OkOps.y (aI (IntKind.i64.wrap (s55 + 1))) (OkOps.y (aI (IntKind.i64.wrap (s55 + 1))) (OkOps.nil ?_)))))
 exact ⟨IntKind.i64.wrap (s55 + 1),hr,(Conv.mk (tau []) ⟨⟨_,rfl,.inl rfl⟩,⟨_,rfl,.inl rfl⟩,⟨_,rfl,.inl rfl⟩,⟨_,rfl,.inl rfl⟩,trivial⟩ ⟨rfl,trivial⟩ rfl rfl rfl rfl)⟩
 have hr:=selF h57 hr
 refine Ok.exit ?_
 exact ⟨(),hr,(Conv.mk (tau []) ⟨⟨_,rfl,.inl rfl⟩,⟨_,rfl,.inl rfl⟩,⟨_,rfl,.inl rfl⟩,trivial⟩ ⟨rfl,trivial⟩ rfl rfl rfl rfl)⟩
theorem r14_validate_all : ∀ n : Nat,(∀ (v : View) (depth : Int) (met : Int) {r : Int × Int},r14_validate n v depth met = some r → Con Tryz.prog 23 [.agg [cI v.Kind,cS v.Key,.d (.sl (List.map Attr.cs v.Attrs)),.d (.sl (List.map Action.cs v.Actions)),.d (.sl (List.map View.cs v.Kids))],aI depth,aI met] [] (.tup [aI r.1,aI r.2]) []) ∧ True:=by
 intro n
 induction n with
 | zero=>exact ⟨(by intros;rename_i hr;cases hr),trivial⟩
 | succ n ih=>exact ⟨(by intros;rename_i hr;exact r14_validate_B_c _ ih.1 _ _ _ hr),trivial⟩
theorem r14_validate_c (n : Nat) (v : View) (depth : Int) (met : Int) {r : Int × Int} (hr : r14_validate n v depth met = some r) : Con Tryz.prog 23 [.agg [cI v.Kind,cS v.Key,.d (.sl (List.map Attr.cs v.Attrs)),.d (.sl (List.map Action.cs v.Actions)),.d (.sl (List.map View.cs v.Kids))],aI depth,aI met] [] (.tup [aI r.1,aI r.2]) []:=(r14_validate_all n).1 v depth met hr
theorem r14_Validate_c (v : View) {r : Int} (hr : r14_Validate v = some r) : Con Tryz.prog 12 [.agg [cI v.Kind,cS v.Key,.d (.sl (List.map Attr.cs v.Attrs)),.d (.sl (List.map Action.cs v.Actions)),.d (.sl (List.map View.cs v.Kids))]] [] (.s (aI r)) []:=by
 unfold r14_Validate at hr
 refine Con.of_ok 11 0 [.tmp 2] [(0,.s (.agg [cI v.Kind,cS v.Key,.d (.sl (List.map Attr.cs v.Attrs)),.d (.sl (List.map Action.cs v.Actions)),.d (.sl (List.map View.cs v.Kids))]))] Tryz.func12 rfl rfl rfl rfl rfl rfl rfl rfl fun w g M ρ _=>(Ok.seq (Ok.region (OkOps.m 0 (triBox (j:=0) (cs:=[cI v.Kind,cS v.Key,.d (.sl (List.map Attr.cs v.Attrs)),.d (.sl (List.map Action.cs v.Actions)),.d (.sl (List.map View.cs v.Kids))]) rfl rfl rfl rfl rfl) (OkOps.y (aI 0) (OkOps.nil (Ok.seq (Ok.region (OkOps.y (.agg [cI v.Kind,cS v.Key,.d (.sl (List.map Attr.cs v.Attrs)),.d (.sl (List.map Action.cs v.Actions)),.d (.sl (List.map View.cs v.Kids))]) ?_))))))))
 obtain ⟨x1,hx1,hr⟩:=bind_some hr
 refine OkOps.q (triCl (tau []) (.tup [aI x1.1,aI x1.2]) [] (r14_validate_c _ _ _ _ hx1) rfl ⟨.inl rfl,.inl rfl,.inl rfl,trivial⟩ trivial entry23 trivial) (OkOps.q (triMv (v:=.tup [aI x1.1,aI x1.2]) rfl rfl) (OkOps.y (aI x1.1) (OkOps.y (aI x1.2) (OkOps.y (aI x1.1) (OkOps.y (aI x1.2) (OkOps.nil (Ok.seq (Ok.region (OkOps.y (aI x1.2) (OkOps.y (aI x1.2) (OkOps.nil (Ok.ret ?_))))))))))))
 obtain rfl:=Option.some.inj hr
 exact ⟨_,rfl,.inl rfl,trivial⟩
theorem entry12 : Entry Tryz.prog 12:=⟨_,Tryz.func12,by kernel_rfl,by kernel_rfl⟩
theorem r14_SameActions_c (a : (List Action)) (b : (List Action)) {r : Bool} (hr : r14_SameActions a b = some r) : Con Tryz.prog 28 [.c (.d (.sl (List.map Action.cs a))),.c (.d (.sl (List.map Action.cs b)))] [] (.s (aB r)) []:=by
 unfold r14_SameActions at hr
 refine Con.of_ok 68 0 [.tmp 4] [(0,.s (.c (.d (.sl (List.map Action.cs a))))),(1,.s (.c (.d (.sl (List.map Action.cs b)))))] Tryz.func28 rfl rfl rfl rfl rfl rfl rfl rfl fun w g M ρ _=>(Ok.seq (Ok.region (OkOps.y (aB false) (OkOps.nil (Ok.seq (Ok.seq (Ok.region (OkOps.y (.c (.d (.sl (List.map Action.cs a)))) (OkOps.q (triLen (enc:=Action.cs) a rfl rfl trivial rfl) (OkOps.y (.c (.d (.sl (List.map Action.cs b)))) (OkOps.q (triLen (enc:=Action.cs) b rfl rfl trivial rfl) (OkOps.y (aB ((a.length : Int) != (b.length : Int))) (OkOps.nil ?_)))))))))))))
 refine Ok.cond (b:=(a.length : Int) != (b.length : Int)) rfl (fun h1=>?_) (fun h1=>?_)
 have hr:=selT h1 hr
 refine Ok.seq (Ok.region (OkOps.y (aB false) (OkOps.nil (Ok.ret ?_))))
 obtain rfl:=Option.some.inj hr
 exact ⟨_,rfl,.inl rfl,trivial⟩
 have hr:=selF h1 hr
 refine Ok.skip ?_
 obtain ⟨k3,hk3,hr⟩:=jn_some hr
 refine Ok.join (fun (s2 : Unit)=>⟨[],[],0⟩) k3 r (fun s2 hr=>?_) ?_
 rw [hk3] at hr
 refine Ok.seq (Ok.region (OkOps.y (aB true) (OkOps.nil (Ok.ret ?_))))
 obtain rfl:=Option.some.inj hr
 exact ⟨_,rfl,.inl rfl,trivial⟩
 clear hk3
 refine Ok.seq (Ok.region (OkOps.y (aI 0) (OkOps.nil (Ok.block (Ok.loopK (fun (s4 : Int)=>⟨[(0,.s (.c (.d (.sl (List.map Action.cs a))))),(1,.s (.c (.d (.sl (List.map Action.cs b))))),(5,.s (aI s4))],[],0⟩) hr (Conv.mk (tau []) ⟨⟨_,rfl,.inl rfl⟩,⟨_,rfl,.inl rfl⟩,⟨_,rfl,.inl rfl⟩,trivial⟩ trivial rfl rfl rfl rfl) ?_)))))
 clear hr
 intro again5 s4 hr
 unfold r14_SameActions_L1 at hr
 refine Ok.seq (Ok.seq (Ok.region (OkOps.y (aI s4) (OkOps.y (.c (.d (.sl (List.map Action.cs a)))) (OkOps.q (triLen (enc:=Action.cs) a rfl rfl trivial rfl) (OkOps.y (aB (decide (s4 < (a.length : Int)))) (OkOps.nil ?_)))))))
 refine Ok.cond (b:=decide (s4 < (a.length : Int))) rfl (fun h6=>?_) (fun h6=>?_)
 have hr:=selT h6 hr
 refine Ok.skip (Ok.seq (Ok.block (Ok.seq (Ok.regionD (by kernel_rfl) (OkD.x (.c (.d (.sl (List.map Action.cs a)))) rfl trivial rfl (OkD.x (aI s4) rfl trivial rfl ?_))))))
 obtain ⟨x7,hx7,hr⟩:=bind_some hr
 refine OkD.q (triIdx (enc:=Action.cs) (L:=a) (row:=[dS x7.Event,dS x7.Instance,dS x7.Handler,.sl (List.map AValue.cs x7.Args)]) hx7 rfl rfl rfl rfl (fun _=>rfl) trivial rfl) (OkD.x (.c (.pt [dS x7.Event,dS x7.Instance,dS x7.Handler,.sl (List.map AValue.cs x7.Args)])) rfl trivial rfl (OkD.x (aS x7.Event) rfl trivial rfl (OkD.x (.c (.d (.sl (List.map Action.cs b)))) rfl trivial rfl (OkD.x (aI s4) rfl trivial rfl ?_))))
 obtain ⟨x8,hx8,hr⟩:=bind_some hr
 refine OkD.q (triIdx (enc:=Action.cs) (L:=b) (row:=[dS x8.Event,dS x8.Instance,dS x8.Handler,.sl (List.map AValue.cs x8.Args)]) hx8 rfl rfl rfl rfl (fun _=>rfl) trivial rfl) (OkD.x (.c (.pt [dS x8.Event,dS x8.Instance,dS x8.Handler,.sl (List.map AValue.cs x8.Args)])) rfl trivial rfl (OkD.x (aS x8.Event) rfl trivial rfl (OkD.x (aB (!(x7.Event.toList == x8.Event.toList))) rfl trivial rfl (OkD.x (aB (!(x7.Event.toList == x8.Event.toList))) rfl trivial rfl (OkD.q (triQG (x:=.c (.d (.sl (List.map Action.cs a)))) rfl rfl trivial rfl) (OkD.q (triQG (x:=aI s4) rfl rfl trivial rfl) ?_))))))
 obtain ⟨x9,hx9,hr⟩:=bind_some hr
 refine OkD.q (triIdxG (enc:=Action.cs) (L:=a) (row:=[dS x9.Event,dS x9.Instance,dS x9.Handler,.sl (List.map AValue.cs x9.Args)]) (gO_t hx9) rfl rfl rfl rfl rfl (fun _=>rfl) ⟨fun h=>h,⟨fun h=>h,trivial⟩⟩ rfl) (OkD.q (triQG (x:=.c (.pt [dS x9.Instance,dS x9.Handler,.sl (List.map AValue.cs x9.Args)])) rfl rfl ⟨fun h=>h,trivial⟩ rfl) (OkD.q (triQG (x:=aS x9.Instance) rfl rfl ⟨fun h=>h,trivial⟩ rfl) (OkD.q (triQG (x:=.c (.d (.sl (List.map Action.cs b)))) rfl rfl trivial rfl) (OkD.q (triQG (x:=aI s4) rfl rfl trivial rfl) ?_))))
 obtain ⟨x10,hx10,hr⟩:=bind_some hr
 refine OkD.q (triIdxG (enc:=Action.cs) (L:=b) (row:=[dS x10.Event,dS x10.Instance,dS x10.Handler,.sl (List.map AValue.cs x10.Args)]) (gO_t hx10) rfl rfl rfl rfl rfl (fun _=>rfl) ⟨fun h=>h,⟨fun h=>h,trivial⟩⟩ rfl) (OkD.q (triQG (x:=.c (.pt [dS x10.Instance,dS x10.Handler,.sl (List.map AValue.cs x10.Args)])) rfl rfl ⟨fun h=>h,trivial⟩ rfl) (OkD.q (triQG (x:=aS x10.Instance) rfl rfl ⟨fun h=>h,trivial⟩ rfl) (OkD.q (triQG (x:=aB (!(x9.Instance.toList == x10.Instance.toList))) rfl rfl ⟨fun h=>h,⟨fun h=>h,trivial⟩⟩ rfl) ?_)))
 refine OkD.q (triOr rfl rfl (fun h=>by rw [h];rfl) rfl) ?_
 refine OkD.x (aB ((!(x7.Event.toList == x8.Event.toList)) || (!(x9.Instance.toList == x10.Instance.toList)))) rfl trivial rfl (OkD.q (triQG (x:=.c (.d (.sl (List.map Action.cs a)))) rfl rfl trivial rfl) (OkD.q (triQG (x:=aI s4) rfl rfl trivial rfl) ?_))
 obtain ⟨x11,hx11,hr⟩:=bind_some hr
 refine OkD.q (triIdxG (enc:=Action.cs) (L:=a) (row:=[dS x11.Event,dS x11.Instance,dS x11.Handler,.sl (List.map AValue.cs x11.Args)]) (gO_t hx11) rfl rfl rfl rfl rfl (fun _=>rfl) ⟨fun h=>h,⟨fun h=>h,trivial⟩⟩ rfl) (OkD.q (triQG (x:=.c (.pt [dS x11.Handler,.sl (List.map AValue.cs x11.Args)])) rfl rfl ⟨fun h=>h,trivial⟩ rfl) (OkD.q (triQG (x:=aS x11.Handler) rfl rfl ⟨fun h=>h,trivial⟩ rfl) (OkD.q (triQG (x:=.c (.d (.sl (List.map Action.cs b)))) rfl rfl trivial rfl) (OkD.q (triQG (x:=aI s4) rfl rfl trivial rfl) ?_))))
 obtain ⟨x12,hx12,hr⟩:=bind_some hr
 refine OkD.q (triIdxG (enc:=Action.cs) (L:=b) (row:=[dS x12.Event,dS x12.Instance,dS x12.Handler,.sl (List.map AValue.cs x12.Args)]) (gO_t hx12) rfl rfl rfl rfl rfl (fun _=>rfl) ⟨fun h=>h,⟨fun h=>h,trivial⟩⟩ rfl) (OkD.q (triQG (x:=.c (.pt [dS x12.Handler,.sl (List.map AValue.cs x12.Args)])) rfl rfl ⟨fun h=>h,trivial⟩ rfl) (OkD.q (triQG (x:=aS x12.Handler) rfl rfl ⟨fun h=>h,trivial⟩ rfl) (OkD.q (triQG (x:=aB (!(x11.Handler.toList == x12.Handler.toList))) rfl rfl ⟨fun h=>h,⟨fun h=>h,trivial⟩⟩ rfl) ?_)))
 refine OkD.q (triOr rfl rfl (fun h=>by rw [h];rfl) rfl) ?_
 refine OkD.x (aB (((!(x7.Event.toList == x8.Event.toList)) || (!(x9.Instance.toList == x10.Instance.toList))) || (!(x11.Handler.toList == x12.Handler.toList)))) rfl trivial rfl (OkD.q (triQG (x:=.c (.d (.sl (List.map Action.cs a)))) rfl rfl trivial rfl) (OkD.q (triQG (x:=aI s4) rfl rfl trivial rfl) ?_))
 obtain ⟨x13,hx13,hr⟩:=bind_some hr
 refine OkD.q (triIdxG (enc:=Action.cs) (L:=a) (row:=[dS x13.Event,dS x13.Instance,dS x13.Handler,.sl (List.map AValue.cs x13.Args)]) (gO_t hx13) rfl rfl rfl rfl rfl (fun _=>rfl) ⟨fun h=>h,⟨fun h=>h,trivial⟩⟩ rfl) (OkD.q (triQG (x:=.c (.pt [.sl (List.map AValue.cs x13.Args)])) rfl rfl ⟨fun h=>h,trivial⟩ rfl) (OkD.q (triQG (x:=.c (.d (.sl (List.map AValue.cs x13.Args)))) rfl rfl ⟨fun h=>h,trivial⟩ rfl) (OkD.q (triQG (x:=.c (.d (.sl (List.map Action.cs b)))) rfl rfl trivial rfl) (OkD.q (triQG (x:=aI s4) rfl rfl trivial rfl) ?_))))
 obtain ⟨x14,hx14,hr⟩:=bind_some hr
 refine OkD.q (triIdxG (enc:=Action.cs) (L:=b) (row:=[dS x14.Event,dS x14.Instance,dS x14.Handler,.sl (List.map AValue.cs x14.Args)]) (gO_t hx14) rfl rfl rfl rfl rfl (fun _=>rfl) ⟨fun h=>h,⟨fun h=>h,trivial⟩⟩ rfl) (OkD.q (triQG (x:=.c (.pt [.sl (List.map AValue.cs x14.Args)])) rfl rfl ⟨fun h=>h,trivial⟩ rfl) (OkD.q (triQG (x:=.c (.d (.sl (List.map AValue.cs x14.Args)))) rfl rfl ⟨fun h=>h,trivial⟩ rfl) ?_))
 obtain ⟨x15,hx15,hr⟩:=bind_some hr
 refine OkD.q (triCallG (x:=aB x15) (fun hg=>r11_SameValues_c _ _ _ (gO_t hx15 hg)) rfl rfl ⟨.inl rfl,.inl rfl,trivial⟩ ⟨fun h=>h,⟨fun h=>h,trivial⟩⟩ entry55 rfl rfl rfl) (OkD.q (triQG (x:=aB (!x15)) rfl rfl ⟨fun h=>h,trivial⟩ rfl) ?_)
 refine OkD.q (triOr rfl rfl (fun h=>by rw [h];rfl) rfl) ?_
 refine OkD.nil (by kernel_rfl) ?_
 refine Ok.cond (b:=(((!(x7.Event.toList == x8.Event.toList)) || (!(x9.Instance.toList == x10.Instance.toList))) || (!(x11.Handler.toList == x12.Handler.toList))) || (!x15)) rfl (fun h16=>?_) (fun h16=>?_)
 have hr:=selT h16 hr
 refine Ok.seq (Ok.region (OkOps.y (aB false) (OkOps.nil (Ok.ret ?_))))
 obtain rfl:=Option.some.inj hr
 exact ⟨_,rfl,.inl rfl,trivial⟩
 have hr:=selF h16 hr
 refine Ok.skip (Ok.region (OkOps.y (aI s4) (OkOps.y (aI (IntKind.i64.wrap (s4 + 1))) (OkOps.y (aI (IntKind.i64.wrap (s4 + 1))) (OkOps.nil ?_)))))
 exact ⟨IntKind.i64.wrap (s4 + 1),hr,(Conv.mk (tau []) ⟨⟨_,rfl,.inl rfl⟩,⟨_,rfl,.inl rfl⟩,⟨_,rfl,.inl rfl⟩,trivial⟩ trivial rfl rfl rfl rfl)⟩
 have hr:=selF h6 hr
 refine Ok.exit ?_
 exact ⟨(),hr,(Conv.mk (tau []) trivial trivial rfl rfl rfl rfl)⟩
theorem entry28 : Entry Tryz.prog 28:=⟨_,Tryz.func28,by kernel_rfl,by kernel_rfl⟩
theorem r14_Index_c (t : Tree) (id : Int) {r : Int} (hr : r14_Index t id = some r) : Con Tryz.prog 53 [.agg [cI t.Root,cI t.Next,.d (.sl (List.map Node.cs t.Nodes))],aI id] [] (.s (aI r)) []:=by
 unfold r14_Index at hr
 refine Con.of_ok 22 0 [.tmp 4] [(0,.s (.agg [cI t.Root,cI t.Next,.d (.sl (List.map Node.cs t.Nodes))])),(1,.s (aI id))] Tryz.func53 rfl rfl rfl rfl rfl rfl rfl rfl fun w g M ρ _=>(Ok.seq (Ok.region (OkOps.m 0 (triBox (j:=0) (cs:=[cI t.Root,cI t.Next,.d (.sl (List.map Node.cs t.Nodes))]) rfl rfl rfl rfl rfl) (OkOps.y (aI 0) (OkOps.nil ?_)))))
 obtain ⟨k2,hk2,hr⟩:=jn_some hr
 refine Ok.join (fun (s1 : Unit)=>⟨[],[],0⟩) k2 r (fun s1 hr=>?_) ?_
 rw [hk2] at hr
 refine Ok.seq (Ok.region (OkOps.y (aI (-1)) (OkOps.nil (Ok.ret ?_))))
 obtain rfl:=Option.some.inj hr
 exact ⟨_,rfl,.inl rfl,trivial⟩
 clear hk2
 refine Ok.seq (Ok.region (OkOps.y (aI 0) (OkOps.nil (Ok.block (Ok.loopK (fun (s3 : Int)=>⟨[(1,.s (aI id)),(2,.s (.c (.loc 0 0))),(5,.s (aI s3))],[(0,.blk [cI t.Root,cI t.Next,.d (.sl (List.map Node.cs t.Nodes))] 27)],0⟩) hr (Conv.mk (tau []) ⟨⟨_,rfl,.inl rfl⟩,⟨_,rfl,.inl rfl⟩,⟨_,rfl,.inl rfl⟩,trivial⟩ ⟨rfl,trivial⟩ rfl rfl rfl rfl) ?_)))))
 clear hr
 intro again4 s3 hr
 unfold r14_Index_L1 at hr
 refine Ok.seq (Ok.seq (Ok.region (OkOps.y (aI s3) (OkOps.y (.c (.loc 0 2)) (OkOps.y (.c (.d (.sl (List.map Node.cs t.Nodes)))) (OkOps.q (triLen (enc:=Node.cs) t.Nodes rfl rfl trivial rfl) (OkOps.y (aB (decide (s3 < (t.Nodes.length : Int)))) (OkOps.nil ?_))))))))
 refine Ok.cond (b:=decide (s3 < (t.Nodes.length : Int))) rfl (fun h5=>?_) (fun h5=>?_)
 have hr:=selT h5 hr
 refine Ok.skip (Ok.seq (Ok.block (Ok.seq (Ok.region (OkOps.y (.c (.loc 0 2)) (OkOps.y (.c (.d (.sl (List.map Node.cs t.Nodes)))) (OkOps.y (aI s3) ?_)))))))
 obtain ⟨x6,hx6,hr⟩:=bind_some hr
 refine OkOps.q (triIdx (enc:=Node.cs) (L:=t.Nodes) (row:=[dI x6.ID,dI x6.Parent,dI x6.Kind,dS x6.Key,.sl (List.map Attr.cs x6.Attrs),.sl (List.map Action.cs x6.Actions),.sl (List.map (eInt .i64) x6.Kids)]) hx6 rfl rfl rfl rfl (fun _=>rfl) trivial rfl) (OkOps.y (.c (.pt [dI x6.ID,dI x6.Parent,dI x6.Kind,dS x6.Key,.sl (List.map Attr.cs x6.Attrs),.sl (List.map Action.cs x6.Actions),.sl (List.map (eInt .i64) x6.Kids)])) (OkOps.y (aI x6.ID) (OkOps.y (aI id) (OkOps.y (aB (x6.ID == id)) (OkOps.nil ?_)))))
 refine Ok.cond (b:=x6.ID == id) rfl (fun h7=>?_) (fun h7=>?_)
 have hr:=selT h7 hr
 refine Ok.seq (Ok.region (OkOps.y (aI s3) (OkOps.y (aI s3) (OkOps.nil (Ok.ret ?_)))))
 obtain rfl:=Option.some.inj hr
 exact ⟨_,rfl,.inl rfl,trivial⟩
 have hr:=selF h7 hr
 refine Ok.skip (Ok.region (OkOps.y (aI s3) (OkOps.y (aI (IntKind.i64.wrap (s3 + 1))) (OkOps.y (aI (IntKind.i64.wrap (s3 + 1))) (OkOps.nil ?_)))))
 exact ⟨IntKind.i64.wrap (s3 + 1),hr,(Conv.mk (tau []) ⟨⟨_,rfl,.inl rfl⟩,⟨_,rfl,.inl rfl⟩,⟨_,rfl,.inl rfl⟩,trivial⟩ ⟨rfl,trivial⟩ rfl rfl rfl rfl)⟩
 have hr:=selF h5 hr
 refine Ok.exit ?_
 exact ⟨(),hr,(Conv.mk (tau []) trivial trivial rfl rfl rfl rfl)⟩
theorem entry53 : Entry Tryz.prog 53:=⟨_,Tryz.func53,by kernel_rfl,by kernel_rfl⟩
theorem r14_Node_c (t : Tree) (id : Int) {r : Node} (hr : r14_Node t id = some r) : Con Tryz.prog 62 [.agg [cI t.Root,cI t.Next,.d (.sl (List.map Node.cs t.Nodes))],aI id] [] (.s (.agg [cI r.ID,cI r.Parent,cI r.Kind,cS r.Key,.d (.sl (List.map Attr.cs r.Attrs)),.d (.sl (List.map Action.cs r.Actions)),.d (.sl (List.map (eInt .i64) r.Kids))])) []:=by
 unfold r14_Node at hr
 refine Con.of_ok 17 0 [.cell 4 39] [(0,.s (.agg [cI t.Root,cI t.Next,.d (.sl (List.map Node.cs t.Nodes))])),(1,.s (aI id))] Tryz.func62 rfl rfl rfl rfl rfl rfl rfl rfl fun w g M ρ _=>(Ok.seq (Ok.region (OkOps.m 0 (triBox (j:=0) (cs:=[cI t.Root,cI t.Next,.d (.sl (List.map Node.cs t.Nodes))]) rfl rfl rfl rfl rfl) (OkOps.m 0 (triAlloc (j:=1) (cs:=[cI 0,cI 0,cI 0,cS ByteArray.empty,.d (.v (.slice none 0 0)),.d (.v (.slice none 0 0)),.d (.v (.slice none 0 0))]) rfl rfl rfl rfl) (OkOps.nil (Ok.seq (Ok.region (OkOps.y (.agg [cI t.Root,cI t.Next,.d (.sl (List.map Node.cs t.Nodes))]) (OkOps.y (aI id) ?_)))))))))
 obtain ⟨x1,hx1,hr⟩:=bind_some hr
 refine OkOps.q (triCl (tau []) (.s (aI x1)) [] (r14_Index_c _ _ hx1) rfl ⟨.inl rfl,.inl rfl,trivial⟩ trivial entry53 trivial) (OkOps.y (aI x1) (OkOps.nil (Ok.seq (Ok.seq (Ok.region (OkOps.y (aI x1) (OkOps.y (aB (decide (x1 < 0))) (OkOps.nil ?_))))))))
 refine Ok.cond (b:=decide (x1 < 0)) rfl (fun h2=>?_) (fun h2=>?_)
 have hr:=selT h2 hr
 refine Ok.seq (Ok.region (OkOps.y (.agg [cI 0,cI 0,cI 0,cS ByteArray.empty,.d (.v (.slice none 0 0)),.d (.v (.slice none 0 0)),.d (.v (.slice none 0 0))]) (OkOps.w (triStore (cs':=[cI 0,cI 0,cI 0,cS ByteArray.empty,.d (.v (.slice none 0 0)),.d (.v (.slice none 0 0)),.d (.v (.slice none 0 0))]) rfl rfl rfl rfl rfl rfl rfl rfl rfl) (OkOps.nil (Ok.ret ?_)))))
 obtain rfl:=Option.some.inj hr
 exact ⟨_,rfl,.inr rfl,trivial⟩
 have hr:=selF h2 hr
 refine Ok.skip (Ok.seq (Ok.region (OkOps.y (.c (.loc 0 2)) (OkOps.y (.c (.d (.sl (List.map Node.cs t.Nodes)))) (OkOps.y (aI x1) ?_)))))
 obtain ⟨x3,hx3,hr⟩:=bind_some hr
 refine OkOps.q (triIdx (enc:=Node.cs) (L:=t.Nodes) (row:=[dI x3.ID,dI x3.Parent,dI x3.Kind,dS x3.Key,.sl (List.map Attr.cs x3.Attrs),.sl (List.map Action.cs x3.Actions),.sl (List.map (eInt .i64) x3.Kids)]) hx3 rfl rfl rfl rfl (fun _=>rfl) trivial rfl) (OkOps.y (.agg [cI x3.ID,cI x3.Parent,cI x3.Kind,cS x3.Key,.d (.sl (List.map Attr.cs x3.Attrs)),.d (.sl (List.map Action.cs x3.Actions)),.d (.sl (List.map (eInt .i64) x3.Kids))]) (OkOps.w (triStore (cs':=[cI x3.ID,cI x3.Parent,cI x3.Kind,cS x3.Key,.d (.sl (List.map Attr.cs x3.Attrs)),.d (.sl (List.map Action.cs x3.Actions)),.d (.sl (List.map (eInt .i64) x3.Kids))]) rfl rfl rfl rfl rfl rfl rfl rfl rfl) (OkOps.nil (Ok.ret ?_))))
 obtain rfl:=Option.some.inj hr
 exact ⟨_,rfl,.inl rfl,trivial⟩
theorem entry62 : Entry Tryz.prog 62:=⟨_,Tryz.func62,by kernel_rfl,by kernel_rfl⟩
theorem entry81 : Entry Tryz.prog 81:=⟨_,Tryz.func81,by kernel_rfl,by kernel_rfl⟩
theorem r14_order_B_c (self0 : Tree → Int → (List Int) → Option (List Int)) (hself0 : ∀ (t : Tree) (id : Int) (l : (List Int)) {r : (List Int)},self0 t id l = some r → Con Tryz.prog 81 [.agg [cI t.Root,cI t.Next,.d (.sl (List.map Node.cs t.Nodes))],aI id,.c (.tl 0 (List.map (eInt .i64) l))] [(0,.tail 1)] (.s (.c (.tl 2000 (List.map (eInt .i64) r)))) [(0,.dead),(2000,.tail 1)]) (t : Tree) (id : Int) (l : (List Int)) {r : (List Int)} (hr : r14_order_B self0 t id l = some r) : Con Tryz.prog 81 [.agg [cI t.Root,cI t.Next,.d (.sl (List.map Node.cs t.Nodes))],aI id,.c (.tl 0 (List.map (eInt .i64) l))] [(0,.tail 1)] (.s (.c (.tl 2000 (List.map (eInt .i64) r)))) [(0,.dead),(2000,.tail 1)]:=by
 unfold r14_order_B at hr
 refine Con.of_ok 32 0 [.tmp 6] [(0,.s (.agg [cI t.Root,cI t.Next,.d (.sl (List.map Node.cs t.Nodes))])),(1,.s (aI id)),(2,.s (.c (.tl 0 (List.map (eInt .i64) l))))] Tryz.func81 rfl rfl rfl rfl rfl rfl rfl rfl fun w g M ρ _=>(Ok.seq (Ok.region (OkOps.m 0 (triBox (j:=1) (cs:=[cI t.Root,cI t.Next,.d (.sl (List.map Node.cs t.Nodes))]) rfl rfl rfl rfl rfl) (OkOps.y (.c (.d (.v (.slice none 0 0)))) (OkOps.nil (Ok.seq (Ok.region (OkOps.y (.c (.tl 0 (List.map (eInt .i64) l))) (OkOps.y (aI id) (OkOps.m 0 (triBST (sz:=1) (enc:=(eInt .i64)) (j:=2) ([id]) rfl rfl rfl rfl rfl rfl rfl rfl (fun _=>rfl) trivial rfl rfl) ?_))))))))))
 obtain ⟨x1,hx1,hr⟩:=bind_some hr
 refine OkOps.m2 0 (triApp (enc:=(eInt .i64)) (L:=l) (X:=[id]) (j:=0) (j':=3) hx1 rfl rfl rfl rfl rfl rfl (fun _=>rfl) (fun _=>rfl) (by decide) trivial rfl rfl) (OkOps.y (.c (.tl 3 (List.map (eInt .i64) x1))) (OkOps.nil (Ok.seq (Ok.region (OkOps.y (.agg [cI t.Root,cI t.Next,.d (.sl (List.map Node.cs t.Nodes))]) (OkOps.y (aI id) ?_))))))
 obtain ⟨x2,hx2,hr⟩:=bind_some hr
 refine OkOps.q (triCl (tau []) (.s (.agg [cI x2.ID,cI x2.Parent,cI x2.Kind,cS x2.Key,.d (.sl (List.map Attr.cs x2.Attrs)),.d (.sl (List.map Action.cs x2.Actions)),.d (.sl (List.map (eInt .i64) x2.Kids))])) [] (r14_Node_c _ _ hx2) rfl ⟨.inl rfl,.inl rfl,trivial⟩ trivial entry62 trivial) (OkOps.m 0 (triAlloc (j:=4) (cs:=[cI 0,cI 0,cI 0,cS ByteArray.empty,.d (.v (.slice none 0 0)),.d (.v (.slice none 0 0)),.d (.v (.slice none 0 0))]) rfl rfl rfl rfl) (OkOps.w (triStore (cs':=[cI x2.ID,cI x2.Parent,cI x2.Kind,cS x2.Key,.d (.sl (List.map Attr.cs x2.Attrs)),.d (.sl (List.map Action.cs x2.Actions)),.d (.sl (List.map (eInt .i64) x2.Kids))]) rfl rfl rfl rfl rfl rfl rfl rfl rfl) (OkOps.nil ?_)))
 obtain ⟨k4,hk4,hr⟩:=jn_some hr
 refine Ok.join (fun (s3 : (List Int))=>⟨[(2,.s (.c (.tl 1003 (List.map (eInt .i64) s3))))],[(0,.dead),(1003,.tail 1)],0⟩) k4 r (fun s3 hr=>?_) ?_
 rw [hk4] at hr
 refine Ok.seq (Ok.region (OkOps.y (.c (.tl 1003 (List.map (eInt .i64) s3))) (OkOps.y (.c (.tl 1003 (List.map (eInt .i64) s3))) (OkOps.nil (Ok.conv (T:=⟨[(6,.s (.c (.tl 2000 (List.map (eInt .i64) s3))))],[(0,.dead),(2000,.tail 1)],0⟩) (Conv.mk (tau [(2000,1003)]) ⟨⟨_,rfl,.inl rfl⟩,trivial⟩ ⟨rfl,trivial⟩ rfl rfl rfl rfl) (Ok.ret ?_))))))
 obtain rfl:=Option.some.inj hr
 exact ⟨_,rfl,.inl rfl,⟨(fun h=>by cases h),rfl,trivial⟩⟩
 clear hk4
 refine Ok.seq (Ok.region (OkOps.y (aI 0) (OkOps.nil (Ok.block (Ok.loopK (fun (s5 : (List Int) × Int)=>⟨[(2,.s (.c (.tl 1005 (List.map (eInt .i64) s5.1)))),(3,.s (.c (.loc 1 0))),(7,.s (.c (.loc 4 0))),(8,.s (aI s5.2))],[(0,.dead),(1,.blk [cI t.Root,cI t.Next,.d (.sl (List.map Node.cs t.Nodes))] 27),(4,.blk [cI x2.ID,cI x2.Parent,cI x2.Kind,cS x2.Key,.d (.sl (List.map Attr.cs x2.Attrs)),.d (.sl (List.map Action.cs x2.Actions)),.d (.sl (List.map (eInt .i64) x2.Kids))] 39),(1005,.tail 1)],0⟩) hr (Conv.mk (tau [(1005,3)]) ⟨⟨_,rfl,.inl rfl⟩,⟨_,rfl,.inl rfl⟩,⟨_,rfl,.inl rfl⟩,⟨_,rfl,.inl rfl⟩,trivial⟩ ⟨rfl,rfl,rfl,trivial⟩ rfl rfl rfl rfl) ?_)))))
 clear hr
 intro again6 s5 hr
 unfold r14_order_L1 at hr
 refine Ok.seq (Ok.seq (Ok.region (OkOps.y (aI s5.2) (OkOps.y (.c (.loc 4 6)) (OkOps.y (.c (.d (.sl (List.map (eInt .i64) x2.Kids)))) (OkOps.q (triLen (enc:=(eInt .i64)) x2.Kids rfl rfl trivial rfl) (OkOps.y (aB (decide (s5.2 < (x2.Kids.length : Int)))) (OkOps.nil ?_))))))))
 refine Ok.cond (b:=decide (s5.2 < (x2.Kids.length : Int))) rfl (fun h7=>?_) (fun h7=>?_)
 have hr:=selT h7 hr
 refine Ok.skip (Ok.seq (Ok.block (Ok.regionD (by kernel_rfl) (OkD.x (.agg [cI t.Root,cI t.Next,.d (.sl (List.map Node.cs t.Nodes))]) rfl trivial rfl (OkD.x (.c (.loc 4 6)) rfl trivial rfl (OkD.x (.c (.d (.sl (List.map (eInt .i64) x2.Kids)))) rfl trivial rfl (OkD.x (aI s5.2) rfl trivial rfl ?_)))))))
 obtain ⟨x8,hx8,hr⟩:=bind_some hr
 refine OkD.q (triIdx (enc:=(eInt .i64)) (L:=x2.Kids) (row:=[dI x8]) hx8 rfl rfl rfl rfl (fun _=>rfl) trivial rfl) (OkD.x (aI x8) rfl trivial rfl (OkD.x (.c (.tl 1005 (List.map (eInt .i64) s5.1))) rfl trivial rfl ?_))
 obtain ⟨x9,hx9,hr⟩:=bind_some hr
 refine OkD.m2 0 (triCall (tau [(0,1005),(2000,5)]) (.s (.c (.tl 5 (List.map (eInt .i64) x9)))) [(1005,.dead),(5,.tail 1)] (hself0 _ _ _ hx9) rfl ⟨.inl rfl,.inl rfl,.inl rfl,trivial⟩ trivial entry81 ⟨rfl,trivial⟩ rfl rfl rfl rfl ⟨rfl,trivial⟩ rfl rfl rfl) (OkD.x (.c (.tl 5 (List.map (eInt .i64) x9))) rfl trivial rfl (OkD.nil (by kernel_rfl) (Ok.region (OkOps.y (aI s5.2) (OkOps.y (aI (IntKind.i64.wrap (s5.2 + 1))) (OkOps.y (aI (IntKind.i64.wrap (s5.2 + 1))) (OkOps.nil ?_)))))))
 exact ⟨(x9,IntKind.i64.wrap (s5.2 + 1)),hr,(Conv.mk (tau [(1005,5)]) ⟨⟨_,rfl,.inl rfl⟩,⟨_,rfl,.inl rfl⟩,⟨_,rfl,.inl rfl⟩,⟨_,rfl,.inl rfl⟩,trivial⟩ ⟨rfl,rfl,rfl,trivial⟩ rfl rfl rfl rfl)⟩
 have hr:=selF h7 hr
 refine Ok.exit ?_
 exact ⟨s5.1,hr,(Conv.mk (tau [(1003,1005)]) ⟨⟨_,rfl,.inl rfl⟩,trivial⟩ ⟨rfl,trivial⟩ rfl rfl rfl rfl)⟩
theorem r14_order_all : ∀ n : Nat,(∀ (t : Tree) (id : Int) (l : (List Int)) {r : (List Int)},r14_order n t id l = some r → Con Tryz.prog 81 [.agg [cI t.Root,cI t.Next,.d (.sl (List.map Node.cs t.Nodes))],aI id,.c (.tl 0 (List.map (eInt .i64) l))] [(0,.tail 1)] (.s (.c (.tl 2000 (List.map (eInt .i64) r)))) [(0,.dead),(2000,.tail 1)]) ∧ True:=by
 intro n
 induction n with
 | zero=>exact ⟨(by intros;rename_i hr;cases hr),trivial⟩
 | succ n ih=>exact ⟨(by intros;rename_i hr;exact r14_order_B_c _ ih.1 _ _ _ hr),trivial⟩
theorem r14_order_c (n : Nat) (t : Tree) (id : Int) (l : (List Int)) {r : (List Int)} (hr : r14_order n t id l = some r) : Con Tryz.prog 81 [.agg [cI t.Root,cI t.Next,.d (.sl (List.map Node.cs t.Nodes))],aI id,.c (.tl 0 (List.map (eInt .i64) l))] [(0,.tail 1)] (.s (.c (.tl 2000 (List.map (eInt .i64) r)))) [(0,.dead),(2000,.tail 1)]:=(r14_order_all n).1 t id l hr
theorem r14_shaped_c (t : Tree) {r : Bool} (hr : r14_shaped t = some r) : Con Tryz.prog 71 [.agg [cI t.Root,cI t.Next,.d (.sl (List.map Node.cs t.Nodes))]] [] (.s (aB r)) []:=by
 unfold r14_shaped at hr
 refine Con.of_ok 156 0 [.tmp 2] [(0,.s (.agg [cI t.Root,cI t.Next,.d (.sl (List.map Node.cs t.Nodes))]))] Tryz.func71 rfl rfl rfl rfl rfl rfl rfl rfl fun w g M ρ _=>(Ok.seq (Ok.region (OkOps.m 0 (triBox (j:=0) (cs:=[cI t.Root,cI t.Next,.d (.sl (List.map Node.cs t.Nodes))]) rfl rfl rfl rfl rfl) (OkOps.y (aB false) (OkOps.nil (Ok.seq (Ok.seq (Ok.region (OkOps.y (.c (.loc 0 1)) (OkOps.y (aI t.Next) (OkOps.y (aB (decide (t.Next < 2))) (OkOps.y (aB (decide (t.Next < 2))) (OkOps.q (triQG (x:=.c (.loc 0 1)) rfl rfl trivial rfl) (OkOps.q (triQG (x:=aI t.Next) rfl rfl ⟨fun h=>h,trivial⟩ rfl) (OkOps.q (triQG (x:=aB (decide (t.Next > 1099511627776))) rfl rfl ⟨fun h=>h,trivial⟩ rfl) ?_)))))))))))))))
 refine OkOps.q (triOr rfl rfl (fun h=>by rw [h];rfl) rfl) ?_
 refine OkOps.y (aB ((decide (t.Next < 2)) || (decide (t.Next > 1099511627776)))) (OkOps.q (triQG (x:=.c (.loc 0 2)) rfl rfl trivial rfl) (OkOps.q (triQG (x:=.c (.d (.sl (List.map Node.cs t.Nodes)))) rfl rfl ⟨fun h=>h,trivial⟩ rfl) (OkOps.q (triLenG (enc:=Node.cs) t.Nodes rfl rfl rfl ⟨fun h=>h,trivial⟩ rfl) (OkOps.q (triQG (x:=aB (decide ((t.Nodes.length : Int) < 1))) rfl rfl ⟨fun h=>h,trivial⟩ rfl) ?_))))
 refine OkOps.q (triOr rfl rfl (fun h=>by rw [h];rfl) rfl) ?_
 refine OkOps.y (aB (((decide (t.Next < 2)) || (decide (t.Next > 1099511627776))) || (decide ((t.Nodes.length : Int) < 1)))) (OkOps.q (triQG (x:=.c (.loc 0 2)) rfl rfl trivial rfl) (OkOps.q (triQG (x:=.c (.d (.sl (List.map Node.cs t.Nodes)))) rfl rfl ⟨fun h=>h,trivial⟩ rfl) (OkOps.q (triLenG (enc:=Node.cs) t.Nodes rfl rfl rfl ⟨fun h=>h,trivial⟩ rfl) (OkOps.q (triQG (x:=aB (decide ((t.Nodes.length : Int) > 400))) rfl rfl ⟨fun h=>h,trivial⟩ rfl) ?_))))
 refine OkOps.q (triOr rfl rfl (fun h=>by rw [h];rfl) rfl) ?_
 refine OkOps.nil ?_
 refine Ok.cond (b:=(((decide (t.Next < 2)) || (decide (t.Next > 1099511627776))) || (decide ((t.Nodes.length : Int) < 1))) || (decide ((t.Nodes.length : Int) > 400))) rfl (fun h1=>?_) (fun h1=>?_)
 have hr:=selT h1 hr
 refine Ok.seq (Ok.region (OkOps.y (aB false) (OkOps.nil (Ok.ret ?_))))
 obtain rfl:=Option.some.inj hr
 exact ⟨_,rfl,.inl rfl,trivial⟩
 have hr:=selF h1 hr
 refine Ok.skip (Ok.seq (Ok.region (OkOps.y (aI 0) (OkOps.nil ?_))))
 obtain ⟨k3,hk3,hr⟩:=jn_some hr
 refine Ok.join (fun (s2 : Unit)=>⟨[(1,.s (.c (.loc 0 0)))],[(0,.blk [cI t.Root,cI t.Next,.d (.sl (List.map Node.cs t.Nodes))] 27)],0⟩) k3 r (fun s2 hr=>?_) ?_
 rw [hk3] at hr
 refine Ok.seq (Ok.region (OkOps.y (.agg [cI t.Root,cI t.Next,.d (.sl (List.map Node.cs t.Nodes))]) (OkOps.y (.c (.loc 0 0)) (OkOps.y (aI t.Root) ?_))))
 obtain ⟨x4,hx4,hr⟩:=bind_some hr
 refine OkOps.q (triCl (tau []) (.s (aI x4)) [] (r14_Index_c _ _ hx4) rfl ⟨.inl rfl,.inl rfl,trivial⟩ trivial entry53 trivial) (OkOps.y (aI x4) (OkOps.nil (Ok.seq (Ok.seq (Ok.region (OkOps.y (aI x4) (OkOps.y (aB (decide (x4 < 0))) (OkOps.nil ?_))))))))
 refine Ok.cond (b:=decide (x4 < 0)) rfl (fun h5=>?_) (fun h5=>?_)
 have hr:=selT h5 hr
 refine Ok.seq (Ok.region (OkOps.y (aB false) (OkOps.nil (Ok.ret ?_))))
 obtain rfl:=Option.some.inj hr
 exact ⟨_,rfl,.inl rfl,trivial⟩
 have hr:=selF h5 hr
 refine Ok.skip (Ok.seq (Ok.region (OkOps.y (aI 0) (OkOps.nil ?_))))
 obtain ⟨k7,hk7,hr⟩:=jn_some hr
 refine Ok.join (fun (s6 : Int)=>⟨[(1,.s (.c (.loc 0 0))),(6,.s (aI s6))],[(0,.blk [cI t.Root,cI t.Next,.d (.sl (List.map Node.cs t.Nodes))] 27)],0⟩) k7 r (fun s6 hr=>?_) ?_
 rw [hk7] at hr
 refine Ok.seq (Ok.seq (Ok.region (OkOps.y (aI s6) (OkOps.y (.c (.loc 0 2)) (OkOps.y (.c (.d (.sl (List.map Node.cs t.Nodes)))) (OkOps.q (triLen (enc:=Node.cs) t.Nodes rfl rfl trivial rfl) (OkOps.y (aI (IntKind.i64.wrap ((t.Nodes.length : Int) - 1))) (OkOps.y (aB (s6 != (IntKind.i64.wrap ((t.Nodes.length : Int) - 1)))) (OkOps.nil ?_)))))))))
 refine Ok.cond (b:=s6 != (IntKind.i64.wrap ((t.Nodes.length : Int) - 1))) rfl (fun h8=>?_) (fun h8=>?_)
 have hr:=selT h8 hr
 refine Ok.seq (Ok.region (OkOps.y (aB false) (OkOps.nil (Ok.ret ?_))))
 obtain rfl:=Option.some.inj hr
 exact ⟨_,rfl,.inl rfl,trivial⟩
 have hr:=selF h8 hr
 refine Ok.skip (Ok.seq (Ok.regionD (by kernel_rfl) (OkD.x (.agg [cI t.Root,cI t.Next,.d (.sl (List.map Node.cs t.Nodes))]) rfl trivial rfl (OkD.x (.c (.loc 0 0)) rfl trivial rfl (OkD.x (aI t.Root) rfl trivial rfl ?_)))))
 obtain ⟨x9,hx9,hr⟩:=bind_some hr
 refine OkD.m 0 (triCall (tau [(2000,1)]) (.s (.c (.tl 1 (List.map (eInt .i64) x9)))) [(1,.tail 1)] (Con.nilArg (args':=[.agg [cI t.Root,cI t.Next,.d (.sl (List.map Node.cs t.Nodes))],aI t.Root,.c (.d (.v (.slice none 0 0)))]) 0 (r14_order_c _ _ _ _ hx9) ⟨.inl rfl,.inl rfl,.inr ⟨rfl,.inl rfl⟩,trivial⟩ rfl (nil_tail 1 0) rfl rfl rfl rfl rfl rfl rfl) rfl ⟨.inl rfl,.inl rfl,.inl rfl,trivial⟩ trivial entry81 trivial rfl rfl rfl rfl ⟨rfl,trivial⟩ rfl rfl rfl) (OkD.q (triLen (enc:=(eInt .i64)) x9 rfl rfl trivial rfl) (OkD.x (.c (.loc 0 2)) rfl trivial rfl (OkD.x (.c (.d (.sl (List.map Node.cs t.Nodes)))) rfl trivial rfl (OkD.q (triLen (enc:=Node.cs) t.Nodes rfl rfl trivial rfl) (OkD.x (aB ((x9.length : Int) == (t.Nodes.length : Int))) rfl trivial rfl (OkD.x (aB ((x9.length : Int) == (t.Nodes.length : Int))) rfl trivial rfl (OkD.nil (by kernel_rfl) (Ok.ret ?_))))))))
 obtain rfl:=Option.some.inj hr
 exact ⟨_,rfl,.inl rfl,trivial⟩
 clear hk7
 refine Ok.seq (Ok.region (OkOps.y (aI 0) (OkOps.nil (Ok.block (Ok.loopK (fun (s10 : Int × Int)=>⟨[(1,.s (.c (.loc 0 0))),(5,.s (aI x4)),(6,.s (aI s10.1)),(7,.s (aI s10.2))],[(0,.blk [cI t.Root,cI t.Next,.d (.sl (List.map Node.cs t.Nodes))] 27)],0⟩) hr (Conv.mk (tau []) ⟨⟨_,rfl,.inl rfl⟩,⟨_,rfl,.inl rfl⟩,⟨_,rfl,.inl rfl⟩,⟨_,rfl,.inl rfl⟩,trivial⟩ ⟨rfl,trivial⟩ rfl rfl rfl rfl) ?_)))))
 clear hr
 intro again11 s10 hr
 unfold r14_shaped_L3 at hr
 refine Ok.seq (Ok.seq (Ok.region (OkOps.y (aI s10.2) (OkOps.y (.c (.loc 0 2)) (OkOps.y (.c (.d (.sl (List.map Node.cs t.Nodes)))) (OkOps.q (triLen (enc:=Node.cs) t.Nodes rfl rfl trivial rfl) (OkOps.y (aB (decide (s10.2 < (t.Nodes.length : Int)))) (OkOps.nil ?_))))))))
 refine Ok.cond (b:=decide (s10.2 < (t.Nodes.length : Int))) rfl (fun h12=>?_) (fun h12=>?_)
 have hr:=selT h12 hr
 refine Ok.skip ?_
 obtain ⟨k14,hk14,hr⟩:=jn_some hr
 refine Ok.join (fun (s13 : Int)=>⟨[(1,.s (.c (.loc 0 0))),(5,.s (aI x4)),(6,.s (aI s13)),(7,.s (aI s10.2))],[(0,.blk [cI t.Root,cI t.Next,.d (.sl (List.map Node.cs t.Nodes))] 27)],0⟩) k14 r (fun s13 hr=>?_) ?_
 rw [hk14] at hr
 refine Ok.region (OkOps.y (aI s10.2) (OkOps.y (aI (IntKind.i64.wrap (s10.2 + 1))) (OkOps.y (aI (IntKind.i64.wrap (s10.2 + 1))) (OkOps.nil ?_))))
 exact ⟨(s13,IntKind.i64.wrap (s10.2 + 1)),hr,(Conv.mk (tau []) ⟨⟨_,rfl,.inl rfl⟩,⟨_,rfl,.inl rfl⟩,⟨_,rfl,.inl rfl⟩,⟨_,rfl,.inl rfl⟩,trivial⟩ ⟨rfl,trivial⟩ rfl rfl rfl rfl)⟩
 clear hk14
 refine Ok.block (Ok.seq (Ok.region (OkOps.y (.c (.loc 0 2)) (OkOps.y (.c (.d (.sl (List.map Node.cs t.Nodes)))) (OkOps.y (aI s10.2) ?_)))))
 obtain ⟨x15,hx15,hr⟩:=bind_some hr
 refine OkOps.q (triIdx (enc:=Node.cs) (L:=t.Nodes) (row:=[dI x15.ID,dI x15.Parent,dI x15.Kind,dS x15.Key,.sl (List.map Attr.cs x15.Attrs),.sl (List.map Action.cs x15.Actions),.sl (List.map (eInt .i64) x15.Kids)]) hx15 rfl rfl rfl rfl (fun _=>rfl) trivial rfl) (OkOps.y (.agg [cI x15.ID,cI x15.Parent,cI x15.Kind,cS x15.Key,.d (.sl (List.map Attr.cs x15.Attrs)),.d (.sl (List.map Action.cs x15.Actions)),.d (.sl (List.map (eInt .i64) x15.Kids))]) (OkOps.m 0 (triAlloc (j:=2) (cs:=[cI 0,cI 0,cI 0,cS ByteArray.empty,.d (.v (.slice none 0 0)),.d (.v (.slice none 0 0)),.d (.v (.slice none 0 0))]) rfl rfl rfl rfl) (OkOps.w (triStore (cs':=[cI x15.ID,cI x15.Parent,cI x15.Kind,cS x15.Key,.d (.sl (List.map Attr.cs x15.Attrs)),.d (.sl (List.map Action.cs x15.Actions)),.d (.sl (List.map (eInt .i64) x15.Kids))]) rfl rfl rfl rfl rfl rfl rfl rfl rfl) (OkOps.nil (Ok.seq (Ok.seq (Ok.region (OkOps.y (.c (.loc 2 1)) (OkOps.y (aI x15.Parent) (OkOps.y (aB (x15.Parent == 0)) (OkOps.y (aI s10.2) (OkOps.y (aI x4) (OkOps.y (aB (s10.2 == x4)) (OkOps.y (aB ((x15.Parent == 0) != (s10.2 == x4))) (OkOps.nil ?_)))))))))))))))
 refine Ok.cond (b:=(x15.Parent == 0) != (s10.2 == x4)) rfl (fun h16=>?_) (fun h16=>?_)
 have hr:=selT h16 hr
 refine Ok.seq (Ok.region (OkOps.y (aB false) (OkOps.nil (Ok.ret ?_))))
 obtain rfl:=Option.some.inj hr
 exact ⟨_,rfl,.inl rfl,trivial⟩
 have hr:=selF h16 hr
 refine Ok.skip (Ok.seq (Ok.seq (Ok.region (OkOps.y (.c (.loc 2 6)) (OkOps.y (.c (.d (.sl (List.map (eInt .i64) x15.Kids)))) (OkOps.q (triLen (enc:=(eInt .i64)) x15.Kids rfl rfl trivial rfl) (OkOps.y (.c (.loc 0 2)) (OkOps.y (.c (.d (.sl (List.map Node.cs t.Nodes)))) (OkOps.q (triLen (enc:=Node.cs) t.Nodes rfl rfl trivial rfl) (OkOps.y (aB (decide ((x15.Kids.length : Int) > (t.Nodes.length : Int)))) (OkOps.nil ?_)))))))))))
 refine Ok.cond (b:=decide ((x15.Kids.length : Int) > (t.Nodes.length : Int))) rfl (fun h17=>?_) (fun h17=>?_)
 have hr:=selT h17 hr
 refine Ok.seq (Ok.region (OkOps.y (aB false) (OkOps.nil (Ok.ret ?_))))
 obtain rfl:=Option.some.inj hr
 exact ⟨_,rfl,.inl rfl,trivial⟩
 have hr:=selF h17 hr
 refine Ok.skip (Ok.seq (Ok.region (OkOps.y (aI 0) (OkOps.nil ?_))))
 obtain ⟨k19,hk19,hr⟩:=jn_some hr
 refine Ok.joinEnd (fun (s18 : Int)=>⟨[(1,.s (.c (.loc 0 0))),(5,.s (aI x4)),(6,.s (aI s18)),(7,.s (aI s10.2))],[(0,.blk [cI t.Root,cI t.Next,.d (.sl (List.map Node.cs t.Nodes))] 27)],0⟩) k19 r (fun s18 hr=>?_) ?_
 rw [hk19] at hr
 exact ⟨s18,hr,(Conv.mk (tau []) ⟨⟨_,rfl,.inl rfl⟩,⟨_,rfl,.inl rfl⟩,⟨_,rfl,.inl rfl⟩,⟨_,rfl,.inl rfl⟩,trivial⟩ ⟨rfl,trivial⟩ rfl rfl rfl rfl)⟩
 clear hk19
 refine Ok.block (Ok.loopK (fun (s20 : Int × Int)=>⟨[(1,.s (.c (.loc 0 0))),(5,.s (aI x4)),(6,.s (aI s20.1)),(7,.s (aI s10.2)),(8,.s (.c (.loc 2 0))),(9,.s (aI s20.2))],[(0,.blk [cI t.Root,cI t.Next,.d (.sl (List.map Node.cs t.Nodes))] 27),(2,.blk [cI x15.ID,cI x15.Parent,cI x15.Kind,cS x15.Key,.d (.sl (List.map Attr.cs x15.Attrs)),.d (.sl (List.map Action.cs x15.Actions)),.d (.sl (List.map (eInt .i64) x15.Kids))] 39)],0⟩) hr (Conv.mk (tau []) ⟨⟨_,rfl,.inl rfl⟩,⟨_,rfl,.inl rfl⟩,⟨_,rfl,.inl rfl⟩,⟨_,rfl,.inl rfl⟩,⟨_,rfl,.inl rfl⟩,⟨_,rfl,.inl rfl⟩,trivial⟩ ⟨rfl,rfl,trivial⟩ rfl rfl rfl rfl) ?_)
 clear hr
 intro again21 s20 hr
 unfold r14_shaped_L2 at hr
 refine Ok.seq (Ok.seq (Ok.region (OkOps.y (aI s20.2) (OkOps.y (.c (.loc 2 6)) (OkOps.y (.c (.d (.sl (List.map (eInt .i64) x15.Kids)))) (OkOps.q (triLen (enc:=(eInt .i64)) x15.Kids rfl rfl trivial rfl) (OkOps.y (aB (decide (s20.2 < (x15.Kids.length : Int)))) (OkOps.nil ?_))))))))
 refine Ok.cond (b:=decide (s20.2 < (x15.Kids.length : Int))) rfl (fun h22=>?_) (fun h22=>?_)
 have hr:=selT h22 hr
 refine Ok.skip ?_
 obtain ⟨k24,hk24,hr⟩:=jn_some hr
 refine Ok.join (fun (s23 : Unit)=>⟨[(1,.s (.c (.loc 0 0))),(5,.s (aI x4)),(6,.s (aI (IntKind.i64.wrap (s20.1 + 1)))),(7,.s (aI s10.2)),(8,.s (.c (.loc 2 0))),(9,.s (aI s20.2))],[(0,.blk [cI t.Root,cI t.Next,.d (.sl (List.map Node.cs t.Nodes))] 27),(2,.blk [cI x15.ID,cI x15.Parent,cI x15.Kind,cS x15.Key,.d (.sl (List.map Attr.cs x15.Attrs)),.d (.sl (List.map Action.cs x15.Actions)),.d (.sl (List.map (eInt .i64) x15.Kids))] 39)],0⟩) k24 r (fun s23 hr=>?_) ?_
 rw [hk24] at hr
 refine Ok.region (OkOps.y (aI s20.2) (OkOps.y (aI (IntKind.i64.wrap (s20.2 + 1))) (OkOps.y (aI (IntKind.i64.wrap (s20.2 + 1))) (OkOps.nil ?_))))
 exact ⟨(IntKind.i64.wrap (s20.1 + 1),IntKind.i64.wrap (s20.2 + 1)),hr,(Conv.mk (tau []) ⟨⟨_,rfl,.inl rfl⟩,⟨_,rfl,.inl rfl⟩,⟨_,rfl,.inl rfl⟩,⟨_,rfl,.inl rfl⟩,⟨_,rfl,.inl rfl⟩,⟨_,rfl,.inl rfl⟩,trivial⟩ ⟨rfl,rfl,trivial⟩ rfl rfl rfl rfl)⟩
 clear hk24
 refine Ok.block (Ok.seq (Ok.regionD (by kernel_rfl) (OkD.x (.agg [cI t.Root,cI t.Next,.d (.sl (List.map Node.cs t.Nodes))]) rfl trivial rfl (OkD.x (.c (.loc 2 6)) rfl trivial rfl (OkD.x (.c (.d (.sl (List.map (eInt .i64) x15.Kids)))) rfl trivial rfl (OkD.x (aI s20.2) rfl trivial rfl ?_))))))
 obtain ⟨x25,hx25,hr⟩:=bind_some hr
 refine OkD.q (triIdx (enc:=(eInt .i64)) (L:=x15.Kids) (row:=[dI x25]) hx25 rfl rfl rfl rfl (fun _=>rfl) trivial rfl) (OkD.x (aI x25) rfl trivial rfl ?_)
 obtain ⟨x26,hx26,hr⟩:=bind_some hr
 refine OkD.q (triCl (tau []) (.s (aI x26)) [] (r14_Index_c _ _ hx26) rfl ⟨.inl rfl,.inl rfl,trivial⟩ trivial entry53 trivial) (OkD.x (aI x26) rfl trivial rfl (OkD.nil (by kernel_rfl) (Ok.seq (Ok.seq (Ok.regionD (by kernel_rfl) (OkD.x (aI x26) rfl trivial rfl (OkD.x (aB (decide (x26 < 0))) rfl trivial rfl (OkD.x (aB (decide (x26 < 0))) rfl trivial rfl (OkD.q (triQG (x:=.c (.loc 0 2)) rfl rfl trivial rfl) (OkD.q (triQG (x:=.c (.d (.sl (List.map Node.cs t.Nodes)))) rfl rfl ⟨fun h=>h,trivial⟩ rfl) (OkD.q (triQG (x:=aI x26) rfl rfl trivial rfl) ?_)))))))))))
 obtain ⟨x27,hx27,hr⟩:=bind_some hr
 refine OkD.q (triIdxG (enc:=Node.cs) (L:=t.Nodes) (row:=[dI x27.ID,dI x27.Parent,dI x27.Kind,dS x27.Key,.sl (List.map Attr.cs x27.Attrs),.sl (List.map Action.cs x27.Actions),.sl (List.map (eInt .i64) x27.Kids)]) (gO_t hx27) rfl rfl rfl rfl rfl (fun _=>rfl) ⟨fun h=>h,⟨fun h=>h,trivial⟩⟩ rfl) (OkD.q (triQG (x:=.c (.pt [dI x27.Parent,dI x27.Kind,dS x27.Key,.sl (List.map Attr.cs x27.Attrs),.sl (List.map Action.cs x27.Actions),.sl (List.map (eInt .i64) x27.Kids)])) rfl rfl ⟨fun h=>h,trivial⟩ rfl) (OkD.q (triQG (x:=aI x27.Parent) rfl rfl ⟨fun h=>h,trivial⟩ rfl) (OkD.q (triQG (x:=.c (.loc 2 0)) rfl rfl trivial rfl) (OkD.q (triQG (x:=aI x15.ID) rfl rfl ⟨fun h=>h,trivial⟩ rfl) (OkD.q (triQG (x:=aB (x27.Parent != x15.ID)) rfl rfl ⟨fun h=>h,⟨fun h=>h,trivial⟩⟩ rfl) ?_)))))
 refine OkD.q (triOr rfl rfl (fun h=>by rw [h];rfl) rfl) ?_
 refine OkD.nil (by kernel_rfl) ?_
 refine Ok.cond (b:=(decide (x26 < 0)) || (x27.Parent != x15.ID)) rfl (fun h28=>?_) (fun h28=>?_)
 have hr:=selT h28 hr
 refine Ok.seq (Ok.region (OkOps.y (aB false) (OkOps.nil (Ok.ret ?_))))
 obtain rfl:=Option.some.inj hr
 exact ⟨_,rfl,.inl rfl,trivial⟩
 have hr:=selF h28 hr
 refine Ok.skip ?_
 obtain ⟨k30,hk30,hr⟩:=jn_some hr
 refine Ok.join (fun (s29 : Unit)=>⟨[(1,.s (.c (.loc 0 0))),(5,.s (aI x4)),(6,.s (aI s20.1)),(7,.s (aI s10.2)),(8,.s (.c (.loc 2 0))),(9,.s (aI s20.2))],[(0,.blk [cI t.Root,cI t.Next,.d (.sl (List.map Node.cs t.Nodes))] 27),(2,.blk [cI x15.ID,cI x15.Parent,cI x15.Kind,cS x15.Key,.d (.sl (List.map Attr.cs x15.Attrs)),.d (.sl (List.map Action.cs x15.Actions)),.d (.sl (List.map (eInt .i64) x15.Kids))] 39)],0⟩) k30 r (fun s29 hr=>?_) ?_
 rw [hk30] at hr
 refine Ok.region (OkOps.y (aI s20.1) (OkOps.y (aI (IntKind.i64.wrap (s20.1 + 1))) (OkOps.y (aI (IntKind.i64.wrap (s20.1 + 1))) (OkOps.nil ?_))))
 exact ⟨(),hr,(Conv.mk (tau []) ⟨⟨_,rfl,.inl rfl⟩,⟨_,rfl,.inl rfl⟩,⟨_,rfl,.inl rfl⟩,⟨_,rfl,.inl rfl⟩,⟨_,rfl,.inl rfl⟩,⟨_,rfl,.inl rfl⟩,trivial⟩ ⟨rfl,rfl,trivial⟩ rfl rfl rfl rfl)⟩
 clear hk30
 refine Ok.seq (Ok.region (OkOps.y (aI 0) (OkOps.nil (Ok.block (Ok.loopK (fun (s31 : Int)=>⟨[(1,.s (.c (.loc 0 0))),(5,.s (aI x4)),(6,.s (aI s20.1)),(7,.s (aI s10.2)),(8,.s (.c (.loc 2 0))),(9,.s (aI s20.2)),(11,.s (aI s31))],[(0,.blk [cI t.Root,cI t.Next,.d (.sl (List.map Node.cs t.Nodes))] 27),(2,.blk [cI x15.ID,cI x15.Parent,cI x15.Kind,cS x15.Key,.d (.sl (List.map Attr.cs x15.Attrs)),.d (.sl (List.map Action.cs x15.Actions)),.d (.sl (List.map (eInt .i64) x15.Kids))] 39)],0⟩) hr (Conv.mk (tau []) ⟨⟨_,rfl,.inl rfl⟩,⟨_,rfl,.inl rfl⟩,⟨_,rfl,.inl rfl⟩,⟨_,rfl,.inl rfl⟩,⟨_,rfl,.inl rfl⟩,⟨_,rfl,.inl rfl⟩,⟨_,rfl,.inl rfl⟩,trivial⟩ ⟨rfl,rfl,trivial⟩ rfl rfl rfl rfl) ?_)))))
 clear hr
 intro again32 s31 hr
 unfold r14_shaped_L1 at hr
 refine Ok.seq (Ok.seq (Ok.region (OkOps.y (aI s31) (OkOps.y (aI s20.2) (OkOps.y (aB (decide (s31 < s20.2))) (OkOps.nil ?_))))))
 refine Ok.cond (b:=decide (s31 < s20.2)) rfl (fun h33=>?_) (fun h33=>?_)
 have hr:=selT h33 hr
 refine Ok.skip (Ok.seq (Ok.block (Ok.seq (Ok.regionD (by kernel_rfl) (OkD.x (.c (.loc 2 6)) rfl trivial rfl (OkD.x (.c (.d (.sl (List.map (eInt .i64) x15.Kids)))) rfl trivial rfl (OkD.x (aI s31) rfl trivial rfl ?_)))))))
 obtain ⟨x34,hx34,hr⟩:=bind_some hr
 refine OkD.q (triIdx (enc:=(eInt .i64)) (L:=x15.Kids) (row:=[dI x34]) hx34 rfl rfl rfl rfl (fun _=>rfl) trivial rfl) (OkD.x (aI x34) rfl trivial rfl (OkD.x (.c (.loc 2 6)) rfl trivial rfl (OkD.x (.c (.d (.sl (List.map (eInt .i64) x15.Kids)))) rfl trivial rfl (OkD.x (aI s20.2) rfl trivial rfl ?_))))
 obtain ⟨x35,hx35,hr⟩:=bind_some hr
 refine OkD.q (triIdx (enc:=(eInt .i64)) (L:=x15.Kids) (row:=[dI x35]) hx35 rfl rfl rfl rfl (fun _=>rfl) trivial rfl) (OkD.x (aI x35) rfl trivial rfl (OkD.x (aB (x34 == x35)) rfl trivial rfl (OkD.nil (by kernel_rfl) ?_)))
 refine Ok.cond (b:=x34 == x35) rfl (fun h36=>?_) (fun h36=>?_)
 have hr:=selT h36 hr
 refine Ok.seq (Ok.region (OkOps.y (aB false) (OkOps.nil (Ok.ret ?_))))
 obtain rfl:=Option.some.inj hr
 exact ⟨_,rfl,.inl rfl,trivial⟩
 have hr:=selF h36 hr
 refine Ok.skip (Ok.region (OkOps.y (aI s31) (OkOps.y (aI (IntKind.i64.wrap (s31 + 1))) (OkOps.y (aI (IntKind.i64.wrap (s31 + 1))) (OkOps.nil ?_)))))
 exact ⟨IntKind.i64.wrap (s31 + 1),hr,(Conv.mk (tau []) ⟨⟨_,rfl,.inl rfl⟩,⟨_,rfl,.inl rfl⟩,⟨_,rfl,.inl rfl⟩,⟨_,rfl,.inl rfl⟩,⟨_,rfl,.inl rfl⟩,⟨_,rfl,.inl rfl⟩,⟨_,rfl,.inl rfl⟩,trivial⟩ ⟨rfl,rfl,trivial⟩ rfl rfl rfl rfl)⟩
 have hr:=selF h33 hr
 refine Ok.exit ?_
 exact ⟨(),hr,(Conv.mk (tau []) ⟨⟨_,rfl,.inl rfl⟩,⟨_,rfl,.inl rfl⟩,⟨_,rfl,.inl rfl⟩,⟨_,rfl,.inl rfl⟩,⟨_,rfl,.inl rfl⟩,⟨_,rfl,.inl rfl⟩,trivial⟩ ⟨rfl,rfl,trivial⟩ rfl rfl rfl rfl)⟩
 have hr:=selF h22 hr
 refine Ok.exit ?_
 exact ⟨s20.1,hr,(Conv.mk (tau []) ⟨⟨_,rfl,.inl rfl⟩,⟨_,rfl,.inl rfl⟩,⟨_,rfl,.inl rfl⟩,⟨_,rfl,.inl rfl⟩,trivial⟩ ⟨rfl,trivial⟩ rfl rfl rfl rfl)⟩
 have hr:=selF h12 hr
 refine Ok.exit ?_
 exact ⟨s10.1,hr,(Conv.mk (tau []) ⟨⟨_,rfl,.inl rfl⟩,⟨_,rfl,.inl rfl⟩,trivial⟩ ⟨rfl,trivial⟩ rfl rfl rfl rfl)⟩
 clear hk3
 refine Ok.seq (Ok.region (OkOps.y (aI 0) (OkOps.nil (Ok.block (Ok.loopK (fun (s37 : Int × Int)=>⟨[(1,.s (.c (.loc 0 0))),(3,.s (aI s37.1)),(4,.s (aI s37.2))],[(0,.blk [cI t.Root,cI t.Next,.d (.sl (List.map Node.cs t.Nodes))] 27)],0⟩) hr (Conv.mk (tau []) ⟨⟨_,rfl,.inl rfl⟩,⟨_,rfl,.inl rfl⟩,⟨_,rfl,.inl rfl⟩,trivial⟩ ⟨rfl,trivial⟩ rfl rfl rfl rfl) ?_)))))
 clear hr
 intro again38 s37 hr
 unfold r14_shaped_L4 at hr
 refine Ok.seq (Ok.seq (Ok.region (OkOps.y (aI s37.2) (OkOps.y (.c (.loc 0 2)) (OkOps.y (.c (.d (.sl (List.map Node.cs t.Nodes)))) (OkOps.q (triLen (enc:=Node.cs) t.Nodes rfl rfl trivial rfl) (OkOps.y (aB (decide (s37.2 < (t.Nodes.length : Int)))) (OkOps.nil ?_))))))))
 refine Ok.cond (b:=decide (s37.2 < (t.Nodes.length : Int))) rfl (fun h39=>?_) (fun h39=>?_)
 have hr:=selT h39 hr
 refine Ok.skip (Ok.seq (Ok.block (Ok.seq (Ok.seq (Ok.regionD (by kernel_rfl) (OkD.x (.c (.loc 0 2)) rfl trivial rfl (OkD.x (.c (.d (.sl (List.map Node.cs t.Nodes)))) rfl trivial rfl (OkD.x (aI s37.2) rfl trivial rfl ?_))))))))
 obtain ⟨x40,hx40,hr⟩:=bind_some hr
 refine OkD.q (triIdx (enc:=Node.cs) (L:=t.Nodes) (row:=[dI x40.ID,dI x40.Parent,dI x40.Kind,dS x40.Key,.sl (List.map Attr.cs x40.Attrs),.sl (List.map Action.cs x40.Actions),.sl (List.map (eInt .i64) x40.Kids)]) hx40 rfl rfl rfl rfl (fun _=>rfl) trivial rfl) (OkD.x (.c (.pt [dI x40.ID,dI x40.Parent,dI x40.Kind,dS x40.Key,.sl (List.map Attr.cs x40.Attrs),.sl (List.map Action.cs x40.Actions),.sl (List.map (eInt .i64) x40.Kids)])) rfl trivial rfl (OkD.x (aI x40.ID) rfl trivial rfl (OkD.x (aI s37.1) rfl trivial rfl (OkD.x (aB (decide (x40.ID ≤ s37.1))) rfl trivial rfl (OkD.x (aB (decide (x40.ID ≤ s37.1))) rfl trivial rfl (OkD.q (triQG (x:=.c (.loc 0 2)) rfl rfl trivial rfl) (OkD.q (triQG (x:=.c (.d (.sl (List.map Node.cs t.Nodes)))) rfl rfl ⟨fun h=>h,trivial⟩ rfl) (OkD.q (triQG (x:=aI s37.2) rfl rfl trivial rfl) ?_))))))))
 obtain ⟨x41,hx41,hr⟩:=bind_some hr
 refine OkD.q (triIdxG (enc:=Node.cs) (L:=t.Nodes) (row:=[dI x41.ID,dI x41.Parent,dI x41.Kind,dS x41.Key,.sl (List.map Attr.cs x41.Attrs),.sl (List.map Action.cs x41.Actions),.sl (List.map (eInt .i64) x41.Kids)]) (gO_t hx41) rfl rfl rfl rfl rfl (fun _=>rfl) ⟨fun h=>h,⟨fun h=>h,trivial⟩⟩ rfl) (OkD.q (triQG (x:=.c (.pt [dI x41.ID,dI x41.Parent,dI x41.Kind,dS x41.Key,.sl (List.map Attr.cs x41.Attrs),.sl (List.map Action.cs x41.Actions),.sl (List.map (eInt .i64) x41.Kids)])) rfl rfl ⟨fun h=>h,trivial⟩ rfl) (OkD.q (triQG (x:=aI x41.ID) rfl rfl ⟨fun h=>h,trivial⟩ rfl) (OkD.q (triQG (x:=.c (.loc 0 1)) rfl rfl trivial rfl) (OkD.q (triQG (x:=aI t.Next) rfl rfl ⟨fun h=>h,trivial⟩ rfl) (OkD.q (triQG (x:=aB (decide (x41.ID ≥ t.Next))) rfl rfl ⟨fun h=>h,⟨fun h=>h,trivial⟩⟩ rfl) ?_)))))
 refine OkD.q (triOr rfl rfl (fun h=>by rw [h];rfl) rfl) ?_
 refine OkD.nil (by kernel_rfl) ?_
 refine Ok.cond (b:=(decide (x40.ID ≤ s37.1)) || (decide (x41.ID ≥ t.Next))) rfl (fun h42=>?_) (fun h42=>?_)
 have hr:=selT h42 hr
 refine Ok.seq (Ok.region (OkOps.y (aB false) (OkOps.nil (Ok.ret ?_))))
 obtain rfl:=Option.some.inj hr
 exact ⟨_,rfl,.inl rfl,trivial⟩
 have hr:=selF h42 hr
 refine Ok.skip (Ok.region (OkOps.y (.c (.loc 0 2)) (OkOps.y (.c (.d (.sl (List.map Node.cs t.Nodes)))) (OkOps.y (aI s37.2) ?_))))
 obtain ⟨x43,hx43,hr⟩:=bind_some hr
 refine OkOps.q (triIdx (enc:=Node.cs) (L:=t.Nodes) (row:=[dI x43.ID,dI x43.Parent,dI x43.Kind,dS x43.Key,.sl (List.map Attr.cs x43.Attrs),.sl (List.map Action.cs x43.Actions),.sl (List.map (eInt .i64) x43.Kids)]) hx43 rfl rfl rfl rfl (fun _=>rfl) trivial rfl) (OkOps.y (.c (.pt [dI x43.ID,dI x43.Parent,dI x43.Kind,dS x43.Key,.sl (List.map Attr.cs x43.Attrs),.sl (List.map Action.cs x43.Actions),.sl (List.map (eInt .i64) x43.Kids)])) (OkOps.y (aI x43.ID) (OkOps.y (aI x43.ID) (OkOps.nil (Ok.region (OkOps.y (aI s37.2) (OkOps.y (aI (IntKind.i64.wrap (s37.2 + 1))) (OkOps.y (aI (IntKind.i64.wrap (s37.2 + 1))) (OkOps.nil ?_)))))))))
 exact ⟨(x43.ID,IntKind.i64.wrap (s37.2 + 1)),hr,(Conv.mk (tau []) ⟨⟨_,rfl,.inl rfl⟩,⟨_,rfl,.inl rfl⟩,⟨_,rfl,.inl rfl⟩,trivial⟩ ⟨rfl,trivial⟩ rfl rfl rfl rfl)⟩
 have hr:=selF h39 hr
 refine Ok.exit ?_
 exact ⟨(),hr,(Conv.mk (tau []) ⟨⟨_,rfl,.inl rfl⟩,trivial⟩ ⟨rfl,trivial⟩ rfl rfl rfl rfl)⟩
theorem entry71 : Entry Tryz.prog 71:=⟨_,Tryz.func71,by kernel_rfl,by kernel_rfl⟩
theorem entry72 : Entry Tryz.prog 72:=⟨_,Tryz.func72,by kernel_rfl,by kernel_rfl⟩
theorem r14_describe_B_c (self0 : Tree → Int → Option View) (hself0 : ∀ (t : Tree) (id : Int) {r : View},self0 t id = some r → Con Tryz.prog 72 [.agg [cI t.Root,cI t.Next,.d (.sl (List.map Node.cs t.Nodes))],aI id] [] (.s (.agg [cI r.Kind,cS r.Key,.d (.sl (List.map Attr.cs r.Attrs)),.d (.sl (List.map Action.cs r.Actions)),.d (.sl (List.map View.cs r.Kids))])) []) (t : Tree) (id : Int) {r : View} (hr : r14_describe_B self0 t id = some r) : Con Tryz.prog 72 [.agg [cI t.Root,cI t.Next,.d (.sl (List.map Node.cs t.Nodes))],aI id] [] (.s (.agg [cI r.Kind,cS r.Key,.d (.sl (List.map Attr.cs r.Attrs)),.d (.sl (List.map Action.cs r.Actions)),.d (.sl (List.map View.cs r.Kids))])) []:=by
 unfold r14_describe_B at hr
 refine Con.of_ok 40 0 [.cell 4 35] [(0,.s (.agg [cI t.Root,cI t.Next,.d (.sl (List.map Node.cs t.Nodes))])),(1,.s (aI id))] Tryz.func72 rfl rfl rfl rfl rfl rfl rfl rfl fun w g M ρ _=>(Ok.seq (Ok.region (OkOps.m 0 (triBox (j:=0) (cs:=[cI t.Root,cI t.Next,.d (.sl (List.map Node.cs t.Nodes))]) rfl rfl rfl rfl rfl) (OkOps.m 0 (triAlloc (j:=1) (cs:=[cI 0,cS ByteArray.empty,.d (.v (.slice none 0 0)),.d (.v (.slice none 0 0)),.d (.v (.slice none 0 0))]) rfl rfl rfl rfl) (OkOps.nil (Ok.seq (Ok.region (OkOps.y (.agg [cI t.Root,cI t.Next,.d (.sl (List.map Node.cs t.Nodes))]) (OkOps.y (aI id) ?_)))))))))
 obtain ⟨x1,hx1,hr⟩:=bind_some hr
 refine OkOps.q (triCl (tau []) (.s (.agg [cI x1.ID,cI x1.Parent,cI x1.Kind,cS x1.Key,.d (.sl (List.map Attr.cs x1.Attrs)),.d (.sl (List.map Action.cs x1.Actions)),.d (.sl (List.map (eInt .i64) x1.Kids))])) [] (r14_Node_c _ _ hx1) rfl ⟨.inl rfl,.inl rfl,trivial⟩ trivial entry62 trivial) (OkOps.m 0 (triAlloc (j:=2) (cs:=[cI 0,cI 0,cI 0,cS ByteArray.empty,.d (.v (.slice none 0 0)),.d (.v (.slice none 0 0)),.d (.v (.slice none 0 0))]) rfl rfl rfl rfl) (OkOps.w (triStore (cs':=[cI x1.ID,cI x1.Parent,cI x1.Kind,cS x1.Key,.d (.sl (List.map Attr.cs x1.Attrs)),.d (.sl (List.map Action.cs x1.Actions)),.d (.sl (List.map (eInt .i64) x1.Kids))]) rfl rfl rfl rfl rfl rfl rfl rfl rfl) (OkOps.nil (Ok.seq (Ok.region (OkOps.y (.c (.loc 2 2)) (OkOps.y (aI x1.Kind) (OkOps.y (.c (.loc 2 3)) (OkOps.y (aS x1.Key) (OkOps.y (.c (.loc 2 4)) (OkOps.y (.c (.d (.sl (List.map Attr.cs x1.Attrs)))) (OkOps.y (.c (.loc 2 5)) (OkOps.y (.c (.d (.sl (List.map Action.cs x1.Actions)))) (OkOps.y (.agg [cI x1.Kind,cS x1.Key,.d (.sl (List.map Attr.cs x1.Attrs)),.d (.sl (List.map Action.cs x1.Actions)),.d (.v (.slice none 0 0))]) (OkOps.m 0 (triAlloc (j:=3) (cs:=[cI 0,cS ByteArray.empty,.d (.v (.slice none 0 0)),.d (.v (.slice none 0 0)),.d (.v (.slice none 0 0))]) rfl rfl rfl rfl) ?_)))))))))))))))
 refine OkOps.w (triStore (cs':=[cI x1.Kind,cS x1.Key,.d (.sl (List.map Attr.cs x1.Attrs)),.d (.sl (List.map Action.cs x1.Actions)),.d (.v (.slice none 0 0))]) rfl rfl rfl rfl rfl rfl rfl rfl rfl) (OkOps.nil ?_)
 obtain ⟨k3,hk3,hr⟩:=jn_some hr
 refine Ok.join (fun (s2 : (List View))=>⟨[(4,.s (.c (.loc 1 0))),(6,.s (.c (.loc 3 0)))],[(1,.blk [cI 0,cS ByteArray.empty,.d (.v (.slice none 0 0)),.d (.v (.slice none 0 0)),.d (.v (.slice none 0 0))] 35),(3,.blk [cI x1.Kind,cS x1.Key,.d (.sl (List.map Attr.cs x1.Attrs)),.d (.sl (List.map Action.cs x1.Actions)),.tl 1004 (List.map View.cs s2)] 35),(1004,.tail 5)],0⟩) k3 r (fun s2 hr=>?_) ?_
 rw [hk3] at hr
 refine Ok.seq (Ok.region (OkOps.y (.agg [cI x1.Kind,cS x1.Key,.d (.sl (List.map Attr.cs x1.Attrs)),.d (.sl (List.map Action.cs x1.Actions)),.tl 1004 (List.map View.cs s2)]) (OkOps.w (triStore (cs':=[cI x1.Kind,cS x1.Key,.d (.sl (List.map Attr.cs x1.Attrs)),.d (.sl (List.map Action.cs x1.Actions)),.tl 1004 (List.map View.cs s2)]) rfl rfl rfl rfl rfl rfl rfl rfl rfl) (OkOps.nil (Ok.ret ?_)))))
 obtain rfl:=Option.some.inj hr
 exact ⟨_,rfl,.inr rfl,trivial⟩
 clear hk3
 refine Ok.seq (Ok.region (OkOps.y (aI 0) (OkOps.nil (Ok.block (Ok.loopK (fun (s4 : Int × (List View))=>⟨[(2,.s (.c (.loc 0 0))),(4,.s (.c (.loc 1 0))),(5,.s (.c (.loc 2 0))),(6,.s (.c (.loc 3 0))),(7,.s (aI s4.1))],[(0,.blk [cI t.Root,cI t.Next,.d (.sl (List.map Node.cs t.Nodes))] 27),(1,.blk [cI 0,cS ByteArray.empty,.d (.v (.slice none 0 0)),.d (.v (.slice none 0 0)),.d (.v (.slice none 0 0))] 35),(2,.blk [cI x1.ID,cI x1.Parent,cI x1.Kind,cS x1.Key,.d (.sl (List.map Attr.cs x1.Attrs)),.d (.sl (List.map Action.cs x1.Actions)),.d (.sl (List.map (eInt .i64) x1.Kids))] 39),(3,.blk [cI x1.Kind,cS x1.Key,.d (.sl (List.map Attr.cs x1.Attrs)),.d (.sl (List.map Action.cs x1.Actions)),.tl 1007 (List.map View.cs s4.2)] 35),(1007,.tail 5)],0⟩) hr (Conv.trans (Conv.nilO 3 4 1009 5 [cI x1.Kind,cS x1.Key,.d (.sl (List.map Attr.cs x1.Attrs)),.d (.sl (List.map Action.cs x1.Actions)),.d (.v (.slice none 0 0))] [cI x1.Kind,cS x1.Key,.d (.sl (List.map Attr.cs x1.Attrs)),.d (.sl (List.map Action.cs x1.Actions)),.tl 1009 (List.map View.cs ([] : (List View)))] 35 0 rfl rfl rfl rfl) (Conv.mk (tau [(1007,1009)]) ⟨⟨_,rfl,.inl rfl⟩,⟨_,rfl,.inl rfl⟩,⟨_,rfl,.inl rfl⟩,⟨_,rfl,.inl rfl⟩,⟨_,rfl,.inl rfl⟩,trivial⟩ ⟨rfl,rfl,rfl,rfl,rfl,trivial⟩ rfl rfl rfl rfl)) ?_)))))
 clear hr
 intro again5 s4 hr
 unfold r14_describe_L1 at hr
 refine Ok.seq (Ok.seq (Ok.region (OkOps.y (aI s4.1) (OkOps.y (.c (.loc 2 6)) (OkOps.y (.c (.d (.sl (List.map (eInt .i64) x1.Kids)))) (OkOps.q (triLen (enc:=(eInt .i64)) x1.Kids rfl rfl trivial rfl) (OkOps.y (aB (decide (s4.1 < (x1.Kids.length : Int)))) (OkOps.nil ?_))))))))
 refine Ok.cond (b:=decide (s4.1 < (x1.Kids.length : Int))) rfl (fun h6=>?_) (fun h6=>?_)
 have hr:=selT h6 hr
 refine Ok.skip (Ok.seq (Ok.block (Ok.regionD (by kernel_rfl) (OkD.x (.c (.loc 3 4)) rfl trivial rfl (OkD.x (.c (.tl 1007 (List.map View.cs s4.2))) rfl trivial rfl (OkD.x (.agg [cI t.Root,cI t.Next,.d (.sl (List.map Node.cs t.Nodes))]) rfl trivial rfl (OkD.x (.c (.loc 2 6)) rfl trivial rfl (OkD.x (.c (.d (.sl (List.map (eInt .i64) x1.Kids)))) rfl trivial rfl (OkD.x (aI s4.1) rfl trivial rfl ?_)))))))))
 obtain ⟨x7,hx7,hr⟩:=bind_some hr
 refine OkD.q (triIdx (enc:=(eInt .i64)) (L:=x1.Kids) (row:=[dI x7]) hx7 rfl rfl rfl rfl (fun _=>rfl) trivial rfl) (OkD.x (aI x7) rfl trivial rfl ?_)
 obtain ⟨x8,hx8,hr⟩:=bind_some hr
 refine OkD.q (triCl (tau []) (.s (.agg [cI x8.Kind,cS x8.Key,.d (.sl (List.map Attr.cs x8.Attrs)),.d (.sl (List.map Action.cs x8.Actions)),.d (.sl (List.map View.cs x8.Kids))])) [] (hself0 _ _ hx8) rfl ⟨.inl rfl,.inl rfl,trivial⟩ trivial entry72 trivial) ?_
 refine OkD.m 0 (triBST (sz:=5) (enc:=View.cs) (j:=4) ([x8]) rfl rfl rfl rfl rfl (rows:=[[dI x8.Kind,dS x8.Key,.sl (List.map Attr.cs x8.Attrs),.sl (List.map Action.cs x8.Actions),.sl (List.map View.cs x8.Kids)]]) (by simp only [List.map,View.cs_eq]) rfl rfl (fun x=>by rw [View.cs_eq];rfl) trivial rfl rfl) ?_
 obtain ⟨x9,hx9,hr⟩:=bind_some hr
 refine OkD.m2 0 (triApp (enc:=View.cs) (L:=s4.2) (X:=[x8]) (j:=1007) (j':=5) hx9 rfl rfl rfl rfl rfl rfl (fun x=>by rw [View.cs_eq];rfl) (fun x=>by rw [View.cs_eq];rfl) (by decide) trivial rfl rfl) ?_
 refine OkD.x (.c (.loc 3 4)) rfl trivial rfl (OkD.w (triStore (cs':=[cI x1.Kind,cS x1.Key,.d (.sl (List.map Attr.cs x1.Attrs)),.d (.sl (List.map Action.cs x1.Actions)),.tl 5 (List.map View.cs x9)]) rfl rfl rfl rfl rfl rfl rfl rfl rfl) (OkD.nil (by kernel_rfl) (Ok.region (OkOps.y (aI s4.1) (OkOps.y (aI (IntKind.i64.wrap (s4.1 + 1))) (OkOps.y (aI (IntKind.i64.wrap (s4.1 + 1))) (OkOps.nil ?_)))))))
 exact ⟨(IntKind.i64.wrap (s4.1 + 1),x9),hr,(Conv.mk (tau [(1007,5)]) ⟨⟨_,rfl,.inl rfl⟩,⟨_,rfl,.inl rfl⟩,⟨_,rfl,.inl rfl⟩,⟨_,rfl,.inl rfl⟩,⟨_,rfl,.inl rfl⟩,trivial⟩ ⟨rfl,rfl,rfl,rfl,rfl,trivial⟩ rfl rfl rfl rfl)⟩
 have hr:=selF h6 hr
 refine Ok.exit ?_
 exact ⟨s4.2,hr,(Conv.mk (tau [(1004,1007)]) ⟨⟨_,rfl,.inl rfl⟩,⟨_,rfl,.inl rfl⟩,trivial⟩ ⟨rfl,rfl,rfl,trivial⟩ rfl rfl rfl rfl)⟩
theorem r14_describe_all : ∀ n : Nat,(∀ (t : Tree) (id : Int) {r : View},r14_describe n t id = some r → Con Tryz.prog 72 [.agg [cI t.Root,cI t.Next,.d (.sl (List.map Node.cs t.Nodes))],aI id] [] (.s (.agg [cI r.Kind,cS r.Key,.d (.sl (List.map Attr.cs r.Attrs)),.d (.sl (List.map Action.cs r.Actions)),.d (.sl (List.map View.cs r.Kids))])) []) ∧ True:=by
 intro n
 induction n with
 | zero=>exact ⟨(by intros;rename_i hr;cases hr),trivial⟩
 | succ n ih=>exact ⟨(by intros;rename_i hr;exact r14_describe_B_c _ ih.1 _ _ hr),trivial⟩
theorem r14_describe_c (n : Nat) (t : Tree) (id : Int) {r : View} (hr : r14_describe n t id = some r) : Con Tryz.prog 72 [.agg [cI t.Root,cI t.Next,.d (.sl (List.map Node.cs t.Nodes))],aI id] [] (.s (.agg [cI r.Kind,cS r.Key,.d (.sl (List.map Attr.cs r.Attrs)),.d (.sl (List.map Action.cs r.Actions)),.d (.sl (List.map View.cs r.Kids))])) []:=(r14_describe_all n).1 t id hr
theorem r14_Check_c (t : Tree) {r : Int} (hr : r14_Check t = some r) : Con Tryz.prog 52 [.agg [cI t.Root,cI t.Next,.d (.sl (List.map Node.cs t.Nodes))]] [] (.s (aI r)) []:=by
 unfold r14_Check at hr
 refine Con.of_ok 11 0 [.tmp 2] [(0,.s (.agg [cI t.Root,cI t.Next,.d (.sl (List.map Node.cs t.Nodes))]))] Tryz.func52 rfl rfl rfl rfl rfl rfl rfl rfl fun w g M ρ _=>(Ok.seq (Ok.region (OkOps.m 0 (triBox (j:=0) (cs:=[cI t.Root,cI t.Next,.d (.sl (List.map Node.cs t.Nodes))]) rfl rfl rfl rfl rfl) (OkOps.y (aI 0) (OkOps.nil (Ok.seq (Ok.seq (Ok.region (OkOps.y (.agg [cI t.Root,cI t.Next,.d (.sl (List.map Node.cs t.Nodes))]) ?_)))))))))
 obtain ⟨x1,hx1,hr⟩:=bind_some hr
 refine OkOps.q (triCl (tau []) (.s (aB x1)) [] (r14_shaped_c _ hx1) rfl ⟨.inl rfl,trivial⟩ trivial entry71 trivial) (OkOps.y (aB (!x1)) (OkOps.nil ?_))
 refine Ok.cond (b:=!x1) rfl (fun h2=>?_) (fun h2=>?_)
 have hr:=selT h2 hr
 refine Ok.seq (Ok.region (OkOps.y (aI 12) (OkOps.nil (Ok.ret ?_))))
 obtain rfl:=Option.some.inj hr
 exact ⟨_,rfl,.inl rfl,trivial⟩
 have hr:=selF h2 hr
 refine Ok.skip (Ok.seq (Ok.region (OkOps.y (.agg [cI t.Root,cI t.Next,.d (.sl (List.map Node.cs t.Nodes))]) (OkOps.y (.c (.loc 0 0)) (OkOps.y (aI t.Root) ?_)))))
 obtain ⟨x3,hx3,hr⟩:=bind_some hr
 refine OkOps.q (triCl (tau []) (.s (.agg [cI x3.Kind,cS x3.Key,.d (.sl (List.map Attr.cs x3.Attrs)),.d (.sl (List.map Action.cs x3.Actions)),.d (.sl (List.map View.cs x3.Kids))])) [] (r14_describe_c _ _ _ hx3) rfl ⟨.inl rfl,.inl rfl,trivial⟩ trivial entry72 trivial) ?_
 obtain ⟨x4,hx4,hr⟩:=bind_some hr
 refine OkOps.q (triCl (tau []) (.s (aI x4)) [] (r14_Validate_c _ hx4) rfl ⟨.inl rfl,trivial⟩ trivial entry12 trivial) (OkOps.y (aI x4) (OkOps.nil (Ok.ret ?_)))
 obtain rfl:=Option.some.inj hr
 exact ⟨_,rfl,.inl rfl,trivial⟩
theorem entry52 : Entry Tryz.prog 52:=⟨_,Tryz.func52,by kernel_rfl,by kernel_rfl⟩
end Go.Proofs.YtcenpkkficeaaaaGreatDoor
end
section
set_option maxRecDepth 100000
namespace Go.Proofs.YtcenpkkficeaaaaGreatDoor
open Go Go.E2
theorem entry54 : Entry Tryz.prog 54:=⟨_,Tryz.func54,by kernel_rfl,by kernel_rfl⟩
theorem r14_path_B_c (self0 : Tree → Int → Option (List Int)) (hself0 : ∀ (t : Tree) (id : Int) {r : (List Int)},self0 t id = some r → Con Tryz.prog 54 [.agg [cI t.Root,cI t.Next,.d (.sl (List.map Node.cs t.Nodes))],aI id] [] (.s (.c (.tl 2000 (List.map (eInt .i64) r)))) [(2000,.tail 1)]) (t : Tree) (id : Int) {r : (List Int)} (hr : r14_path_B self0 t id = some r) : Con Tryz.prog 54 [.agg [cI t.Root,cI t.Next,.d (.sl (List.map Node.cs t.Nodes))],aI id] [] (.s (.c (.tl 2000 (List.map (eInt .i64) r)))) [(2000,.tail 1)]:=by
 unfold r14_path_B at hr
 refine Con.of_ok 21 0 [.tmp 4] [(0,.s (.agg [cI t.Root,cI t.Next,.d (.sl (List.map Node.cs t.Nodes))])),(1,.s (aI id))] Tryz.func54 rfl rfl rfl rfl rfl rfl rfl rfl fun w g M ρ _=>(Ok.seq (Ok.region (OkOps.m 0 (triBox (j:=0) (cs:=[cI t.Root,cI t.Next,.d (.sl (List.map Node.cs t.Nodes))]) rfl rfl rfl rfl rfl) (OkOps.y (.c (.d (.v (.slice none 0 0)))) (OkOps.nil (Ok.seq (Ok.region (OkOps.y (.agg [cI t.Root,cI t.Next,.d (.sl (List.map Node.cs t.Nodes))]) (OkOps.y (aI id) ?_)))))))))
 obtain ⟨x1,hx1,hr⟩:=bind_some hr
 refine OkOps.q (triCl (tau []) (.s (.agg [cI x1.ID,cI x1.Parent,cI x1.Kind,cS x1.Key,.d (.sl (List.map Attr.cs x1.Attrs)),.d (.sl (List.map Action.cs x1.Actions)),.d (.sl (List.map (eInt .i64) x1.Kids))])) [] (r14_Node_c _ _ hx1) rfl ⟨.inl rfl,.inl rfl,trivial⟩ trivial entry62 trivial) (OkOps.m 0 (triAlloc (j:=1) (cs:=[cI 0,cI 0,cI 0,cS ByteArray.empty,.d (.v (.slice none 0 0)),.d (.v (.slice none 0 0)),.d (.v (.slice none 0 0))]) rfl rfl rfl rfl) (OkOps.w (triStore (cs':=[cI x1.ID,cI x1.Parent,cI x1.Kind,cS x1.Key,.d (.sl (List.map Attr.cs x1.Attrs)),.d (.sl (List.map Action.cs x1.Actions)),.d (.sl (List.map (eInt .i64) x1.Kids))]) rfl rfl rfl rfl rfl rfl rfl rfl rfl) (OkOps.nil (Ok.seq (Ok.seq (Ok.region (OkOps.y (.c (.loc 1 1)) (OkOps.y (aI x1.Parent) (OkOps.y (aB (x1.Parent == 0)) (OkOps.nil ?_))))))))))
 refine Ok.cond (b:=x1.Parent == 0) rfl (fun h2=>?_) (fun h2=>?_)
 have hr:=selT h2 hr
 refine Ok.seq (Ok.region (OkOps.y (aI id) (OkOps.m 0 (triBST (sz:=1) (enc:=(eInt .i64)) (j:=2) ([id]) rfl rfl rfl rfl rfl rfl rfl rfl (fun _=>rfl) trivial rfl rfl) (OkOps.y (.c (.tl 2 (List.map (eInt .i64) ([id])))) (OkOps.nil (Ok.conv (T:=⟨[(4,.s (.c (.tl 2000 (List.map (eInt .i64) ([id])))))],[(2000,.tail 1)],0⟩) (Conv.mk (tau [(2000,2)]) ⟨⟨_,rfl,.inl rfl⟩,trivial⟩ ⟨rfl,trivial⟩ rfl rfl rfl rfl) (Ok.ret ?_)))))))
 obtain rfl:=Option.some.inj hr
 exact ⟨_,rfl,.inl rfl,⟨rfl,trivial⟩⟩
 have hr:=selF h2 hr
 refine Ok.skip (Ok.seq (Ok.region (OkOps.y (.agg [cI t.Root,cI t.Next,.d (.sl (List.map Node.cs t.Nodes))]) (OkOps.y (.c (.loc 1 1)) (OkOps.y (aI x1.Parent) ?_)))))
 obtain ⟨x3,hx3,hr⟩:=bind_some hr
 refine OkOps.m 0 (triCall (tau [(2000,3)]) (.s (.c (.tl 3 (List.map (eInt .i64) x3)))) [(3,.tail 1)] (hself0 _ _ hx3) rfl ⟨.inl rfl,.inl rfl,trivial⟩ trivial entry54 trivial rfl rfl rfl rfl ⟨rfl,trivial⟩ rfl rfl rfl) (OkOps.y (aI id) (OkOps.m 0 (triBST (sz:=1) (enc:=(eInt .i64)) (j:=4) ([id]) rfl rfl rfl rfl rfl rfl rfl rfl (fun _=>rfl) trivial rfl rfl) ?_))
 obtain ⟨x4,hx4,hr⟩:=bind_some hr
 refine OkOps.m2 0 (triApp (enc:=(eInt .i64)) (L:=x3) (X:=[id]) (j:=3) (j':=5) hx4 rfl rfl rfl rfl rfl rfl (fun _=>rfl) (fun _=>rfl) (by decide) trivial rfl rfl) (OkOps.y (.c (.tl 5 (List.map (eInt .i64) x4))) (OkOps.nil (Ok.conv (T:=⟨[(4,.s (.c (.tl 2000 (List.map (eInt .i64) x4))))],[(2000,.tail 1)],0⟩) (Conv.mk (tau [(2000,5)]) ⟨⟨_,rfl,.inl rfl⟩,trivial⟩ ⟨rfl,trivial⟩ rfl rfl rfl rfl) (Ok.ret ?_))))
 obtain rfl:=Option.some.inj hr
 exact ⟨_,rfl,.inl rfl,⟨rfl,trivial⟩⟩
theorem r14_path_all : ∀ n : Nat,(∀ (t : Tree) (id : Int) {r : (List Int)},r14_path n t id = some r → Con Tryz.prog 54 [.agg [cI t.Root,cI t.Next,.d (.sl (List.map Node.cs t.Nodes))],aI id] [] (.s (.c (.tl 2000 (List.map (eInt .i64) r)))) [(2000,.tail 1)]) ∧ True:=by
 intro n
 induction n with
 | zero=>exact ⟨(by intros;rename_i hr;cases hr),trivial⟩
 | succ n ih=>exact ⟨(by intros;rename_i hr;exact r14_path_B_c _ ih.1 _ _ hr),trivial⟩
theorem r14_path_c (n : Nat) (t : Tree) (id : Int) {r : (List Int)} (hr : r14_path n t id = some r) : Con Tryz.prog 54 [.agg [cI t.Root,cI t.Next,.d (.sl (List.map Node.cs t.Nodes))],aI id] [] (.s (.c (.tl 2000 (List.map (eInt .i64) r)))) [(2000,.tail 1)]:=(r14_path_all n).1 t id hr
theorem r14_Path_c (t : Tree) (id : Int) {r : (List Int)} (hr : r14_Path t id = some r) : Con Tryz.prog 27 [.agg [cI t.Root,cI t.Next,.d (.sl (List.map Node.cs t.Nodes))],aI id] [] (.s (.c (.d (.sl (List.map (eInt .i64) r))))) []:=by
 unfold r14_Path at hr
 refine Con.of_ok 17 0 [.tmp 4] [(0,.s (.agg [cI t.Root,cI t.Next,.d (.sl (List.map Node.cs t.Nodes))])),(1,.s (aI id))] Tryz.func27 rfl rfl rfl rfl rfl rfl rfl rfl fun w g M ρ _=>(Ok.seq (Ok.region (OkOps.m 0 (triBox (j:=0) (cs:=[cI t.Root,cI t.Next,.d (.sl (List.map Node.cs t.Nodes))]) rfl rfl rfl rfl rfl) (OkOps.y (.c (.d (.v (.slice none 0 0)))) (OkOps.nil (Ok.seq (Ok.seq (Ok.region (OkOps.y (.agg [cI t.Root,cI t.Next,.d (.sl (List.map Node.cs t.Nodes))]) ?_)))))))))
 obtain ⟨x1,hx1,hr⟩:=bind_some hr
 refine OkOps.q (triCl (tau []) (.s (aI x1)) [] (r14_Check_c _ hx1) rfl ⟨.inl rfl,trivial⟩ trivial entry52 trivial) (OkOps.y (aB (x1 != 0)) (OkOps.y (aB (x1 != 0)) (OkOps.q (triQG (x:=.agg [cI t.Root,cI t.Next,.d (.sl (List.map Node.cs t.Nodes))]) rfl rfl trivial rfl) (OkOps.q (triQG (x:=aI id) rfl rfl trivial rfl) ?_))))
 obtain ⟨x2,hx2,hr⟩:=bind_some hr
 refine OkOps.q (triCallG (x:=aI x2) (fun hg=>r14_Index_c _ _ (gO_t hx2 hg)) rfl rfl ⟨.inl rfl,.inl rfl,trivial⟩ ⟨fun h=>h,⟨fun h=>h,trivial⟩⟩ entry53 rfl rfl rfl) (OkOps.q (triQG (x:=aB (decide (x2 < 0))) rfl rfl ⟨fun h=>h,trivial⟩ rfl) ?_)
 refine OkOps.q (triOr rfl rfl (fun h=>by rw [h];rfl) rfl) ?_
 refine OkOps.nil ?_
 refine Ok.cond (b:=(x1 != 0) || (decide (x2 < 0))) rfl (fun h3=>?_) (fun h3=>?_)
 have hr:=selT h3 hr
 refine Ok.seq (Ok.region (OkOps.y (.c (.d (.v (.slice none 0 0)))) (OkOps.nil (Ok.ret ?_))))
 obtain rfl:=Option.some.inj hr
 exact ⟨_,rfl,.inr rfl,trivial⟩
 have hr:=selF h3 hr
 refine Ok.skip (Ok.seq (Ok.region (OkOps.y (.agg [cI t.Root,cI t.Next,.d (.sl (List.map Node.cs t.Nodes))]) (OkOps.y (aI id) ?_))))
 obtain ⟨x4,hx4,hr⟩:=bind_some hr
 refine OkOps.m 0 (triCall (tau [(2000,1)]) (.s (.c (.tl 1 (List.map (eInt .i64) x4)))) [(1,.tail 1)] (r14_path_c _ _ _ hx4) rfl ⟨.inl rfl,.inl rfl,trivial⟩ trivial entry54 trivial rfl rfl rfl rfl ⟨rfl,trivial⟩ rfl rfl rfl) (OkOps.y (.c (.tl 1 (List.map (eInt .i64) x4))) (OkOps.nil (Ok.ret ?_)))
 obtain rfl:=Option.some.inj hr
 exact ⟨_,rfl,.inr rfl,trivial⟩
theorem entry27 : Entry Tryz.prog 27:=⟨_,Tryz.func27,by kernel_rfl,by kernel_rfl⟩
end Go.Proofs.YtcenpkkficeaaaaGreatDoor
end
section
set_option maxRecDepth 100000
namespace Go.Proofs.YtcenpkkficeaaaaGreatDoor
open Go Go.E2
theorem entry13 : Entry Tryz.prog 13:=⟨_,Tryz.func13,by kernel_rfl,by kernel_rfl⟩
theorem r14_build_B_c (self0 : View → Int → Tree → Option Tree) (hself0 : ∀ (v : View) (parent : Int) (t : Tree) {r : Tree},self0 v parent t = some r → Con Tryz.prog 13 [.agg [cI v.Kind,cS v.Key,.d (.sl (List.map Attr.cs v.Attrs)),.d (.sl (List.map Action.cs v.Actions)),.d (.sl (List.map View.cs v.Kids))],aI parent,.agg [cI t.Root,cI t.Next,.own 0]] [(0,.vec 7 (List.map Node.cs t.Nodes))] (.s (.agg [cI r.Root,cI r.Next,.own 2000])) [(0,.dead),(2000,.vec 7 (List.map Node.cs r.Nodes))]) (v : View) (parent : Int) (t : Tree) {r : Tree} (hr : r14_build_B self0 v parent t = some r) : Con Tryz.prog 13 [.agg [cI v.Kind,cS v.Key,.d (.sl (List.map Attr.cs v.Attrs)),.d (.sl (List.map Action.cs v.Actions)),.d (.sl (List.map View.cs v.Kids))],aI parent,.agg [cI t.Root,cI t.Next,.own 0]] [(0,.vec 7 (List.map Node.cs t.Nodes))] (.s (.agg [cI r.Root,cI r.Next,.own 2000])) [(0,.dead),(2000,.vec 7 (List.map Node.cs r.Nodes))]:=by
 unfold r14_build_B at hr
 refine Con.of_ok 63 0 [.cell 6 27] [(0,.s (.agg [cI v.Kind,cS v.Key,.d (.sl (List.map Attr.cs v.Attrs)),.d (.sl (List.map Action.cs v.Actions)),.d (.sl (List.map View.cs v.Kids))])),(1,.s (aI parent)),(2,.s (.agg [cI t.Root,cI t.Next,.own 0]))] Tryz.func13 rfl rfl rfl rfl rfl rfl rfl rfl fun w g M ρ _=>(Ok.seq (Ok.region (OkOps.m 0 (triBox (j:=1) (cs:=[cI v.Kind,cS v.Key,.d (.sl (List.map Attr.cs v.Attrs)),.d (.sl (List.map Action.cs v.Actions)),.d (.sl (List.map View.cs v.Kids))]) rfl rfl rfl rfl rfl) (OkOps.m 0 (triBox (j:=2) (cs:=[cI t.Root,cI t.Next,.own 0]) rfl rfl rfl rfl rfl) (OkOps.m 0 (triAlloc (j:=3) (cs:=[cI 0,cI 0,.d (.v (.slice none 0 0))]) rfl rfl rfl rfl) (OkOps.nil (Ok.seq (Ok.region (OkOps.y (.c (.loc 2 1)) (OkOps.y (aI t.Next) (OkOps.y (aI t.Next) (OkOps.nil (Ok.seq (Ok.region (OkOps.y (.c (.loc 2 2)) ?_)))))))))))))))
 refine OkOps.y (.c (.own 0)) (OkOps.q (triLenV (enc:=Node.cs) t.Nodes rfl rfl rfl rfl) (OkOps.y (aI (t.Nodes.length : Int)) (OkOps.nil (Ok.seq (Ok.region (OkOps.y (.c (.loc 2 2)) (OkOps.y (.c (.own 0)) (OkOps.y (aI t.Next) (OkOps.y (aI parent) (OkOps.y (.c (.loc 1 0)) (OkOps.y (aI v.Kind) (OkOps.y (.c (.loc 1 1)) (OkOps.y (aS v.Key) (OkOps.y (.c (.loc 1 2)) (OkOps.y (.c (.d (.sl (List.map Attr.cs v.Attrs)))) ?_)))))))))))))))
 refine OkOps.y (.c (.loc 1 3)) (OkOps.y (.c (.d (.sl (List.map Action.cs v.Actions)))) (OkOps.y (.agg [cI t.Next,cI parent,cI v.Kind,cS v.Key,.d (.sl (List.map Attr.cs v.Attrs)),.d (.sl (List.map Action.cs v.Actions)),.d (.v (.slice none 0 0))]) (OkOps.m 0 (triBST (sz:=7) (enc:=Node.cs) (j:=4) ([(Node.mk t.Next parent v.Kind v.Key v.Attrs v.Actions ([] : (List Int)))]) rfl rfl rfl rfl rfl rfl rfl rfl (fun _=>rfl) trivial rfl rfl) ?_)))
 obtain ⟨x1,hx1,hr⟩:=bind_some hr
 refine OkOps.m2 0 (triAppV (enc:=Node.cs) (L:=t.Nodes) (X:=[(Node.mk t.Next parent v.Kind v.Key v.Attrs v.Actions ([] : (List Int)))]) (j:=0) (j':=5) hx1 rfl rfl rfl rfl rfl rfl (fun _=>rfl) (fun _=>rfl) trivial rfl rfl) (OkOps.y (.c (.loc 2 2)) (OkOps.w (triStoreF (cs':=[cI t.Root,cI t.Next,.own 5]) rfl rfl rfl rfl rfl rfl rfl rfl) (OkOps.nil (Ok.seq (Ok.region (OkOps.y (.c (.loc 2 1)) (OkOps.y (aI t.Next) (OkOps.y (aI (IntKind.i64.wrap (t.Next + 1))) (OkOps.y (.c (.loc 2 1)) (OkOps.w (triStore (cs':=[cI t.Root,cI (IntKind.i64.wrap (t.Next + 1)),.own 5]) rfl rfl rfl rfl rfl rfl rfl rfl rfl) (OkOps.nil (Ok.seq (Ok.region (OkOps.y (.c (.d (.v (.slice none 0 0)))) (OkOps.nil ?_)))))))))))))))
 obtain ⟨k3,hk3,hr⟩:=jn_some hr
 refine Ok.join (fun (s2 : (List Int) × Int × Int × (List Node))=>⟨[(5,.s (.c (.loc 2 0))),(6,.s (.c (.loc 3 0))),(8,.s (aI (t.Nodes.length : Int))),(9,.s (.c (.tl 1007 (List.map (eInt .i64) s2.1))))],[(0,.dead),(2,.blk [cI s2.2.1,cI s2.2.2.1,.own 1008] 27),(3,.blk [cI 0,cI 0,.d (.v (.slice none 0 0))] 27),(1007,.tail 1),(1008,.vec 7 (List.map Node.cs s2.2.2.2))],0⟩) k3 r (fun s2 hr=>?_) ?_
 rw [hk3] at hr
 refine Ok.seq (Ok.region (OkOps.y (.c (.loc 2 2)) (OkOps.y (.c (.own 1008)) (OkOps.y (aI (t.Nodes.length : Int)) (OkOps.y (.c (.tl 1007 (List.map (eInt .i64) s2.1))) ?_)))))
 obtain ⟨x4,hx4,hr⟩:=bind_some hr
 refine OkOps.q (triIdxV (enc:=Node.cs) (L:=s2.2.2.2) hx4 rfl rfl rfl rfl trivial rfl) (OkOps.q (triFldV (o:=6) (enc:=Node.cs) (L:=s2.2.2.2) rfl rfl rfl (by have:=(ixO_spec hx4).2;omega) rfl) ?_)
 obtain ⟨x5,hx5,hr⟩:=bind_some hr
 refine OkOps.w (triStoreVF (n:=1) (enc:=Node.cs) (L:=s2.2.2.2) (z:=(Node.mk x5.ID x5.Parent x5.Kind x5.Key x5.Attrs x5.Actions s2.1)) hx5 rfl rfl rfl rfl rfl rfl rfl rfl (by decide) (fun _=>rfl) rfl) (OkOps.nil (Ok.seq (Ok.region (OkOps.y (.agg [cI s2.2.1,cI s2.2.2.1,.own 1008]) (OkOps.w (triStoreF (cs':=[cI s2.2.1,cI s2.2.2.1,.own 1008]) rfl rfl rfl rfl rfl rfl rfl rfl) (OkOps.nil (Ok.conv (T:=⟨[(6,.s (.c (.loc 3 0)))],[(0,.dead),(3,.blk [cI s2.2.1,cI s2.2.2.1,.own 2000] 27),(2000,.vec 7 (List.map Node.cs (List.set s2.2.2.2 x4 (Node.mk x5.ID x5.Parent x5.Kind x5.Key x5.Attrs x5.Actions s2.1))))],0⟩) (Conv.mk (tau [(2000,1008)]) ⟨⟨_,rfl,.inl rfl⟩,trivial⟩ ⟨rfl,rfl,trivial⟩ rfl rfl rfl rfl) (Ok.ret ?_))))))))
 obtain rfl:=Option.some.inj hr
 exact ⟨_,rfl,.inl rfl,⟨(fun h=>by cases h),rfl,trivial⟩⟩
 clear hk3
 refine Ok.seq (Ok.region (OkOps.y (aI 0) (OkOps.nil (Ok.block (Ok.loopK (fun (s6 : (List Int) × Int × Int × Int × (List Node))=>⟨[(3,.s (.c (.loc 1 0))),(5,.s (.c (.loc 2 0))),(6,.s (.c (.loc 3 0))),(7,.s (aI t.Next)),(8,.s (aI (t.Nodes.length : Int))),(9,.s (.c (.tl 1012 (List.map (eInt .i64) s6.1)))),(10,.s (aI s6.2.1))],[(0,.dead),(1,.blk [cI v.Kind,cS v.Key,.d (.sl (List.map Attr.cs v.Attrs)),.d (.sl (List.map Action.cs v.Actions)),.d (.sl (List.map View.cs v.Kids))] 35),(2,.blk [cI s6.2.2.1,cI s6.2.2.2.1,.own 1013] 27),(3,.blk [cI 0,cI 0,.d (.v (.slice none 0 0))] 27),(1012,.tail 1),(1013,.vec 7 (List.map Node.cs s6.2.2.2.2))],0⟩) hr (Conv.trans (Conv.nil 9 1016 1 0 rfl rfl) (Conv.mk (tau [(1012,1016),(1013,5)]) ⟨⟨_,rfl,.inl rfl⟩,⟨_,rfl,.inl rfl⟩,⟨_,rfl,.inl rfl⟩,⟨_,rfl,.inl rfl⟩,⟨_,rfl,.inl rfl⟩,⟨_,rfl,.inl rfl⟩,⟨_,rfl,.inl rfl⟩,trivial⟩ ⟨rfl,rfl,rfl,rfl,rfl,trivial⟩ rfl rfl rfl rfl)) ?_)))))
 clear hr
 intro again7 s6 hr
 unfold r14_build_L1 at hr
 refine Ok.seq (Ok.seq (Ok.region (OkOps.y (aI s6.2.1) (OkOps.y (.c (.loc 1 4)) (OkOps.y (.c (.d (.sl (List.map View.cs v.Kids)))) (OkOps.q (triLen (enc:=View.cs) v.Kids rfl rfl trivial rfl) (OkOps.y (aB (decide (s6.2.1 < (v.Kids.length : Int)))) (OkOps.nil ?_))))))))
 refine Ok.cond (b:=decide (s6.2.1 < (v.Kids.length : Int))) rfl (fun h8=>?_) (fun h8=>?_)
 have hr:=selT h8 hr
 refine Ok.skip (Ok.seq (Ok.block (Ok.seq (Ok.region (OkOps.y (.c (.tl 1012 (List.map (eInt .i64) s6.1))) (OkOps.y (.c (.loc 2 1)) (OkOps.y (aI s6.2.2.2.1) (OkOps.m 0 (triBST (sz:=1) (enc:=(eInt .i64)) (j:=6) ([s6.2.2.2.1]) rfl rfl rfl rfl rfl rfl rfl rfl (fun _=>rfl) trivial rfl rfl) ?_))))))))
 obtain ⟨x9,hx9,hr⟩:=bind_some hr
 refine OkOps.m2 0 (triApp (enc:=(eInt .i64)) (L:=s6.1) (X:=[s6.2.2.2.1]) (j:=1012) (j':=7) hx9 rfl rfl rfl rfl rfl rfl (fun _=>rfl) (fun _=>rfl) (by decide) trivial rfl rfl) (OkOps.y (.c (.tl 7 (List.map (eInt .i64) x9))) (OkOps.nil (Ok.regionD (by kernel_rfl) (OkD.x (.c (.loc 1 4)) rfl trivial rfl (OkD.x (.c (.d (.sl (List.map View.cs v.Kids)))) rfl trivial rfl (OkD.x (aI s6.2.1) rfl trivial rfl ?_))))))
 obtain ⟨x10,hx10,hr⟩:=bind_some hr
 refine OkD.q (triIdx (enc:=View.cs) (L:=v.Kids) (row:=[dI x10.Kind,dS x10.Key,.sl (List.map Attr.cs x10.Attrs),.sl (List.map Action.cs x10.Actions),.sl (List.map View.cs x10.Kids)]) hx10 (View.cs_eq _) rfl rfl rfl (fun x=>by rw [View.cs_eq];rfl) trivial rfl) ?_
 refine OkD.x (.agg [cI x10.Kind,cS x10.Key,.d (.sl (List.map Attr.cs x10.Attrs)),.d (.sl (List.map Action.cs x10.Actions)),.d (.sl (List.map View.cs x10.Kids))]) rfl trivial rfl (OkD.x (aI t.Next) rfl trivial rfl (OkD.x (.agg [cI s6.2.2.1,cI s6.2.2.2.1,.own 1013]) rfl trivial rfl ?_))
 obtain ⟨x11,hx11,hr⟩:=bind_some hr
 refine OkD.m2 0 (triCall (tau [(0,1013),(2000,8)]) (.s (.agg [cI x11.Root,cI x11.Next,.own 8])) [(1013,.dead),(8,.vec 7 (List.map Node.cs x11.Nodes))] (hself0 _ _ _ hx11) rfl ⟨.inl rfl,.inl rfl,.inl rfl,trivial⟩ trivial entry13 ⟨rfl,trivial⟩ rfl rfl rfl rfl ⟨rfl,trivial⟩ rfl rfl rfl) (OkD.w (triStoreF (cs':=[cI x11.Root,cI x11.Next,.own 8]) rfl rfl rfl rfl rfl rfl rfl rfl) (OkD.nil (by kernel_rfl) (Ok.region (OkOps.y (aI s6.2.1) (OkOps.y (aI (IntKind.i64.wrap (s6.2.1 + 1))) (OkOps.y (aI (IntKind.i64.wrap (s6.2.1 + 1))) (OkOps.nil ?_)))))))
 exact ⟨(x9,IntKind.i64.wrap (s6.2.1 + 1),x11.Root,x11.Next,x11.Nodes),hr,(Conv.mk (tau [(1012,7),(1013,8)]) ⟨⟨_,rfl,.inl rfl⟩,⟨_,rfl,.inl rfl⟩,⟨_,rfl,.inl rfl⟩,⟨_,rfl,.inl rfl⟩,⟨_,rfl,.inl rfl⟩,⟨_,rfl,.inl rfl⟩,⟨_,rfl,.inl rfl⟩,trivial⟩ ⟨rfl,rfl,rfl,rfl,rfl,trivial⟩ rfl rfl rfl rfl)⟩
 have hr:=selF h8 hr
 refine Ok.exit ?_
 exact ⟨(s6.1,s6.2.2.1,s6.2.2.2.1,s6.2.2.2.2),hr,(Conv.mk (tau [(1007,1012),(1008,1013)]) ⟨⟨_,rfl,.inl rfl⟩,⟨_,rfl,.inl rfl⟩,⟨_,rfl,.inl rfl⟩,⟨_,rfl,.inl rfl⟩,trivial⟩ ⟨rfl,rfl,rfl,rfl,trivial⟩ rfl rfl rfl rfl)⟩
theorem r14_build_all : ∀ n : Nat,(∀ (v : View) (parent : Int) (t : Tree) {r : Tree},r14_build n v parent t = some r → Con Tryz.prog 13 [.agg [cI v.Kind,cS v.Key,.d (.sl (List.map Attr.cs v.Attrs)),.d (.sl (List.map Action.cs v.Actions)),.d (.sl (List.map View.cs v.Kids))],aI parent,.agg [cI t.Root,cI t.Next,.own 0]] [(0,.vec 7 (List.map Node.cs t.Nodes))] (.s (.agg [cI r.Root,cI r.Next,.own 2000])) [(0,.dead),(2000,.vec 7 (List.map Node.cs r.Nodes))]) ∧ True:=by
 intro n
 induction n with
 | zero=>exact ⟨(by intros;rename_i hr;cases hr),trivial⟩
 | succ n ih=>exact ⟨(by intros;rename_i hr;exact r14_build_B_c _ ih.1 _ _ _ hr),trivial⟩
theorem r14_build_c (n : Nat) (v : View) (parent : Int) (t : Tree) {r : Tree} (hr : r14_build n v parent t = some r) : Con Tryz.prog 13 [.agg [cI v.Kind,cS v.Key,.d (.sl (List.map Attr.cs v.Attrs)),.d (.sl (List.map Action.cs v.Actions)),.d (.sl (List.map View.cs v.Kids))],aI parent,.agg [cI t.Root,cI t.Next,.own 0]] [(0,.vec 7 (List.map Node.cs t.Nodes))] (.s (.agg [cI r.Root,cI r.Next,.own 2000])) [(0,.dead),(2000,.vec 7 (List.map Node.cs r.Nodes))]:=(r14_build_all n).1 v parent t hr
theorem r14_Build_c (v : View) (next : Int) {r : Tree × Int} (hr : r14_Build v next = some r) : Con Tryz.prog 5 [.agg [cI v.Kind,cS v.Key,.d (.sl (List.map Attr.cs v.Attrs)),.d (.sl (List.map Action.cs v.Actions)),.d (.sl (List.map View.cs v.Kids))],aI next] [] (.tup [.agg [cI r.1.Root,cI r.1.Next,.d (.sl (List.map Node.cs r.1.Nodes))],aI r.2]) []:=by
 unfold r14_Build at hr
 refine Con.of_ok 27 0 [.cell 4 27,.tmp 5] [(0,.s (.agg [cI v.Kind,cS v.Key,.d (.sl (List.map Attr.cs v.Attrs)),.d (.sl (List.map Action.cs v.Actions)),.d (.sl (List.map View.cs v.Kids))])),(1,.s (aI next))] Tryz.func5 rfl rfl rfl rfl rfl rfl rfl rfl fun w g M ρ _=>(Ok.seq (Ok.region (OkOps.m 0 (triBox (j:=0) (cs:=[cI v.Kind,cS v.Key,.d (.sl (List.map Attr.cs v.Attrs)),.d (.sl (List.map Action.cs v.Actions)),.d (.sl (List.map View.cs v.Kids))]) rfl rfl rfl rfl rfl) (OkOps.m 0 (triAlloc (j:=1) (cs:=[cI 0,cI 0,.d (.v (.slice none 0 0))]) rfl rfl rfl rfl) (OkOps.y (aI 0) (OkOps.nil (Ok.seq (Ok.seq (Ok.region (OkOps.y (.agg [cI v.Kind,cS v.Key,.d (.sl (List.map Attr.cs v.Attrs)),.d (.sl (List.map Action.cs v.Actions)),.d (.sl (List.map View.cs v.Kids))]) ?_))))))))))
 obtain ⟨x1,hx1,hr⟩:=bind_some hr
 refine OkOps.q (triCl (tau []) (.s (aI x1)) [] (r14_Validate_c _ hx1) rfl ⟨.inl rfl,trivial⟩ trivial entry12 trivial) (OkOps.y (aI x1) (OkOps.nil (Ok.seq (Ok.region (OkOps.y (aI x1) (OkOps.y (aB (x1 != 0)) (OkOps.nil ?_)))))))
 refine Ok.cond (b:=x1 != 0) rfl (fun h2=>?_) (fun h2=>?_)
 have hr:=selT h2 hr
 refine Ok.seq (Ok.region (OkOps.y (.agg [cI 0,cI 0,.d (.v (.slice none 0 0))]) (OkOps.y (aI x1) (OkOps.w (triStore (cs':=[cI 0,cI 0,.d (.v (.slice none 0 0))]) rfl rfl rfl rfl rfl rfl rfl rfl rfl) (OkOps.y (aI x1) (OkOps.nil (Ok.ret ?_)))))))
 obtain rfl:=Option.some.inj hr
 exact ⟨_,rfl,.inr rfl,trivial⟩
 have hr:=selF h2 hr
 refine Ok.skip (Ok.seq (Ok.seq (Ok.region (OkOps.y (aI next) (OkOps.y (aB (decide (next < 1))) (OkOps.y (aB (decide (next < 1))) (OkOps.q (triQG (x:=aI next) rfl rfl trivial rfl) (OkOps.q (triQG (x:=aB (decide (next > 1099511627376))) rfl rfl ⟨fun h=>h,trivial⟩ rfl) ?_))))))))
 refine OkOps.q (triOr rfl rfl (fun h=>by rw [h];rfl) rfl) ?_
 refine OkOps.nil ?_
 refine Ok.cond (b:=(decide (next < 1)) || (decide (next > 1099511627376))) rfl (fun h3=>?_) (fun h3=>?_)
 have hr:=selT h3 hr
 refine Ok.seq (Ok.region (OkOps.y (.agg [cI 0,cI 0,.d (.v (.slice none 0 0))]) (OkOps.w (triStore (cs':=[cI 0,cI 0,.d (.v (.slice none 0 0))]) rfl rfl rfl rfl rfl rfl rfl rfl rfl) (OkOps.y (aI 1) (OkOps.nil (Ok.ret ?_))))))
 obtain rfl:=Option.some.inj hr
 exact ⟨_,rfl,.inr rfl,trivial⟩
 have hr:=selF h3 hr
 refine Ok.skip (Ok.seq (Ok.region (OkOps.y (aI next) (OkOps.y (aI next) (OkOps.y (.agg [cI next,cI next,.d (.v (.slice none 0 0))]) (OkOps.m 0 (triAlloc (j:=2) (cs:=[cI 0,cI 0,.d (.v (.slice none 0 0))]) rfl rfl rfl rfl) (OkOps.w (triStore (cs':=[cI next,cI next,.d (.v (.slice none 0 0))]) rfl rfl rfl rfl rfl rfl rfl rfl rfl) (OkOps.nil (Ok.seq (Ok.region (OkOps.y (.agg [cI v.Kind,cS v.Key,.d (.sl (List.map Attr.cs v.Attrs)),.d (.sl (List.map Action.cs v.Actions)),.d (.sl (List.map View.cs v.Kids))]) (OkOps.y (.agg [cI next,cI next,.d (.v (.slice none 0 0))]) (OkOps.conv (Conv.nilAg 25 2 3 (.vec 7 (List.map Node.cs ([] : (List Node)))) (.own 3) [cI next,cI next,.d (.v (.slice none 0 0))] [cI next,cI next,.own 3] 0 rfl rfl rfl rfl (nil_vec Node.cs 7 3) (fun _ _ h=>h.symm)) ?_)))))))))))))
 obtain ⟨x4,hx4,hr⟩:=bind_some hr
 refine OkOps.m2 0 (triCall (tau [(0,3),(2000,4)]) (.s (.agg [cI x4.Root,cI x4.Next,.own 4])) [(3,.dead),(4,.vec 7 (List.map Node.cs x4.Nodes))] (r14_build_c _ _ _ _ hx4) rfl ⟨.inl rfl,.inl rfl,.inl rfl,trivial⟩ trivial entry13 ⟨rfl,trivial⟩ rfl rfl rfl rfl ⟨rfl,trivial⟩ rfl rfl rfl) (OkOps.w (triStoreF (cs':=[cI x4.Root,cI x4.Next,.own 4]) rfl rfl rfl rfl rfl rfl rfl rfl) (OkOps.y (aI 0) (OkOps.nil (Ok.conv (Conv.freezeV (enc:=Node.cs) (L:=x4.Nodes) [(26,.s (.agg [cI x4.Root,cI x4.Next,.d (.sl (List.map Node.cs x4.Nodes))]))] [(1,.blk [cI x4.Root,cI x4.Next,.d (.sl (List.map Node.cs x4.Nodes))] 27)] 4 0 rfl (fun _=>rfl) ⟨⟨_,rfl,rfl⟩,trivial⟩ ⟨⟨_,_,rfl,rfl⟩,trivial⟩) (Ok.ret ?_)))))
 obtain rfl:=Option.some.inj hr
 exact ⟨_,rfl,.inl rfl,trivial⟩
theorem entry5 : Entry Tryz.prog 5:=⟨_,Tryz.func5,by kernel_rfl,by kernel_rfl⟩
end Go.Proofs.YtcenpkkficeaaaaGreatDoor
end

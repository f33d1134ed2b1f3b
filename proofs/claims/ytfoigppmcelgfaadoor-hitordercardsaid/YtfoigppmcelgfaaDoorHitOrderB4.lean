/-
  Part 4 of the texts under the law HitOrder: the calculus, the plain functions, their walks, plain facts.
-/
import Derived.Test.YtfoigppmcelgfaaDoorHitOrderB3
import Derived.Test.YtfoigppmcelgfaaDoorProg
import Derived.KernelRfl
section
set_option maxRecDepth 100000
namespace Go.Proofs.YtfoigppmcelgfaaDoor
open Go Go.E2
theorem slices_Backward_Sl_Offset_Offset_c (L : (List Offset)) : Con Tryd.prog 54 [.c (.d (.sl (List.map Offset.cs L)))] [] (.s (.c (.fn 81 [(0,0)]))) [(0,.blk [.d (.sl (List.map Offset.cs L))] 81)]:=by
 refine Con.of_ok 4 0 [.tmp 2] [(0,.s (.c (.d (.sl (List.map Offset.cs L)))))] Tryd.func54 rfl rfl rfl rfl rfl rfl rfl rfl fun w g M ρ _=>(Ok.seq (Ok.region (OkOps.m 0 (triBox (j:=0) (cs:=[.d (.sl (List.map Offset.cs L))]) rfl rfl rfl rfl rfl) (OkOps.y (.c (.d (.v .nilFunc))) (OkOps.nil (Ok.seq (Ok.region (OkOps.q (triMkF [(0,0)] rfl trivial rfl) (OkOps.y (.c (.fn 81 [(0,0)])) (OkOps.nil (Ok.ret ?_)))))))))))
 exact ⟨_,rfl,.inl rfl,⟨rfl,trivial⟩⟩
theorem slices_Backward_Sl_child_child_c (L : (List hit_child)) : Con Tryd.prog 60 [.c (.d (.sl (List.map hit_child.cs L)))] [] (.s (.c (.fn 84 [(0,0)]))) [(0,.blk [.d (.sl (List.map hit_child.cs L))] 132)]:=by
 refine Con.of_ok 4 0 [.tmp 2] [(0,.s (.c (.d (.sl (List.map hit_child.cs L)))))] Tryd.func60 rfl rfl rfl rfl rfl rfl rfl rfl fun w g M ρ _=>(Ok.seq (Ok.region (OkOps.m 0 (triBox (j:=0) (cs:=[.d (.sl (List.map hit_child.cs L))]) rfl rfl rfl rfl rfl) (OkOps.y (.c (.d (.v .nilFunc))) (OkOps.nil (Ok.seq (Ok.region (OkOps.q (triMkF [(0,0)] rfl trivial rfl) (OkOps.y (.c (.fn 84 [(0,0)])) (OkOps.nil (Ok.ret ?_)))))))))))
 exact ⟨_,rfl,.inl rfl,⟨rfl,trivial⟩⟩
theorem ht_look_ct (t : Tree) (st : (List Styled)) (boxes : (List Box)) (offsets : (List Offset)) {r : hit_scene × Bool} (hr : ht_look t st boxes offsets = some r) (hb : r.2 = true) : Con Tryd.prog 28 [.agg [cI t.Root,cI t.Next,.d (.sl (List.map Node.cs t.Nodes))],.c (.d (.sl (List.map Styled.cs st))),.c (.d (.sl (List.map Box.cs boxes))),.c (.d (.sl (List.map Offset.cs offsets)))] [] (.tup [.c (.loc 7 0),aB true]) [(7,.blk [cI r.1.root,.d (.mp true (encM (kInt .i64) Node.cs r.1.nodes)),.d (.mp true (encM (kInt .i64) (eArr 22 (dInt .i64)) r.1.styles)),.d (.mp true (encM (kInt .i64) Box.cs r.1.boxes)),.d (.mp false (encM (kInt .i64) (eInt .i64) r.1.offsets))] 91)]:=by
 unfold ht_look at hr
 refine Con.of_ok 190 0 [.cell 8 82,.cell 9 4] [(0,.s (.agg [cI t.Root,cI t.Next,.d (.sl (List.map Node.cs t.Nodes))])),(1,.s (.c (.d (.sl (List.map Styled.cs st))))),(2,.s (.c (.d (.sl (List.map Box.cs boxes))))),(3,.s (.c (.d (.sl (List.map Offset.cs offsets)))))] Tryd.func28 rfl rfl rfl rfl rfl rfl rfl rfl fun w g M ρ _=>(Ok.seq (Ok.region (OkOps.m 0 (triBox (j:=0) (cs:=[cI t.Root,cI t.Next,.d (.sl (List.map Node.cs t.Nodes))]) rfl rfl rfl rfl rfl) (OkOps.m 0 (triAlloc (j:=1) (cs:=[.d (.v (.pointer none))]) rfl rfl rfl rfl) (OkOps.m 0 (triAlloc (j:=2) (cs:=[cB_ false]) rfl rfl rfl rfl) (OkOps.nil (Ok.seq (Ok.seq (Ok.region (OkOps.y (.agg [cI t.Root,cI t.Next,.d (.sl (List.map Node.cs t.Nodes))]) ?_))))))))))
 obtain ⟨x1,hx1,hr⟩:=bind_some hr
 refine OkOps.q (triCl (tau []) (.s (aI x1)) [] (vw_Check_c _ hx1) rfl ⟨.inl rfl,trivial⟩ trivial entry51 trivial) (OkOps.y (aB (x1 != 0)) (OkOps.y (aB (x1 != 0)) (OkOps.q (triQG (x:=.c (.d (.sl (List.map Styled.cs st)))) rfl rfl trivial rfl) (OkOps.q (triLenG (enc:=Styled.cs) st rfl rfl rfl ⟨fun h=>h,trivial⟩ rfl) (OkOps.q (triQG (x:=.c (.loc 0 2)) rfl rfl trivial rfl) (OkOps.q (triQG (x:=.c (.d (.sl (List.map Node.cs t.Nodes)))) rfl rfl ⟨fun h=>h,trivial⟩ rfl) (OkOps.q (triLenG (enc:=Node.cs) t.Nodes rfl rfl rfl ⟨fun h=>h,trivial⟩ rfl) (OkOps.q (triQG (x:=aB ((st.length : Int) != (t.Nodes.length : Int))) rfl rfl ⟨fun h=>h,⟨fun h=>h,trivial⟩⟩ rfl) ?_))))))))
 refine OkOps.q (triOr rfl rfl (fun h=>by rw [h];rfl) rfl) ?_
 refine OkOps.nil ?_
 refine Ok.cond (b:=(x1 != 0) || ((st.length : Int) != (t.Nodes.length : Int))) rfl (fun h2=>?_) (fun h2=>?_)
 have hr:=selT h2 hr
 refine Ok.seq (Ok.region (OkOps.w (triStore (cs':=[.d (.v (.pointer none))]) rfl rfl rfl rfl rfl rfl rfl rfl rfl) (OkOps.w (triStore (cs':=[cB_ false]) rfl rfl rfl rfl rfl rfl rfl rfl rfl) (OkOps.nil (Ok.ret ?_)))))
 obtain rfl:=Option.some.inj hr
 cases (show (false : Bool) = true from hb)
 have hr:=selF h2 hr
 refine Ok.skip (Ok.seq (Ok.region (OkOps.y (.c (.loc 0 0)) (OkOps.y (aI t.Root) (OkOps.m 0 (triMkM (j:=3) true rfl rfl) (OkOps.m 0 (triMkM (j:=4) true rfl rfl) (OkOps.m 0 (triMkM (j:=5) true rfl rfl) (OkOps.m 0 (triMkM (j:=6) false rfl rfl) (OkOps.q (triBuildF (x:=.agg [cI t.Root,.own 3,.own 4,.own 5,.own 6]) rfl rfl trivial rfl) (OkOps.m 0 (triBox (j:=7) (cs:=[cI t.Root,.own 3,.own 4,.own 5,.own 6]) rfl rfl rfl rfl rfl) (OkOps.m 0 (triAlloc (j:=8) (cs:=[.d (.v (.pointer none))]) rfl rfl rfl rfl) (OkOps.w (triStore (cs':=[.loc 7 0]) rfl rfl rfl rfl rfl rfl rfl rfl rfl) (OkOps.nil ?_)))))))))))))
 obtain ⟨k4,hk4,hr⟩:=jn_some hr
 refine Ok.join (fun (s3 : (List (Int × Node)) × (List (Int × (Nat → Int))))=>⟨[(2,.s (.c (.d (.sl (List.map Box.cs boxes))))),(3,.s (.c (.d (.sl (List.map Offset.cs offsets))))),(8,.s (.c (.loc 1 0))),(9,.s (.c (.loc 2 0))),(10,.s (.c (.loc 8 0)))],[(1,.blk [.d (.v (.pointer none))] 82),(2,.blk [cB_ false] 4),(3,.mp true (encM (kInt .i64) Node.cs s3.1)),(4,.mp true (encM (kInt .i64) (eArr 22 (dInt .i64)) s3.2)),(5,.mp true (encM (kInt .i64) Box.cs ([] : (List (Int × Box))))),(6,.mp false (encM (kInt .i64) (eInt .i64) ([] : (List (Int × Int))))),(7,.blk [cI t.Root,.own 3,.own 4,.own 5,.own 6] 91),(8,.blk [.loc 7 0] 82)],0⟩) k4 r (fun s3 hr=>?_) ?_
 rw [hk4] at hr
 obtain ⟨k6,hk6,hr⟩:=jn_some hr
 refine Ok.join (fun (s5 : (List (Int × Box)))=>⟨[(2,.s (.c (.d (.sl (List.map Box.cs boxes))))),(3,.s (.c (.d (.sl (List.map Offset.cs offsets))))),(8,.s (.c (.loc 1 0))),(9,.s (.c (.loc 2 0))),(10,.s (.c (.loc 8 0)))],[(1,.blk [.d (.v (.pointer none))] 82),(2,.blk [cB_ false] 4),(3,.mp true (encM (kInt .i64) Node.cs s3.1)),(4,.mp true (encM (kInt .i64) (eArr 22 (dInt .i64)) s3.2)),(5,.mp true (encM (kInt .i64) Box.cs s5)),(6,.mp false (encM (kInt .i64) (eInt .i64) ([] : (List (Int × Int))))),(7,.blk [cI t.Root,.own 3,.own 4,.own 5,.own 6] 91),(8,.blk [.loc 7 0] 82)],0⟩) k6 r (fun s5 hr=>?_) ?_
 rw [hk6] at hr
 obtain ⟨k8,hk8,hr⟩:=jn_some hr
 refine Ok.join (fun (s7 : Unit)=>⟨[(3,.s (.c (.d (.sl (List.map Offset.cs offsets))))),(8,.s (.c (.loc 1 0))),(9,.s (.c (.loc 2 0))),(10,.s (.c (.loc 8 0)))],[(1,.blk [.d (.v (.pointer none))] 82),(2,.blk [cB_ false] 4),(3,.mp true (encM (kInt .i64) Node.cs s3.1)),(4,.mp true (encM (kInt .i64) (eArr 22 (dInt .i64)) s3.2)),(5,.mp true (encM (kInt .i64) Box.cs s5)),(6,.mp false (encM (kInt .i64) (eInt .i64) ([] : (List (Int × Int))))),(7,.blk [cI t.Root,.own 3,.own 4,.own 5,.own 6] 91),(8,.blk [.loc 7 0] 82)],0⟩) k8 r (fun s7 hr=>?_) ?_
 rw [hk8] at hr
 obtain ⟨k10,hk10,hr⟩:=jn_some hr
 refine Ok.join (fun (s9 : (List (Int × Int)))=>⟨[(8,.s (.c (.loc 1 0))),(9,.s (.c (.loc 2 0))),(10,.s (.c (.loc 8 0)))],[(1,.blk [.d (.v (.pointer none))] 82),(2,.blk [cB_ false] 4),(3,.mp true (encM (kInt .i64) Node.cs s3.1)),(4,.mp true (encM (kInt .i64) (eArr 22 (dInt .i64)) s3.2)),(5,.mp true (encM (kInt .i64) Box.cs s5)),(6,.mp false (encM (kInt .i64) (eInt .i64) s9)),(7,.blk [cI t.Root,.own 3,.own 4,.own 5,.own 6] 91),(8,.blk [.loc 7 0] 82)],0⟩) k10 r (fun s9 hr=>?_) ?_
 rw [hk10] at hr
 refine Ok.seq (Ok.region (OkOps.y (.c (.loc 7 0)) (OkOps.w (triStore (cs':=[.loc 7 0]) rfl rfl rfl rfl rfl rfl rfl rfl rfl) (OkOps.w (triStore (cs':=[cB_ true]) rfl rfl rfl rfl rfl rfl rfl rfl rfl) (OkOps.nil (Ok.conv (Conv.freezeM [] [(7,.blk [cI t.Root,.d (.mp true (encM (kInt .i64) Node.cs s3.1)),.own 4,.own 5,.own 6] 91)] 3 0 rfl trivial ⟨⟨_,_,rfl,rfl⟩,trivial⟩) (Ok.conv (Conv.freezeM [] [(7,.blk [cI t.Root,.d (.mp true (encM (kInt .i64) Node.cs s3.1)),.d (.mp true (encM (kInt .i64) (eArr 22 (dInt .i64)) s3.2)),.own 5,.own 6] 91)] 4 0 rfl trivial ⟨⟨_,_,rfl,rfl⟩,trivial⟩) (Ok.conv (Conv.freezeM [] [(7,.blk [cI t.Root,.d (.mp true (encM (kInt .i64) Node.cs s3.1)),.d (.mp true (encM (kInt .i64) (eArr 22 (dInt .i64)) s3.2)),.d (.mp true (encM (kInt .i64) Box.cs s5)),.own 6] 91)] 5 0 rfl trivial ⟨⟨_,_,rfl,rfl⟩,trivial⟩) (Ok.conv (Conv.freezeM [] [(7,.blk [cI t.Root,.d (.mp true (encM (kInt .i64) Node.cs s3.1)),.d (.mp true (encM (kInt .i64) (eArr 22 (dInt .i64)) s3.2)),.d (.mp true (encM (kInt .i64) Box.cs s5)),.d (.mp false (encM (kInt .i64) (eInt .i64) s9))] 91)] 6 0 rfl trivial ⟨⟨_,_,rfl,rfl⟩,trivial⟩) (Ok.ret ?_))))))))))
 obtain rfl:=Option.some.inj hr
 exact ⟨_,rfl,.inl rfl,⟨rfl,trivial⟩⟩
 clear hk10
 refine Ok.seq (Ok.region (OkOps.y (.c (.d (.sl (List.map Offset.cs offsets)))) (OkOps.m 0 (triCall (tau [(0,9)]) (.s (.c (.fn 81 [(9,0)]))) [(9,.blk [.d (.sl (List.map Offset.cs offsets))] 81)] (slices_Backward_Sl_Offset_Offset_c offsets) rfl ⟨.inl rfl,trivial⟩ trivial entry54 trivial rfl rfl rfl rfl ⟨rfl,trivial⟩ rfl rfl rfl) (OkOps.nil (Ok.block ?_)))))
 refine Ok.rangeB (jl:=10) (nx:=0) (nx1:=0) (caps:=[(9,0)]) rfl rfl trivial Tryd.func81 rfl rfl rfl rfl rfl rfl (fun l ρ1 M1 ob hT1 E=>?_)
 refine Ok.seq (Ok.region (OkOps.y (.c (.d (.sl (List.map Offset.cs offsets)))) (OkOps.q (triLen (enc:=Offset.cs) offsets rfl rfl trivial rfl) (OkOps.y (aI (IntKind.i64.wrap ((offsets.length : Int) - 1))) (OkOps.y (aI (IntKind.i64.wrap ((offsets.length : Int) - 1))) (OkOps.nil ?_))))))
 obtain ⟨k12,hk12,hr⟩:=jn_some hr
 refine Ok.joinEnd (fun (s11 : (List (Int × Int)))=>⟨[],[(1,.blk [.d (.v (.pointer none))] 82),(2,.blk [cB_ false] 4),(3,.mp true (encM (kInt .i64) Node.cs s3.1)),(4,.mp true (encM (kInt .i64) (eArr 22 (dInt .i64)) s3.2)),(5,.mp true (encM (kInt .i64) Box.cs s5)),(6,.mp false (encM (kInt .i64) (eInt .i64) s11)),(7,.blk [cI t.Root,.own 3,.own 4,.own 5,.own 6] 91),(8,.blk [.loc 7 0] 82),(9,.blk [.d (.sl (List.map Offset.cs offsets))] 81),(10,.obj (ob .ready none))],0⟩) k12 r (fun s11 hr=>?_) ?_
 rw [hk12] at hr
 refine ⟨.inr rfl,.inl ⟨rfl,?_⟩⟩
 exact ⟨s11,hr,(Conv.mk (tau []) ⟨⟨_,rfl,.inl rfl⟩,⟨_,rfl,.inl rfl⟩,⟨_,rfl,.inl rfl⟩,trivial⟩ ⟨rfl,rfl,rfl,rfl,rfl,rfl,rfl,rfl,trivial⟩ rfl rfl rfl rfl)⟩
 clear hk12
 refine Ok.block (Ok.loopK (fun (s13 : Int × (List (Int × Int)))=>⟨[(0,.s (.c (.d (.v (yl l))))),(1,.s (.c (.loc 9 0))),(3,.s (aI s13.1))],[(1,.blk [.d (.v (.pointer none))] 82),(2,.blk [cB_ false] 4),(3,.mp true (encM (kInt .i64) Node.cs s3.1)),(4,.mp true (encM (kInt .i64) (eArr 22 (dInt .i64)) s3.2)),(5,.mp true (encM (kInt .i64) Box.cs s5)),(6,.mp false (encM (kInt .i64) (eInt .i64) s13.2)),(7,.blk [cI t.Root,.own 3,.own 4,.own 5,.own 6] 91),(8,.blk [.loc 7 0] 82),(9,.blk [.d (.sl (List.map Offset.cs offsets))] 81),(10,.obj (ob .ready none))],0⟩) hr (Conv.mk (tau []) ⟨⟨_,rfl,.inl rfl⟩,⟨_,rfl,.inl rfl⟩,⟨_,rfl,.inl rfl⟩,trivial⟩ ⟨rfl,rfl,rfl,rfl,rfl,rfl,rfl,rfl,rfl,rfl,trivial⟩ rfl rfl rfl rfl) ?_)
 clear hr
 intro again14 s13 hr
 unfold ht_look_L1 at hr
 refine Ok.seq (Ok.seq (Ok.region (OkOps.y (aI s13.1) (OkOps.y (aB (decide (s13.1 ≥ 0))) (OkOps.nil ?_)))))
 refine Ok.cond (b:=decide (s13.1 ≥ 0)) rfl (fun h15=>?_) (fun h15=>?_)
 have hr:=selT h15 hr
 refine Ok.skip (Ok.seq (Ok.block (Ok.seq (Ok.region (OkOps.y (.c (.d (.v (yl l)))) (OkOps.y (aI s13.1) (OkOps.y (.c (.d (.sl (List.map Offset.cs offsets)))) (OkOps.y (aI s13.1) ?_))))))))
 obtain ⟨x16,hx16,hr⟩:=bind_some hr
 refine OkOps.q (triIdx (enc:=Offset.cs) (L:=offsets) (row:=[dI x16.ID,dI x16.Y]) hx16 rfl rfl rfl rfl (fun _=>rfl) trivial rfl) (OkOps.y (.agg [cI x16.ID,cI x16.Y]) ?_)
 refine OkOps.yield (jl:=10) (v1:=aI s13.1) (v2:=.agg [cI x16.ID,cI x16.Y]) (nx:=0) E (by decide) rfl rfl rfl rfl trivial rfl rfl dom_cons dom_self (fun ρc Mc hT2=>?_)
 refine Ok.region (OkOps.m 0 (triAlloc (j:=11) (cs:=[cI 0,cI 0]) rfl rfl rfl rfl) (OkOps.w (triStore (cs':=[cI x16.ID,cI x16.Y]) rfl rfl rfl rfl rfl rfl rfl rfl rfl) (OkOps.nil ?_)))
 refine ⟨rfl,rfl,?_⟩
 refine Ok.block (Ok.seq (Ok.seq (Ok.region (OkOps.y (.c (.loc 11 1)) (OkOps.y (aI x16.Y) (OkOps.y (aB (decide (x16.Y < (-1099511627776)))) (OkOps.y (aB (decide (x16.Y < (-1099511627776)))) (OkOps.q (triQG (x:=.c (.loc 11 1)) rfl rfl trivial rfl) (OkOps.q (triQG (x:=aI x16.Y) rfl rfl ⟨fun h=>h,trivial⟩ rfl) (OkOps.q (triQG (x:=aB (decide (x16.Y > 1099511627776))) rfl rfl ⟨fun h=>h,trivial⟩ rfl) ?_))))))))))
 refine OkOps.q (triOr rfl rfl (fun h=>by rw [h];rfl) rfl) ?_
 refine OkOps.nil ?_
 refine Ok.cond (b:=(decide (x16.Y < (-1099511627776))) || (decide (x16.Y > 1099511627776))) rfl (fun h17=>?_) (fun h17=>?_)
 have hr:=selT h17 hr
 refine Ok.seq (Ok.region (OkOps.w (triStore (cs':=[.d (.v (.pointer none))]) rfl rfl rfl rfl rfl rfl rfl rfl rfl) (OkOps.w (triStore (cs':=[cB_ false]) rfl rfl rfl rfl rfl rfl rfl rfl rfl) (OkOps.nil (Ok.ret ?_)))))
 refine ⟨rfl,?_⟩
 refine OkOps.y (aB (!false)) (OkOps.nil ?_)
 refine Ok.cond (b:=!false) rfl (fun _=>?_) (fun h=>by cases h)
 refine Ok.ret ?_
 refine ⟨.inl rfl,.inr ⟨.ret,_,rfl,rfl,?_⟩⟩
 obtain rfl:=Option.some.inj hr
 cases (show (false : Bool) = true from hb)
 have hr:=selF h17 hr
 refine Ok.skip (Ok.regionD (by kernel_rfl) (OkD.x (.c (.loc 7 0)) rfl trivial rfl (OkD.x (.c (.loc 7 0)) rfl trivial rfl (OkD.x (.c (.loc 7 4)) rfl trivial rfl (OkD.x (.c (.own 6)) rfl trivial rfl (OkD.x (.c (.loc 11 0)) rfl trivial rfl (OkD.x (aI x16.ID) rfl trivial rfl (OkD.x (.c (.loc 11 1)) rfl trivial rfl (OkD.x (aI x16.Y) rfl trivial rfl (OkD.w (triMapUp (ek:=(kInt .i64)) (ev:=(eInt .i64)) (L:=s13.2) (z:=x16.Y) rfl rfl rfl rfl rfl rfl (keyInt Tryd.underlying3) (fun _ _=>rfl) rfl trivial) (OkD.nil (by kernel_rfl) ?_)))))))))))
 refine ⟨rfl,?_⟩
 refine OkOps.y (aB (!true)) (OkOps.nil ?_)
 refine Ok.cond (b:=!true) rfl (fun h=>by cases h) (fun _=>?_)
 refine Ok.skip (Ok.region (OkOps.y (aI s13.1) (OkOps.y (aI (IntKind.i64.wrap (s13.1 - 1))) (OkOps.y (aI (IntKind.i64.wrap (s13.1 - 1))) (OkOps.nil ?_)))))
 exact ⟨(IntKind.i64.wrap (s13.1 - 1),msetL s13.2 x16.ID x16.Y),hr,(Conv.mk (tau []) ⟨⟨_,rfl,.inl rfl⟩,⟨_,rfl,.inl rfl⟩,⟨_,rfl,.inl rfl⟩,trivial⟩ ⟨rfl,rfl,rfl,rfl,rfl,rfl,rfl,rfl,rfl,rfl,trivial⟩ rfl rfl rfl rfl)⟩
 have hr:=selF h15 hr
 refine Ok.exit ?_
 exact ⟨s13.2,hr,(Conv.mk (tau []) trivial ⟨rfl,rfl,rfl,rfl,rfl,rfl,rfl,rfl,rfl,rfl,trivial⟩ rfl rfl rfl rfl)⟩
 clear hk8
 refine Ok.seq (Ok.region (OkOps.y (.c (.d (.sl (List.map Box.cs boxes)))) (OkOps.q (triLen (enc:=Box.cs) boxes rfl rfl trivial rfl) (OkOps.y (aI 0) (OkOps.nil (Ok.block (Ok.loopK (fun (s20 : Int)=>⟨[(3,.s (.c (.d (.sl (List.map Offset.cs offsets))))),(8,.s (.c (.loc 1 0))),(9,.s (.c (.loc 2 0))),(10,.s (.c (.loc 8 0))),(131,.s (.c (.d (.sl (List.map Box.cs boxes))))),(132,.s (aI (boxes.length : Int))),(133,.s (aI s20))],[(1,.blk [.d (.v (.pointer none))] 82),(2,.blk [cB_ false] 4),(3,.mp true (encM (kInt .i64) Node.cs s3.1)),(4,.mp true (encM (kInt .i64) (eArr 22 (dInt .i64)) s3.2)),(5,.mp true (encM (kInt .i64) Box.cs s5)),(6,.mp false (encM (kInt .i64) (eInt .i64) ([] : (List (Int × Int))))),(7,.blk [cI t.Root,.own 3,.own 4,.own 5,.own 6] 91),(8,.blk [.loc 7 0] 82)],0⟩) hr (Conv.mk (tau []) ⟨⟨_,rfl,.inl rfl⟩,⟨_,rfl,.inl rfl⟩,⟨_,rfl,.inl rfl⟩,⟨_,rfl,.inl rfl⟩,⟨_,rfl,.inl rfl⟩,⟨_,rfl,.inl rfl⟩,⟨_,rfl,.inl rfl⟩,trivial⟩ ⟨rfl,rfl,rfl,rfl,rfl,rfl,rfl,rfl,trivial⟩ rfl rfl rfl rfl) ?_)))))))
 clear hr
 intro again21 s20 hr
 unfold ht_look_L2 at hr
 refine Ok.seq (Ok.region (OkOps.y (aB (decide (s20 < (boxes.length : Int)))) (OkOps.nil (Ok.seq ?_))))
 refine Ok.cond (b:=decide (s20 < (boxes.length : Int))) rfl (fun h22=>?_) (fun h22=>?_)
 have hr:=selT h22 hr
 refine Ok.skip (Ok.seq (Ok.block (Ok.seq (Ok.region ?_))))
 obtain ⟨x23,hx23,hr⟩:=bind_some hr
 refine OkOps.q (triIdx (enc:=Box.cs) (L:=boxes) (row:=[dI x23.ID,dI x23.Rect.X,dI x23.Rect.Y,dI x23.Rect.W,dI x23.Rect.H,dI x23.Baseline,.sl (List.map Line.cs x23.Lines)]) hx23 rfl rfl rfl rfl (fun _=>rfl) trivial rfl) (OkOps.y (.agg [cI x23.ID,cI x23.Rect.X,cI x23.Rect.Y,cI x23.Rect.W,cI x23.Rect.H,cI x23.Baseline,.d (.sl (List.map Line.cs x23.Lines))]) (OkOps.m 0 (triAlloc (j:=12) (cs:=[cI 0,cI 0,cI 0,cI 0,cI 0,cI 0,.d (.v (.slice none 0 0))]) rfl rfl rfl rfl) (OkOps.w (triStore (cs':=[cI x23.ID,cI x23.Rect.X,cI x23.Rect.Y,cI x23.Rect.W,cI x23.Rect.H,cI x23.Baseline,.d (.sl (List.map Line.cs x23.Lines))]) rfl rfl rfl rfl rfl rfl rfl rfl rfl) (OkOps.nil (Ok.seq (Ok.regionD (by kernel_rfl) (OkD.x (.c (.loc 7 0)) rfl trivial rfl (OkD.x (.c (.loc 7 0)) rfl trivial rfl (OkD.x (.c (.loc 7 1)) rfl trivial rfl (OkD.x (.c (.own 3)) rfl trivial rfl (OkD.x (.c (.loc 12 0)) rfl trivial rfl (OkD.x (aI x23.ID) rfl trivial rfl ?_))))))))))))
 obtain ⟨x24,hx24,hr⟩:=bind_some hr
 refine OkD.q (triLookT (agg:=true) (ek:=(kInt .i64)) (ev:=Node.cs) (L:=s3.1) (r:=.agg [cI x24.1.ID,cI x24.1.Parent,cI x24.1.Kind,cS x24.1.Key,.d (.sl (List.map Attr.cs x24.1.Attrs)),.d (.sl (List.map Action.cs x24.1.Actions)),.d (.sl (List.map (eInt .i64) x24.1.Kids))]) hx24 rfl rfl rfl (keyInt Tryd.underlying3) rfl rfl (fun h=>by cases h) rfl trivial rfl) ?_
 refine OkD.q (triMv (v:=.tup [.agg [cI x24.1.ID,cI x24.1.Parent,cI x24.1.Kind,cS x24.1.Key,.d (.sl (List.map Attr.cs x24.1.Attrs)),.d (.sl (List.map Action.cs x24.1.Actions)),.d (.sl (List.map (eInt .i64) x24.1.Kids))],aB x24.2]) rfl rfl) (OkD.x (.agg [cI x24.1.ID,cI x24.1.Parent,cI x24.1.Kind,cS x24.1.Key,.d (.sl (List.map Attr.cs x24.1.Attrs)),.d (.sl (List.map Action.cs x24.1.Actions)),.d (.sl (List.map (eInt .i64) x24.1.Kids))]) rfl trivial rfl (OkD.x (aB x24.2) rfl trivial rfl (OkD.m 0 (triAlloc (j:=13) (cs:=[cI 0,cI 0,cI 0,cS ByteArray.empty,.d (.v (.slice none 0 0)),.d (.v (.slice none 0 0)),.d (.v (.slice none 0 0))]) rfl rfl rfl rfl) (OkD.w (triStore (cs':=[cI x24.1.ID,cI x24.1.Parent,cI x24.1.Kind,cS x24.1.Key,.d (.sl (List.map Attr.cs x24.1.Attrs)),.d (.sl (List.map Action.cs x24.1.Actions)),.d (.sl (List.map (eInt .i64) x24.1.Kids))]) rfl rfl rfl rfl rfl rfl rfl rfl rfl) (OkD.x (aB x24.2) rfl trivial rfl (OkD.nil (by kernel_rfl) (Ok.seq (Ok.regionD (by kernel_rfl) (OkD.x (.c (.loc 7 0)) rfl trivial rfl (OkD.x (.c (.loc 7 0)) rfl trivial rfl (OkD.x (.c (.loc 7 3)) rfl trivial rfl (OkD.x (.c (.own 5)) rfl trivial rfl (OkD.x (.c (.loc 13 1)) rfl trivial rfl (OkD.x (aI x24.1.Parent) rfl trivial rfl ?_))))))))))))))
 obtain ⟨x25,hx25,hr⟩:=bind_some hr
 refine OkD.q (triLookT (agg:=true) (ek:=(kInt .i64)) (ev:=Box.cs) (L:=s5) (r:=.agg [cI x25.1.ID,cI x25.1.Rect.X,cI x25.1.Rect.Y,cI x25.1.Rect.W,cI x25.1.Rect.H,cI x25.1.Baseline,.d (.sl (List.map Line.cs x25.1.Lines))]) hx25 rfl rfl rfl (keyInt Tryd.underlying3) rfl rfl (fun h=>by cases h) rfl trivial rfl) ?_
 refine OkD.q (triMv (v:=.tup [.agg [cI x25.1.ID,cI x25.1.Rect.X,cI x25.1.Rect.Y,cI x25.1.Rect.W,cI x25.1.Rect.H,cI x25.1.Baseline,.d (.sl (List.map Line.cs x25.1.Lines))],aB x25.2]) rfl rfl) (OkD.x (.agg [cI x25.1.ID,cI x25.1.Rect.X,cI x25.1.Rect.Y,cI x25.1.Rect.W,cI x25.1.Rect.H,cI x25.1.Baseline,.d (.sl (List.map Line.cs x25.1.Lines))]) rfl trivial rfl (OkD.x (aB x25.2) rfl trivial rfl (OkD.m 0 (triAlloc (j:=14) (cs:=[cI 0,cI 0,cI 0,cI 0,cI 0,cI 0,.d (.v (.slice none 0 0))]) rfl rfl rfl rfl) (OkD.w (triStore (cs':=[cI x25.1.ID,cI x25.1.Rect.X,cI x25.1.Rect.Y,cI x25.1.Rect.W,cI x25.1.Rect.H,cI x25.1.Baseline,.d (.sl (List.map Line.cs x25.1.Lines))]) rfl rfl rfl rfl rfl rfl rfl rfl rfl) (OkD.x (aB x25.2) rfl trivial rfl (OkD.nil (by kernel_rfl) (Ok.seq (Ok.region (OkOps.y (aB x24.2) (OkOps.y (aB (!x24.2)) (OkOps.y (aB (!x24.2)) (OkOps.q (triQG (x:=.c (.loc 13 1)) rfl rfl trivial rfl) (OkOps.q (triQG (x:=aI x24.1.Parent) rfl rfl ⟨fun h=>h,trivial⟩ rfl) (OkOps.q (triQG (x:=aB (x24.1.Parent != 0)) rfl rfl ⟨fun h=>h,trivial⟩ rfl) (OkOps.q (triQG (x:=aB (x24.1.Parent != 0)) rfl rfl ⟨fun h=>h,trivial⟩ rfl) ?_)))))))))))))))
 refine OkOps.q (triQG (x:=aB x25.2) rfl rfl trivial rfl) (OkOps.q (triQG (x:=aB (!x25.2)) rfl rfl ⟨fun h=>h,trivial⟩ rfl) ?_)
 refine OkOps.q (triAndG rfl rfl rfl (fun h=>h) (fun h h2=>by rw [h,h2];rfl) rfl) ?_
 refine OkOps.q (triOr rfl rfl (fun h=>by rw [h];rfl) rfl) ?_
 refine OkOps.nil ?_
 refine Ok.cond (b:=(!x24.2) || ((x24.1.Parent != 0) && (!x25.2))) rfl (fun h26=>?_) (fun h26=>?_)
 have hr:=selT h26 hr
 refine Ok.seq (Ok.region (OkOps.w (triStore (cs':=[.d (.v (.pointer none))]) rfl rfl rfl rfl rfl rfl rfl rfl rfl) (OkOps.w (triStore (cs':=[cB_ false]) rfl rfl rfl rfl rfl rfl rfl rfl rfl) (OkOps.nil (Ok.ret ?_)))))
 obtain rfl:=Option.some.inj hr
 cases (show (false : Bool) = true from hb)
 have hr:=selF h26 hr
 refine Ok.skip (Ok.region (OkOps.y (aI (IntKind.i64.wrap (s20 + 1))) (OkOps.y (aI (IntKind.i64.wrap (s20 + 1))) (OkOps.nil ?_))))
 exact ⟨IntKind.i64.wrap (s20 + 1),hr,(Conv.mk (tau []) ⟨⟨_,rfl,.inl rfl⟩,⟨_,rfl,.inl rfl⟩,⟨_,rfl,.inl rfl⟩,⟨_,rfl,.inl rfl⟩,⟨_,rfl,.inl rfl⟩,⟨_,rfl,.inl rfl⟩,⟨_,rfl,.inl rfl⟩,trivial⟩ ⟨rfl,rfl,rfl,rfl,rfl,rfl,rfl,rfl,trivial⟩ rfl rfl rfl rfl)⟩
 have hr:=selF h22 hr
 refine Ok.exit ?_
 exact ⟨(),hr,(Conv.mk (tau []) ⟨⟨_,rfl,.inl rfl⟩,⟨_,rfl,.inl rfl⟩,⟨_,rfl,.inl rfl⟩,⟨_,rfl,.inl rfl⟩,trivial⟩ ⟨rfl,rfl,rfl,rfl,rfl,rfl,rfl,rfl,trivial⟩ rfl rfl rfl rfl)⟩
 clear hk6
 refine Ok.seq (Ok.region (OkOps.y (.c (.d (.sl (List.map Box.cs boxes)))) (OkOps.q (triLen (enc:=Box.cs) boxes rfl rfl trivial rfl) (OkOps.y (aI 0) (OkOps.nil (Ok.block (Ok.loopK (fun (s27 : Int × (List (Int × Box)))=>⟨[(2,.s (.c (.d (.sl (List.map Box.cs boxes))))),(3,.s (.c (.d (.sl (List.map Offset.cs offsets))))),(8,.s (.c (.loc 1 0))),(9,.s (.c (.loc 2 0))),(10,.s (.c (.loc 8 0))),(97,.s (.c (.d (.sl (List.map Box.cs boxes))))),(98,.s (aI (boxes.length : Int))),(99,.s (aI s27.1))],[(1,.blk [.d (.v (.pointer none))] 82),(2,.blk [cB_ false] 4),(3,.mp true (encM (kInt .i64) Node.cs s3.1)),(4,.mp true (encM (kInt .i64) (eArr 22 (dInt .i64)) s3.2)),(5,.mp true (encM (kInt .i64) Box.cs s27.2)),(6,.mp false (encM (kInt .i64) (eInt .i64) ([] : (List (Int × Int))))),(7,.blk [cI t.Root,.own 3,.own 4,.own 5,.own 6] 91),(8,.blk [.loc 7 0] 82)],0⟩) hr (Conv.mk (tau []) ⟨⟨_,rfl,.inl rfl⟩,⟨_,rfl,.inl rfl⟩,⟨_,rfl,.inl rfl⟩,⟨_,rfl,.inl rfl⟩,⟨_,rfl,.inl rfl⟩,⟨_,rfl,.inl rfl⟩,⟨_,rfl,.inl rfl⟩,⟨_,rfl,.inl rfl⟩,trivial⟩ ⟨rfl,rfl,rfl,rfl,rfl,rfl,rfl,rfl,trivial⟩ rfl rfl rfl rfl) ?_)))))))
 clear hr
 intro again28 s27 hr
 unfold ht_look_L3 at hr
 refine Ok.seq (Ok.region (OkOps.y (aB (decide (s27.1 < (boxes.length : Int)))) (OkOps.nil (Ok.seq ?_))))
 refine Ok.cond (b:=decide (s27.1 < (boxes.length : Int))) rfl (fun h29=>?_) (fun h29=>?_)
 have hr:=selT h29 hr
 refine Ok.skip (Ok.seq (Ok.block (Ok.seq (Ok.region (OkOps.y (aI s27.1) ?_)))))
 obtain ⟨x30,hx30,hr⟩:=bind_some hr
 refine OkOps.q (triIdx (enc:=Box.cs) (L:=boxes) (row:=[dI x30.ID,dI x30.Rect.X,dI x30.Rect.Y,dI x30.Rect.W,dI x30.Rect.H,dI x30.Baseline,.sl (List.map Line.cs x30.Lines)]) hx30 rfl rfl rfl rfl (fun _=>rfl) trivial rfl) (OkOps.y (.agg [cI x30.ID,cI x30.Rect.X,cI x30.Rect.Y,cI x30.Rect.W,cI x30.Rect.H,cI x30.Baseline,.d (.sl (List.map Line.cs x30.Lines))]) (OkOps.m 0 (triAlloc (j:=15) (cs:=[cI 0,cI 0,cI 0,cI 0,cI 0,cI 0,.d (.v (.slice none 0 0))]) rfl rfl rfl rfl) (OkOps.y (aI s27.1) (OkOps.w (triStore (cs':=[cI x30.ID,cI x30.Rect.X,cI x30.Rect.Y,cI x30.Rect.W,cI x30.Rect.H,cI x30.Baseline,.d (.sl (List.map Line.cs x30.Lines))]) rfl rfl rfl rfl rfl rfl rfl rfl rfl) (OkOps.nil (Ok.seq (Ok.seq (Ok.regionD (by kernel_rfl) (OkD.x (aI s27.1) rfl trivial rfl (OkD.x (aB (decide (s27.1 > 0))) rfl trivial rfl (OkD.x (aB (decide (s27.1 > 0))) rfl trivial rfl (OkD.q (triQG (x:=.c (.loc 15 0)) rfl rfl trivial rfl) (OkD.q (triQG (x:=aI x30.ID) rfl rfl ⟨fun h=>h,trivial⟩ rfl) (OkD.q (triQG (x:=.c (.d (.sl (List.map Box.cs boxes)))) rfl rfl trivial rfl) (OkD.q (triQG (x:=aI s27.1) rfl rfl trivial rfl) ?_)))))))))))))))
 refine OkD.q (triQG (x:=aI (IntKind.i64.wrap (s27.1 - 1))) rfl rfl ⟨fun h=>h,trivial⟩ rfl) ?_
 obtain ⟨x31,hx31,hr⟩:=bind_some hr
 refine OkD.q (triIdxG (enc:=Box.cs) (L:=boxes) (row:=[dI x31.ID,dI x31.Rect.X,dI x31.Rect.Y,dI x31.Rect.W,dI x31.Rect.H,dI x31.Baseline,.sl (List.map Line.cs x31.Lines)]) (gO_t hx31) rfl rfl rfl rfl rfl (fun _=>rfl) ⟨fun h=>h,⟨fun h=>h,trivial⟩⟩ rfl) (OkD.q (triQG (x:=.c (.pt [dI x31.ID,dI x31.Rect.X,dI x31.Rect.Y,dI x31.Rect.W,dI x31.Rect.H,dI x31.Baseline,.sl (List.map Line.cs x31.Lines)])) rfl rfl ⟨fun h=>h,trivial⟩ rfl) (OkD.q (triQG (x:=aI x31.ID) rfl rfl ⟨fun h=>h,trivial⟩ rfl) (OkD.q (triQG (x:=aB (decide (x30.ID ≤ x31.ID))) rfl rfl ⟨fun h=>h,⟨fun h=>h,trivial⟩⟩ rfl) (OkD.q (triAnd rfl rfl (fun h=>h) rfl) (OkD.x (aB ((decide (s27.1 > 0)) && (decide (x30.ID ≤ x31.ID)))) rfl trivial rfl (OkD.q (triQG (x:=.c (.loc 15 1)) rfl rfl trivial rfl) (OkD.q (triQG (x:=.agg [cI x30.Rect.X,cI x30.Rect.Y,cI x30.Rect.W,cI x30.Rect.H]) rfl rfl ⟨fun h=>h,trivial⟩ rfl) ?_)))))))
 obtain ⟨x32,hx32,hr⟩:=bind_some hr
 refine OkD.q (triCallG (x:=aI x32) (fun hg=>ge_Validate_c _ (gO_t hx32 hg)) rfl rfl ⟨.inl rfl,trivial⟩ ⟨fun h=>h,trivial⟩ entry53 rfl rfl rfl) (OkD.q (triQG (x:=aB (x32 != 0)) rfl rfl ⟨fun h=>h,trivial⟩ rfl) ?_)
 refine OkD.q (triOr rfl rfl (fun h=>by rw [h];rfl) rfl) ?_
 refine OkD.nil (by kernel_rfl) ?_
 refine Ok.cond (b:=((decide (s27.1 > 0)) && (decide (x30.ID ≤ x31.ID))) || (x32 != 0)) rfl (fun h33=>?_) (fun h33=>?_)
 have hr:=selT h33 hr
 refine Ok.seq (Ok.region (OkOps.w (triStore (cs':=[.d (.v (.pointer none))]) rfl rfl rfl rfl rfl rfl rfl rfl rfl) (OkOps.w (triStore (cs':=[cB_ false]) rfl rfl rfl rfl rfl rfl rfl rfl rfl) (OkOps.nil (Ok.ret ?_)))))
 obtain rfl:=Option.some.inj hr
 cases (show (false : Bool) = true from hb)
 have hr:=selF h33 hr
 refine Ok.skip (Ok.regionD (by kernel_rfl) (OkD.x (.c (.loc 7 0)) rfl trivial rfl (OkD.x (.c (.loc 7 0)) rfl trivial rfl (OkD.x (.c (.loc 7 3)) rfl trivial rfl (OkD.x (.c (.own 5)) rfl trivial rfl (OkD.x (.c (.loc 15 0)) rfl trivial rfl (OkD.x (aI x30.ID) rfl trivial rfl (OkD.x (.agg [cI x30.ID,cI x30.Rect.X,cI x30.Rect.Y,cI x30.Rect.W,cI x30.Rect.H,cI x30.Baseline,.d (.sl (List.map Line.cs x30.Lines))]) rfl trivial rfl ?_))))))))
 refine OkD.w (triMapUp (ek:=(kInt .i64)) (ev:=Box.cs) (L:=s27.2) (z:=x30) rfl rfl rfl rfl rfl rfl (keyInt Tryd.underlying3) (fun h=>by cases h) rfl trivial) ?_
 refine OkD.nil (by kernel_rfl) (Ok.region (OkOps.y (aI (IntKind.i64.wrap (s27.1 + 1))) (OkOps.y (aI (IntKind.i64.wrap (s27.1 + 1))) (OkOps.nil ?_))))
 exact ⟨(IntKind.i64.wrap (s27.1 + 1),msetL s27.2 x30.ID x30),hr,(Conv.mk (tau []) ⟨⟨_,rfl,.inl rfl⟩,⟨_,rfl,.inl rfl⟩,⟨_,rfl,.inl rfl⟩,⟨_,rfl,.inl rfl⟩,⟨_,rfl,.inl rfl⟩,⟨_,rfl,.inl rfl⟩,⟨_,rfl,.inl rfl⟩,⟨_,rfl,.inl rfl⟩,trivial⟩ ⟨rfl,rfl,rfl,rfl,rfl,rfl,rfl,rfl,trivial⟩ rfl rfl rfl rfl)⟩
 have hr:=selF h29 hr
 refine Ok.exit ?_
 exact ⟨s27.2,hr,(Conv.mk (tau []) ⟨⟨_,rfl,.inl rfl⟩,⟨_,rfl,.inl rfl⟩,⟨_,rfl,.inl rfl⟩,⟨_,rfl,.inl rfl⟩,⟨_,rfl,.inl rfl⟩,trivial⟩ ⟨rfl,rfl,rfl,rfl,rfl,rfl,rfl,rfl,trivial⟩ rfl rfl rfl rfl)⟩
 clear hk4
 refine Ok.seq (Ok.region (OkOps.y (.c (.loc 0 2)) (OkOps.y (.c (.d (.sl (List.map Node.cs t.Nodes)))) (OkOps.q (triLen (enc:=Node.cs) t.Nodes rfl rfl trivial rfl) (OkOps.y (aI 0) (OkOps.nil (Ok.block (Ok.loopK (fun (s34 : Int × (List (Int × Node)) × (List (Int × (Nat → Int))))=>⟨[(1,.s (.c (.d (.sl (List.map Styled.cs st))))),(2,.s (.c (.d (.sl (List.map Box.cs boxes))))),(3,.s (.c (.d (.sl (List.map Offset.cs offsets))))),(8,.s (.c (.loc 1 0))),(9,.s (.c (.loc 2 0))),(10,.s (.c (.loc 8 0))),(45,.s (.c (.d (.sl (List.map Node.cs t.Nodes))))),(46,.s (aI (t.Nodes.length : Int))),(47,.s (aI s34.1))],[(1,.blk [.d (.v (.pointer none))] 82),(2,.blk [cB_ false] 4),(3,.mp true (encM (kInt .i64) Node.cs s34.2.1)),(4,.mp true (encM (kInt .i64) (eArr 22 (dInt .i64)) s34.2.2)),(5,.mp true (encM (kInt .i64) Box.cs ([] : (List (Int × Box))))),(6,.mp false (encM (kInt .i64) (eInt .i64) ([] : (List (Int × Int))))),(7,.blk [cI t.Root,.own 3,.own 4,.own 5,.own 6] 91),(8,.blk [.loc 7 0] 82)],0⟩) hr (Conv.mk (tau []) ⟨⟨_,rfl,.inl rfl⟩,⟨_,rfl,.inl rfl⟩,⟨_,rfl,.inl rfl⟩,⟨_,rfl,.inl rfl⟩,⟨_,rfl,.inl rfl⟩,⟨_,rfl,.inl rfl⟩,⟨_,rfl,.inl rfl⟩,⟨_,rfl,.inl rfl⟩,⟨_,rfl,.inl rfl⟩,trivial⟩ ⟨rfl,rfl,rfl,rfl,rfl,rfl,rfl,rfl,trivial⟩ rfl rfl rfl rfl) ?_))))))))
 clear hr
 intro again35 s34 hr
 unfold ht_look_L5 at hr
 refine Ok.seq (Ok.region (OkOps.y (aB (decide (s34.1 < (t.Nodes.length : Int)))) (OkOps.nil (Ok.seq ?_))))
 refine Ok.cond (b:=decide (s34.1 < (t.Nodes.length : Int))) rfl (fun h36=>?_) (fun h36=>?_)
 have hr:=selT h36 hr
 refine Ok.skip ?_
 obtain ⟨k38,hk38,hr⟩:=jn_some hr
 refine Ok.join (fun (s37 : (List (Int × Node)) × (List (Int × (Nat → Int))))=>⟨[(1,.s (.c (.d (.sl (List.map Styled.cs st))))),(2,.s (.c (.d (.sl (List.map Box.cs boxes))))),(3,.s (.c (.d (.sl (List.map Offset.cs offsets))))),(8,.s (.c (.loc 1 0))),(9,.s (.c (.loc 2 0))),(10,.s (.c (.loc 8 0))),(45,.s (.c (.d (.sl (List.map Node.cs t.Nodes))))),(46,.s (aI (t.Nodes.length : Int))),(47,.s (aI s34.1))],[(1,.blk [.d (.v (.pointer none))] 82),(2,.blk [cB_ false] 4),(3,.mp true (encM (kInt .i64) Node.cs s37.1)),(4,.mp true (encM (kInt .i64) (eArr 22 (dInt .i64)) s37.2)),(5,.mp true (encM (kInt .i64) Box.cs ([] : (List (Int × Box))))),(6,.mp false (encM (kInt .i64) (eInt .i64) ([] : (List (Int × Int))))),(7,.blk [cI t.Root,.own 3,.own 4,.own 5,.own 6] 91),(8,.blk [.loc 7 0] 82)],0⟩) k38 r (fun s37 hr=>?_) ?_
 rw [hk38] at hr
 refine Ok.region (OkOps.y (aI (IntKind.i64.wrap (s34.1 + 1))) (OkOps.y (aI (IntKind.i64.wrap (s34.1 + 1))) (OkOps.nil ?_)))
 exact ⟨(IntKind.i64.wrap (s34.1 + 1),s37.1,s37.2),hr,(Conv.mk (tau []) ⟨⟨_,rfl,.inl rfl⟩,⟨_,rfl,.inl rfl⟩,⟨_,rfl,.inl rfl⟩,⟨_,rfl,.inl rfl⟩,⟨_,rfl,.inl rfl⟩,⟨_,rfl,.inl rfl⟩,⟨_,rfl,.inl rfl⟩,⟨_,rfl,.inl rfl⟩,⟨_,rfl,.inl rfl⟩,trivial⟩ ⟨rfl,rfl,rfl,rfl,rfl,rfl,rfl,rfl,trivial⟩ rfl rfl rfl rfl)⟩
 clear hk38
 refine Ok.block (Ok.seq (Ok.region (OkOps.y (aI s34.1) ?_)))
 obtain ⟨x39,hx39,hr⟩:=bind_some hr
 refine OkOps.q (triIdx (enc:=Node.cs) (L:=t.Nodes) (row:=[dI x39.ID,dI x39.Parent,dI x39.Kind,dS x39.Key,.sl (List.map Attr.cs x39.Attrs),.sl (List.map Action.cs x39.Actions),.sl (List.map (eInt .i64) x39.Kids)]) hx39 rfl rfl rfl rfl (fun _=>rfl) trivial rfl) (OkOps.y (.agg [cI x39.ID,cI x39.Parent,cI x39.Kind,cS x39.Key,.d (.sl (List.map Attr.cs x39.Attrs)),.d (.sl (List.map Action.cs x39.Actions)),.d (.sl (List.map (eInt .i64) x39.Kids))]) (OkOps.m 0 (triAlloc (j:=16) (cs:=[cI 0,cI 0,cI 0,cS ByteArray.empty,.d (.v (.slice none 0 0)),.d (.v (.slice none 0 0)),.d (.v (.slice none 0 0))]) rfl rfl rfl rfl) (OkOps.y (aI s34.1) (OkOps.w (triStore (cs':=[cI x39.ID,cI x39.Parent,cI x39.Kind,cS x39.Key,.d (.sl (List.map Attr.cs x39.Attrs)),.d (.sl (List.map Action.cs x39.Actions)),.d (.sl (List.map (eInt .i64) x39.Kids))]) rfl rfl rfl rfl rfl rfl rfl rfl rfl) (OkOps.nil (Ok.seq (Ok.seq (Ok.regionD (by kernel_rfl) (OkD.x (.c (.d (.sl (List.map Styled.cs st)))) rfl trivial rfl (OkD.x (aI s34.1) rfl trivial rfl ?_))))))))))
 obtain ⟨x40,hx40,hr⟩:=bind_some hr
 refine OkD.q (triIdx (enc:=Styled.cs) (L:=st) (row:=[dI x40.ID,dI (x40.Style 0),dI (x40.Style 1),dI (x40.Style 2),dI (x40.Style 3),dI (x40.Style 4),dI (x40.Style 5),dI (x40.Style 6),dI (x40.Style 7),dI (x40.Style 8),dI (x40.Style 9),dI (x40.Style 10),dI (x40.Style 11),dI (x40.Style 12),dI (x40.Style 13),dI (x40.Style 14),dI (x40.Style 15),dI (x40.Style 16),dI (x40.Style 17),dI (x40.Style 18),dI (x40.Style 19),dI (x40.Style 20),dI (x40.Style 21)]) hx40 rfl rfl rfl rfl (fun _=>rfl) trivial rfl) (OkD.x (.c (.pt [dI x40.ID,dI (x40.Style 0),dI (x40.Style 1),dI (x40.Style 2),dI (x40.Style 3),dI (x40.Style 4),dI (x40.Style 5),dI (x40.Style 6),dI (x40.Style 7),dI (x40.Style 8),dI (x40.Style 9),dI (x40.Style 10),dI (x40.Style 11),dI (x40.Style 12),dI (x40.Style 13),dI (x40.Style 14),dI (x40.Style 15),dI (x40.Style 16),dI (x40.Style 17),dI (x40.Style 18),dI (x40.Style 19),dI (x40.Style 20),dI (x40.Style 21)])) rfl trivial rfl (OkD.x (aI x40.ID) rfl trivial rfl (OkD.x (.c (.loc 16 0)) rfl trivial rfl (OkD.x (aI x39.ID) rfl trivial rfl (OkD.x (aB (x40.ID != x39.ID)) rfl trivial rfl (OkD.nil (by kernel_rfl) ?_))))))
 refine Ok.cond (b:=x40.ID != x39.ID) rfl (fun h41=>?_) (fun h41=>?_)
 have hr:=selT h41 hr
 refine Ok.seq (Ok.region (OkOps.w (triStore (cs':=[.d (.v (.pointer none))]) rfl rfl rfl rfl rfl rfl rfl rfl rfl) (OkOps.w (triStore (cs':=[cB_ false]) rfl rfl rfl rfl rfl rfl rfl rfl rfl) (OkOps.nil (Ok.ret ?_)))))
 obtain rfl:=Option.some.inj hr
 cases (show (false : Bool) = true from hb)
 have hr:=selF h41 hr
 refine Ok.skip ?_
 obtain ⟨k43,hk43,hr⟩:=jn_some hr
 refine Ok.join (fun (s42 : Unit)=>⟨[(1,.s (.c (.d (.sl (List.map Styled.cs st))))),(2,.s (.c (.d (.sl (List.map Box.cs boxes))))),(3,.s (.c (.d (.sl (List.map Offset.cs offsets))))),(8,.s (.c (.loc 1 0))),(9,.s (.c (.loc 2 0))),(10,.s (.c (.loc 8 0))),(11,.s (aI s34.1)),(12,.s (.c (.loc 16 0))),(45,.s (.c (.d (.sl (List.map Node.cs t.Nodes))))),(46,.s (aI (t.Nodes.length : Int))),(47,.s (aI s34.1))],[(1,.blk [.d (.v (.pointer none))] 82),(2,.blk [cB_ false] 4),(3,.mp true (encM (kInt .i64) Node.cs s34.2.1)),(4,.mp true (encM (kInt .i64) (eArr 22 (dInt .i64)) s34.2.2)),(5,.mp true (encM (kInt .i64) Box.cs ([] : (List (Int × Box))))),(6,.mp false (encM (kInt .i64) (eInt .i64) ([] : (List (Int × Int))))),(7,.blk [cI t.Root,.own 3,.own 4,.own 5,.own 6] 91),(8,.blk [.loc 7 0] 82),(16,.blk [cI x39.ID,cI x39.Parent,cI x39.Kind,cS x39.Key,.d (.sl (List.map Attr.cs x39.Attrs)),.d (.sl (List.map Action.cs x39.Actions)),.d (.sl (List.map (eInt .i64) x39.Kids))] 96)],0⟩) k43 r (fun s42 hr=>?_) ?_
 rw [hk43] at hr
 refine Ok.regionD (by kernel_rfl) (OkD.x (.c (.loc 7 0)) rfl trivial rfl (OkD.x (.c (.loc 7 0)) rfl trivial rfl (OkD.x (.c (.loc 7 1)) rfl trivial rfl (OkD.x (.c (.own 3)) rfl trivial rfl (OkD.x (.c (.loc 16 0)) rfl trivial rfl (OkD.x (aI x39.ID) rfl trivial rfl (OkD.x (.c (.loc 7 0)) rfl trivial rfl (OkD.x (.c (.loc 7 0)) rfl trivial rfl (OkD.x (.c (.loc 7 2)) rfl trivial rfl (OkD.x (.c (.own 4)) rfl trivial rfl (OkD.x (.c (.loc 16 0)) rfl trivial rfl (OkD.x (aI x39.ID) rfl trivial rfl (OkD.x (.agg [cI x39.ID,cI x39.Parent,cI x39.Kind,cS x39.Key,.d (.sl (List.map Attr.cs x39.Attrs)),.d (.sl (List.map Action.cs x39.Actions)),.d (.sl (List.map (eInt .i64) x39.Kids))]) rfl trivial rfl (OkD.x (.c (.d (.sl (List.map Styled.cs st)))) rfl trivial rfl (OkD.x (aI s34.1) rfl trivial rfl ?_)))))))))))))))
 obtain ⟨x44,hx44,hr⟩:=bind_some hr
 refine OkD.q (triIdx (enc:=Styled.cs) (L:=st) (row:=[dI x44.ID,dI (x44.Style 0),dI (x44.Style 1),dI (x44.Style 2),dI (x44.Style 3),dI (x44.Style 4),dI (x44.Style 5),dI (x44.Style 6),dI (x44.Style 7),dI (x44.Style 8),dI (x44.Style 9),dI (x44.Style 10),dI (x44.Style 11),dI (x44.Style 12),dI (x44.Style 13),dI (x44.Style 14),dI (x44.Style 15),dI (x44.Style 16),dI (x44.Style 17),dI (x44.Style 18),dI (x44.Style 19),dI (x44.Style 20),dI (x44.Style 21)]) hx44 rfl rfl rfl rfl (fun _=>rfl) trivial rfl) (OkD.x (.c (.pt [dI (x44.Style 0),dI (x44.Style 1),dI (x44.Style 2),dI (x44.Style 3),dI (x44.Style 4),dI (x44.Style 5),dI (x44.Style 6),dI (x44.Style 7),dI (x44.Style 8),dI (x44.Style 9),dI (x44.Style 10),dI (x44.Style 11),dI (x44.Style 12),dI (x44.Style 13),dI (x44.Style 14),dI (x44.Style 15),dI (x44.Style 16),dI (x44.Style 17),dI (x44.Style 18),dI (x44.Style 19),dI (x44.Style 20),dI (x44.Style 21)])) rfl trivial rfl (OkD.x (.agg [cI (x44.Style 0),cI (x44.Style 1),cI (x44.Style 2),cI (x44.Style 3),cI (x44.Style 4),cI (x44.Style 5),cI (x44.Style 6),cI (x44.Style 7),cI (x44.Style 8),cI (x44.Style 9),cI (x44.Style 10),cI (x44.Style 11),cI (x44.Style 12),cI (x44.Style 13),cI (x44.Style 14),cI (x44.Style 15),cI (x44.Style 16),cI (x44.Style 17),cI (x44.Style 18),cI (x44.Style 19),cI (x44.Style 20),cI (x44.Style 21)]) rfl trivial rfl ?_))
 obtain ⟨x45,hx45,hr⟩:=bind_some hr
 refine OkD.m 0 (triMapEntry (ek:=(kInt .i64)) (ev:=Node.cs) (L:=s34.2.1) (yo:=x45) (r:=.agg [cI x45.1.ID,cI x45.1.Parent,cI x45.1.Kind,cS x45.1.Key,.d (.sl (List.map Attr.cs x45.1.Attrs)),.d (.sl (List.map Action.cs x45.1.Actions)),.d (.sl (List.map (eInt .i64) x45.1.Kids))]) hx45 rfl rfl rfl rfl (keyInt Tryd.underlying3) rfl rfl (fun h=>by cases h) rfl rfl trivial rfl) ?_
 refine OkD.x (aI (((midx (msetL s34.2.1 x39.ID x45.1) x39.ID).getD 0 : Nat) : Int)) rfl trivial rfl ?_
 refine OkD.w (triEntryStore (ek:=(kInt .i64)) (ev:=Node.cs) (L:=msetL s34.2.1 x39.ID x45.1) (k:=x39.ID) (z:=x39) (midx_self s34.2.1 x39.ID x45.1) rfl rfl rfl rfl rfl rfl (keyInt Tryd.underlying3) (fun h=>by cases h) (msetL_twice s34.2.1 x39.ID x45.1 x39) trivial) ?_
 obtain ⟨x46,hx46,hr⟩:=bind_some hr
 refine OkD.m 0 (triMapEntry (ek:=(kInt .i64)) (ev:=(eArr 22 (dInt .i64))) (L:=s34.2.2) (yo:=x46) (r:=.agg [cI (x46.1 0),cI (x46.1 1),cI (x46.1 2),cI (x46.1 3),cI (x46.1 4),cI (x46.1 5),cI (x46.1 6),cI (x46.1 7),cI (x46.1 8),cI (x46.1 9),cI (x46.1 10),cI (x46.1 11),cI (x46.1 12),cI (x46.1 13),cI (x46.1 14),cI (x46.1 15),cI (x46.1 16),cI (x46.1 17),cI (x46.1 18),cI (x46.1 19),cI (x46.1 20),cI (x46.1 21)]) hx46 rfl rfl rfl rfl (keyInt Tryd.underlying3) rfl rfl (fun h=>by cases h) rfl rfl trivial rfl) ?_
 refine OkD.x (aI (((midx (msetL s34.2.2 x39.ID x46.1) x39.ID).getD 0 : Nat) : Int)) rfl trivial rfl ?_
 refine OkD.w (triEntryStore (ek:=(kInt .i64)) (ev:=(eArr 22 (dInt .i64))) (L:=msetL s34.2.2 x39.ID x46.1) (k:=x39.ID) (z:=x44.Style) (midx_self s34.2.2 x39.ID x46.1) rfl rfl rfl rfl rfl rfl (keyInt Tryd.underlying3) (fun h=>by cases h) (msetL_twice s34.2.2 x39.ID x46.1 x44.Style) trivial) ?_
 refine OkD.nil (by kernel_rfl) ?_
 exact ⟨(msetL s34.2.1 x39.ID x39,msetL s34.2.2 x39.ID x44.Style),hr,(Conv.mk (tau []) ⟨⟨_,rfl,.inl rfl⟩,⟨_,rfl,.inl rfl⟩,⟨_,rfl,.inl rfl⟩,⟨_,rfl,.inl rfl⟩,⟨_,rfl,.inl rfl⟩,⟨_,rfl,.inl rfl⟩,⟨_,rfl,.inl rfl⟩,⟨_,rfl,.inl rfl⟩,⟨_,rfl,.inl rfl⟩,trivial⟩ ⟨rfl,rfl,rfl,rfl,rfl,rfl,rfl,rfl,trivial⟩ rfl rfl rfl rfl)⟩
 clear hk43
 refine Ok.seq (Ok.region (OkOps.y (.c (.d (.sl (List.map Styled.cs st)))) (OkOps.y (aI s34.1) ?_)))
 obtain ⟨x47,hx47,hr⟩:=bind_some hr
 refine OkOps.q (triIdx (enc:=Styled.cs) (L:=st) (row:=[dI x47.ID,dI (x47.Style 0),dI (x47.Style 1),dI (x47.Style 2),dI (x47.Style 3),dI (x47.Style 4),dI (x47.Style 5),dI (x47.Style 6),dI (x47.Style 7),dI (x47.Style 8),dI (x47.Style 9),dI (x47.Style 10),dI (x47.Style 11),dI (x47.Style 12),dI (x47.Style 13),dI (x47.Style 14),dI (x47.Style 15),dI (x47.Style 16),dI (x47.Style 17),dI (x47.Style 18),dI (x47.Style 19),dI (x47.Style 20),dI (x47.Style 21)]) hx47 rfl rfl rfl rfl (fun _=>rfl) trivial rfl) (OkOps.y (.c (.pt [dI (x47.Style 0),dI (x47.Style 1),dI (x47.Style 2),dI (x47.Style 3),dI (x47.Style 4),dI (x47.Style 5),dI (x47.Style 6),dI (x47.Style 7),dI (x47.Style 8),dI (x47.Style 9),dI (x47.Style 10),dI (x47.Style 11),dI (x47.Style 12),dI (x47.Style 13),dI (x47.Style 14),dI (x47.Style 15),dI (x47.Style 16),dI (x47.Style 17),dI (x47.Style 18),dI (x47.Style 19),dI (x47.Style 20),dI (x47.Style 21)])) (OkOps.y (.agg [cI (x47.Style 0),cI (x47.Style 1),cI (x47.Style 2),cI (x47.Style 3),cI (x47.Style 4),cI (x47.Style 5),cI (x47.Style 6),cI (x47.Style 7),cI (x47.Style 8),cI (x47.Style 9),cI (x47.Style 10),cI (x47.Style 11),cI (x47.Style 12),cI (x47.Style 13),cI (x47.Style 14),cI (x47.Style 15),cI (x47.Style 16),cI (x47.Style 17),cI (x47.Style 18),cI (x47.Style 19),cI (x47.Style 20),cI (x47.Style 21)]) (OkOps.y (aI 0) (OkOps.nil (Ok.block (Ok.loopK (fun (s48 : Int)=>⟨[(1,.s (.c (.d (.sl (List.map Styled.cs st))))),(2,.s (.c (.d (.sl (List.map Box.cs boxes))))),(3,.s (.c (.d (.sl (List.map Offset.cs offsets))))),(8,.s (.c (.loc 1 0))),(9,.s (.c (.loc 2 0))),(10,.s (.c (.loc 8 0))),(11,.s (aI s34.1)),(12,.s (.c (.loc 16 0))),(45,.s (.c (.d (.sl (List.map Node.cs t.Nodes))))),(46,.s (aI (t.Nodes.length : Int))),(47,.s (aI s34.1)),(64,.s (.agg [cI (x47.Style 0),cI (x47.Style 1),cI (x47.Style 2),cI (x47.Style 3),cI (x47.Style 4),cI (x47.Style 5),cI (x47.Style 6),cI (x47.Style 7),cI (x47.Style 8),cI (x47.Style 9),cI (x47.Style 10),cI (x47.Style 11),cI (x47.Style 12),cI (x47.Style 13),cI (x47.Style 14),cI (x47.Style 15),cI (x47.Style 16),cI (x47.Style 17),cI (x47.Style 18),cI (x47.Style 19),cI (x47.Style 20),cI (x47.Style 21)])),(65,.s (aI s48))],[(1,.blk [.d (.v (.pointer none))] 82),(2,.blk [cB_ false] 4),(3,.mp true (encM (kInt .i64) Node.cs s34.2.1)),(4,.mp true (encM (kInt .i64) (eArr 22 (dInt .i64)) s34.2.2)),(5,.mp true (encM (kInt .i64) Box.cs ([] : (List (Int × Box))))),(6,.mp false (encM (kInt .i64) (eInt .i64) ([] : (List (Int × Int))))),(7,.blk [cI t.Root,.own 3,.own 4,.own 5,.own 6] 91),(8,.blk [.loc 7 0] 82),(16,.blk [cI x39.ID,cI x39.Parent,cI x39.Kind,cS x39.Key,.d (.sl (List.map Attr.cs x39.Attrs)),.d (.sl (List.map Action.cs x39.Actions)),.d (.sl (List.map (eInt .i64) x39.Kids))] 96)],0⟩) hr (Conv.mk (tau []) ⟨⟨_,rfl,.inl rfl⟩,⟨_,rfl,.inl rfl⟩,⟨_,rfl,.inl rfl⟩,⟨_,rfl,.inl rfl⟩,⟨_,rfl,.inl rfl⟩,⟨_,rfl,.inl rfl⟩,⟨_,rfl,.inl rfl⟩,⟨_,rfl,.inl rfl⟩,⟨_,rfl,.inl rfl⟩,⟨_,rfl,.inl rfl⟩,⟨_,rfl,.inl rfl⟩,⟨_,rfl,.inl rfl⟩,⟨_,rfl,.inl rfl⟩,trivial⟩ ⟨rfl,rfl,rfl,rfl,rfl,rfl,rfl,rfl,rfl,trivial⟩ rfl rfl rfl rfl) ?_))))))
 clear hr
 intro again49 s48 hr
 unfold ht_look_L4 at hr
 refine Ok.seq (Ok.region (OkOps.y (aB (decide (s48 < 22))) (OkOps.nil (Ok.seq ?_))))
 refine Ok.cond (b:=decide (s48 < 22)) rfl (fun h50=>?_) (fun h50=>?_)
 have hr:=selT h50 hr
 refine Ok.skip (Ok.seq (Ok.block (Ok.seq (Ok.region (OkOps.y (aI s48) ?_)))))
 obtain ⟨x51,hx51,hr⟩:=bind_some hr
 refine OkOps.q (triIxA (c:=cI (x47.Style x51)) hx51 rfl rfl rfl rfl (arr1_get (e1:=dInt .i64) (a:=x47.Style) (ixO_spec hx51).2) trivial rfl) (OkOps.y (aI s48) (OkOps.y (aI (x47.Style x51)) (OkOps.nil (Ok.seq (Ok.region (OkOps.y (aI s48) (OkOps.y (aI (x47.Style x51)) ?_)))))))
 obtain ⟨x52,hx52,hr⟩:=bind_some hr
 refine OkOps.q (triCl (tau []) (.s (aB x52)) [] (widgetry_style_InRange_c _ _ hx52) rfl ⟨.inl rfl,.inl rfl,trivial⟩ trivial entry52 trivial) (OkOps.y (aB (!x52)) (OkOps.nil ?_))
 refine Ok.cond (b:=!x52) rfl (fun h53=>?_) (fun h53=>?_)
 have hr:=selT h53 hr
 refine Ok.seq (Ok.region (OkOps.w (triStore (cs':=[.d (.v (.pointer none))]) rfl rfl rfl rfl rfl rfl rfl rfl rfl) (OkOps.w (triStore (cs':=[cB_ false]) rfl rfl rfl rfl rfl rfl rfl rfl rfl) (OkOps.nil (Ok.ret ?_)))))
 obtain rfl:=Option.some.inj hr
 cases (show (false : Bool) = true from hb)
 have hr:=selF h53 hr
 refine Ok.skip (Ok.region (OkOps.y (aI (IntKind.i64.wrap (s48 + 1))) (OkOps.y (aI (IntKind.i64.wrap (s48 + 1))) (OkOps.nil ?_))))
 exact ⟨IntKind.i64.wrap (s48 + 1),hr,(Conv.mk (tau []) ⟨⟨_,rfl,.inl rfl⟩,⟨_,rfl,.inl rfl⟩,⟨_,rfl,.inl rfl⟩,⟨_,rfl,.inl rfl⟩,⟨_,rfl,.inl rfl⟩,⟨_,rfl,.inl rfl⟩,⟨_,rfl,.inl rfl⟩,⟨_,rfl,.inl rfl⟩,⟨_,rfl,.inl rfl⟩,⟨_,rfl,.inl rfl⟩,⟨_,rfl,.inl rfl⟩,⟨_,rfl,.inl rfl⟩,⟨_,rfl,.inl rfl⟩,trivial⟩ ⟨rfl,rfl,rfl,rfl,rfl,rfl,rfl,rfl,rfl,trivial⟩ rfl rfl rfl rfl)⟩
 have hr:=selF h50 hr
 refine Ok.exit ?_
 exact ⟨(),hr,(Conv.mk (tau []) ⟨⟨_,rfl,.inl rfl⟩,⟨_,rfl,.inl rfl⟩,⟨_,rfl,.inl rfl⟩,⟨_,rfl,.inl rfl⟩,⟨_,rfl,.inl rfl⟩,⟨_,rfl,.inl rfl⟩,⟨_,rfl,.inl rfl⟩,⟨_,rfl,.inl rfl⟩,⟨_,rfl,.inl rfl⟩,⟨_,rfl,.inl rfl⟩,⟨_,rfl,.inl rfl⟩,trivial⟩ ⟨rfl,rfl,rfl,rfl,rfl,rfl,rfl,rfl,rfl,trivial⟩ rfl rfl rfl rfl)⟩
 have hr:=selF h36 hr
 refine Ok.exit ?_
 exact ⟨(s34.2.1,s34.2.2),hr,(Conv.mk (tau []) ⟨⟨_,rfl,.inl rfl⟩,⟨_,rfl,.inl rfl⟩,⟨_,rfl,.inl rfl⟩,⟨_,rfl,.inl rfl⟩,⟨_,rfl,.inl rfl⟩,trivial⟩ ⟨rfl,rfl,rfl,rfl,rfl,rfl,rfl,rfl,trivial⟩ rfl rfl rfl rfl)⟩
theorem ht_look_cf (t : Tree) (st : (List Styled)) (boxes : (List Box)) (offsets : (List Offset)) {r : hit_scene × Bool} (hr : ht_look t st boxes offsets = some r) (hb : r.2 = false) : Con Tryd.prog 28 [.agg [cI t.Root,cI t.Next,.d (.sl (List.map Node.cs t.Nodes))],.c (.d (.sl (List.map Styled.cs st))),.c (.d (.sl (List.map Box.cs boxes))),.c (.d (.sl (List.map Offset.cs offsets)))] [] (.tup [.c (.d (.v (.pointer none))),aB false]) []:=by
 unfold ht_look at hr
 refine Con.of_ok 190 0 [.cell 8 82,.cell 9 4] [(0,.s (.agg [cI t.Root,cI t.Next,.d (.sl (List.map Node.cs t.Nodes))])),(1,.s (.c (.d (.sl (List.map Styled.cs st))))),(2,.s (.c (.d (.sl (List.map Box.cs boxes))))),(3,.s (.c (.d (.sl (List.map Offset.cs offsets)))))] Tryd.func28 rfl rfl rfl rfl rfl rfl rfl rfl fun w g M ρ _=>(Ok.seq (Ok.region (OkOps.m 0 (triBox (j:=0) (cs:=[cI t.Root,cI t.Next,.d (.sl (List.map Node.cs t.Nodes))]) rfl rfl rfl rfl rfl) (OkOps.m 0 (triAlloc (j:=1) (cs:=[.d (.v (.pointer none))]) rfl rfl rfl rfl) (OkOps.m 0 (triAlloc (j:=2) (cs:=[cB_ false]) rfl rfl rfl rfl) (OkOps.nil (Ok.seq (Ok.seq (Ok.region (OkOps.y (.agg [cI t.Root,cI t.Next,.d (.sl (List.map Node.cs t.Nodes))]) ?_))))))))))
 obtain ⟨x1,hx1,hr⟩:=bind_some hr
 refine OkOps.q (triCl (tau []) (.s (aI x1)) [] (vw_Check_c _ hx1) rfl ⟨.inl rfl,trivial⟩ trivial entry51 trivial) (OkOps.y (aB (x1 != 0)) (OkOps.y (aB (x1 != 0)) (OkOps.q (triQG (x:=.c (.d (.sl (List.map Styled.cs st)))) rfl rfl trivial rfl) (OkOps.q (triLenG (enc:=Styled.cs) st rfl rfl rfl ⟨fun h=>h,trivial⟩ rfl) (OkOps.q (triQG (x:=.c (.loc 0 2)) rfl rfl trivial rfl) (OkOps.q (triQG (x:=.c (.d (.sl (List.map Node.cs t.Nodes)))) rfl rfl ⟨fun h=>h,trivial⟩ rfl) (OkOps.q (triLenG (enc:=Node.cs) t.Nodes rfl rfl rfl ⟨fun h=>h,trivial⟩ rfl) (OkOps.q (triQG (x:=aB ((st.length : Int) != (t.Nodes.length : Int))) rfl rfl ⟨fun h=>h,⟨fun h=>h,trivial⟩⟩ rfl) ?_))))))))
 refine OkOps.q (triOr rfl rfl (fun h=>by rw [h];rfl) rfl) ?_
 refine OkOps.nil ?_
 refine Ok.cond (b:=(x1 != 0) || ((st.length : Int) != (t.Nodes.length : Int))) rfl (fun h2=>?_) (fun h2=>?_)
 have hr:=selT h2 hr
 refine Ok.seq (Ok.region (OkOps.w (triStore (cs':=[.d (.v (.pointer none))]) rfl rfl rfl rfl rfl rfl rfl rfl rfl) (OkOps.w (triStore (cs':=[cB_ false]) rfl rfl rfl rfl rfl rfl rfl rfl rfl) (OkOps.nil (Ok.ret ?_)))))
 obtain rfl:=Option.some.inj hr
 exact ⟨_,rfl,.inl rfl,trivial⟩
 have hr:=selF h2 hr
 refine Ok.skip (Ok.seq (Ok.region (OkOps.y (.c (.loc 0 0)) (OkOps.y (aI t.Root) (OkOps.m 0 (triMkM (j:=3) true rfl rfl) (OkOps.m 0 (triMkM (j:=4) true rfl rfl) (OkOps.m 0 (triMkM (j:=5) true rfl rfl) (OkOps.m 0 (triMkM (j:=6) false rfl rfl) (OkOps.q (triBuildF (x:=.agg [cI t.Root,.own 3,.own 4,.own 5,.own 6]) rfl rfl trivial rfl) (OkOps.m 0 (triBox (j:=7) (cs:=[cI t.Root,.own 3,.own 4,.own 5,.own 6]) rfl rfl rfl rfl rfl) (OkOps.m 0 (triAlloc (j:=8) (cs:=[.d (.v (.pointer none))]) rfl rfl rfl rfl) (OkOps.w (triStore (cs':=[.loc 7 0]) rfl rfl rfl rfl rfl rfl rfl rfl rfl) (OkOps.nil ?_)))))))))))))
 obtain ⟨k4,hk4,hr⟩:=jn_some hr
 refine Ok.join (fun (s3 : (List (Int × Node)) × (List (Int × (Nat → Int))))=>⟨[(2,.s (.c (.d (.sl (List.map Box.cs boxes))))),(3,.s (.c (.d (.sl (List.map Offset.cs offsets))))),(8,.s (.c (.loc 1 0))),(9,.s (.c (.loc 2 0))),(10,.s (.c (.loc 8 0)))],[(1,.blk [.d (.v (.pointer none))] 82),(2,.blk [cB_ false] 4),(3,.mp true (encM (kInt .i64) Node.cs s3.1)),(4,.mp true (encM (kInt .i64) (eArr 22 (dInt .i64)) s3.2)),(5,.mp true (encM (kInt .i64) Box.cs ([] : (List (Int × Box))))),(6,.mp false (encM (kInt .i64) (eInt .i64) ([] : (List (Int × Int))))),(7,.blk [cI t.Root,.own 3,.own 4,.own 5,.own 6] 91),(8,.blk [.loc 7 0] 82)],0⟩) k4 r (fun s3 hr=>?_) ?_
 rw [hk4] at hr
 obtain ⟨k6,hk6,hr⟩:=jn_some hr
 refine Ok.join (fun (s5 : (List (Int × Box)))=>⟨[(2,.s (.c (.d (.sl (List.map Box.cs boxes))))),(3,.s (.c (.d (.sl (List.map Offset.cs offsets))))),(8,.s (.c (.loc 1 0))),(9,.s (.c (.loc 2 0))),(10,.s (.c (.loc 8 0)))],[(1,.blk [.d (.v (.pointer none))] 82),(2,.blk [cB_ false] 4),(3,.mp true (encM (kInt .i64) Node.cs s3.1)),(4,.mp true (encM (kInt .i64) (eArr 22 (dInt .i64)) s3.2)),(5,.mp true (encM (kInt .i64) Box.cs s5)),(6,.mp false (encM (kInt .i64) (eInt .i64) ([] : (List (Int × Int))))),(7,.blk [cI t.Root,.own 3,.own 4,.own 5,.own 6] 91),(8,.blk [.loc 7 0] 82)],0⟩) k6 r (fun s5 hr=>?_) ?_
 rw [hk6] at hr
 obtain ⟨k8,hk8,hr⟩:=jn_some hr
 refine Ok.join (fun (s7 : Unit)=>⟨[(3,.s (.c (.d (.sl (List.map Offset.cs offsets))))),(8,.s (.c (.loc 1 0))),(9,.s (.c (.loc 2 0))),(10,.s (.c (.loc 8 0)))],[(1,.blk [.d (.v (.pointer none))] 82),(2,.blk [cB_ false] 4),(3,.mp true (encM (kInt .i64) Node.cs s3.1)),(4,.mp true (encM (kInt .i64) (eArr 22 (dInt .i64)) s3.2)),(5,.mp true (encM (kInt .i64) Box.cs s5)),(6,.mp false (encM (kInt .i64) (eInt .i64) ([] : (List (Int × Int))))),(7,.blk [cI t.Root,.own 3,.own 4,.own 5,.own 6] 91),(8,.blk [.loc 7 0] 82)],0⟩) k8 r (fun s7 hr=>?_) ?_
 rw [hk8] at hr
 obtain ⟨k10,hk10,hr⟩:=jn_some hr
 refine Ok.join (fun (s9 : (List (Int × Int)))=>⟨[(8,.s (.c (.loc 1 0))),(9,.s (.c (.loc 2 0))),(10,.s (.c (.loc 8 0)))],[(1,.blk [.d (.v (.pointer none))] 82),(2,.blk [cB_ false] 4),(3,.mp true (encM (kInt .i64) Node.cs s3.1)),(4,.mp true (encM (kInt .i64) (eArr 22 (dInt .i64)) s3.2)),(5,.mp true (encM (kInt .i64) Box.cs s5)),(6,.mp false (encM (kInt .i64) (eInt .i64) s9)),(7,.blk [cI t.Root,.own 3,.own 4,.own 5,.own 6] 91),(8,.blk [.loc 7 0] 82)],0⟩) k10 r (fun s9 hr=>?_) ?_
 rw [hk10] at hr
 refine Ok.seq (Ok.region (OkOps.y (.c (.loc 7 0)) (OkOps.w (triStore (cs':=[.loc 7 0]) rfl rfl rfl rfl rfl rfl rfl rfl rfl) (OkOps.w (triStore (cs':=[cB_ true]) rfl rfl rfl rfl rfl rfl rfl rfl rfl) (OkOps.nil (Ok.conv (Conv.freezeM [] [(7,.blk [cI t.Root,.d (.mp true (encM (kInt .i64) Node.cs s3.1)),.own 4,.own 5,.own 6] 91)] 3 0 rfl trivial ⟨⟨_,_,rfl,rfl⟩,trivial⟩) (Ok.conv (Conv.freezeM [] [(7,.blk [cI t.Root,.d (.mp true (encM (kInt .i64) Node.cs s3.1)),.d (.mp true (encM (kInt .i64) (eArr 22 (dInt .i64)) s3.2)),.own 5,.own 6] 91)] 4 0 rfl trivial ⟨⟨_,_,rfl,rfl⟩,trivial⟩) (Ok.conv (Conv.freezeM [] [(7,.blk [cI t.Root,.d (.mp true (encM (kInt .i64) Node.cs s3.1)),.d (.mp true (encM (kInt .i64) (eArr 22 (dInt .i64)) s3.2)),.d (.mp true (encM (kInt .i64) Box.cs s5)),.own 6] 91)] 5 0 rfl trivial ⟨⟨_,_,rfl,rfl⟩,trivial⟩) (Ok.conv (Conv.freezeM [] [(7,.blk [cI t.Root,.d (.mp true (encM (kInt .i64) Node.cs s3.1)),.d (.mp true (encM (kInt .i64) (eArr 22 (dInt .i64)) s3.2)),.d (.mp true (encM (kInt .i64) Box.cs s5)),.d (.mp false (encM (kInt .i64) (eInt .i64) s9))] 91)] 6 0 rfl trivial ⟨⟨_,_,rfl,rfl⟩,trivial⟩) (Ok.ret ?_))))))))))
 obtain rfl:=Option.some.inj hr
 cases (show (true : Bool) = false from hb)
 clear hk10
 refine Ok.seq (Ok.region (OkOps.y (.c (.d (.sl (List.map Offset.cs offsets)))) (OkOps.m 0 (triCall (tau [(0,9)]) (.s (.c (.fn 81 [(9,0)]))) [(9,.blk [.d (.sl (List.map Offset.cs offsets))] 81)] (slices_Backward_Sl_Offset_Offset_c offsets) rfl ⟨.inl rfl,trivial⟩ trivial entry54 trivial rfl rfl rfl rfl ⟨rfl,trivial⟩ rfl rfl rfl) (OkOps.nil (Ok.block ?_)))))
 refine Ok.rangeB (jl:=10) (nx:=0) (nx1:=0) (caps:=[(9,0)]) rfl rfl trivial Tryd.func81 rfl rfl rfl rfl rfl rfl (fun l ρ1 M1 ob hT1 E=>?_)
 refine Ok.seq (Ok.region (OkOps.y (.c (.d (.sl (List.map Offset.cs offsets)))) (OkOps.q (triLen (enc:=Offset.cs) offsets rfl rfl trivial rfl) (OkOps.y (aI (IntKind.i64.wrap ((offsets.length : Int) - 1))) (OkOps.y (aI (IntKind.i64.wrap ((offsets.length : Int) - 1))) (OkOps.nil ?_))))))
 obtain ⟨k12,hk12,hr⟩:=jn_some hr
 refine Ok.joinEnd (fun (s11 : (List (Int × Int)))=>⟨[],[(1,.blk [.d (.v (.pointer none))] 82),(2,.blk [cB_ false] 4),(3,.mp true (encM (kInt .i64) Node.cs s3.1)),(4,.mp true (encM (kInt .i64) (eArr 22 (dInt .i64)) s3.2)),(5,.mp true (encM (kInt .i64) Box.cs s5)),(6,.mp false (encM (kInt .i64) (eInt .i64) s11)),(7,.blk [cI t.Root,.own 3,.own 4,.own 5,.own 6] 91),(8,.blk [.loc 7 0] 82),(9,.blk [.d (.sl (List.map Offset.cs offsets))] 81),(10,.obj (ob .ready none))],0⟩) k12 r (fun s11 hr=>?_) ?_
 rw [hk12] at hr
 refine ⟨.inr rfl,.inl ⟨rfl,?_⟩⟩
 exact ⟨s11,hr,(Conv.mk (tau []) ⟨⟨_,rfl,.inl rfl⟩,⟨_,rfl,.inl rfl⟩,⟨_,rfl,.inl rfl⟩,trivial⟩ ⟨rfl,rfl,rfl,rfl,rfl,rfl,rfl,rfl,trivial⟩ rfl rfl rfl rfl)⟩
 clear hk12
 refine Ok.block (Ok.loopK (fun (s13 : Int × (List (Int × Int)))=>⟨[(0,.s (.c (.d (.v (yl l))))),(1,.s (.c (.loc 9 0))),(3,.s (aI s13.1))],[(1,.blk [.d (.v (.pointer none))] 82),(2,.blk [cB_ false] 4),(3,.mp true (encM (kInt .i64) Node.cs s3.1)),(4,.mp true (encM (kInt .i64) (eArr 22 (dInt .i64)) s3.2)),(5,.mp true (encM (kInt .i64) Box.cs s5)),(6,.mp false (encM (kInt .i64) (eInt .i64) s13.2)),(7,.blk [cI t.Root,.own 3,.own 4,.own 5,.own 6] 91),(8,.blk [.loc 7 0] 82),(9,.blk [.d (.sl (List.map Offset.cs offsets))] 81),(10,.obj (ob .ready none))],0⟩) hr (Conv.mk (tau []) ⟨⟨_,rfl,.inl rfl⟩,⟨_,rfl,.inl rfl⟩,⟨_,rfl,.inl rfl⟩,trivial⟩ ⟨rfl,rfl,rfl,rfl,rfl,rfl,rfl,rfl,rfl,rfl,trivial⟩ rfl rfl rfl rfl) ?_)
 clear hr
 intro again14 s13 hr
 unfold ht_look_L1 at hr
 refine Ok.seq (Ok.seq (Ok.region (OkOps.y (aI s13.1) (OkOps.y (aB (decide (s13.1 ≥ 0))) (OkOps.nil ?_)))))
 refine Ok.cond (b:=decide (s13.1 ≥ 0)) rfl (fun h15=>?_) (fun h15=>?_)
 have hr:=selT h15 hr
 refine Ok.skip (Ok.seq (Ok.block (Ok.seq (Ok.region (OkOps.y (.c (.d (.v (yl l)))) (OkOps.y (aI s13.1) (OkOps.y (.c (.d (.sl (List.map Offset.cs offsets)))) (OkOps.y (aI s13.1) ?_))))))))
 obtain ⟨x16,hx16,hr⟩:=bind_some hr
 refine OkOps.q (triIdx (enc:=Offset.cs) (L:=offsets) (row:=[dI x16.ID,dI x16.Y]) hx16 rfl rfl rfl rfl (fun _=>rfl) trivial rfl) (OkOps.y (.agg [cI x16.ID,cI x16.Y]) ?_)
 refine OkOps.yield (jl:=10) (v1:=aI s13.1) (v2:=.agg [cI x16.ID,cI x16.Y]) (nx:=0) E (by decide) rfl rfl rfl rfl trivial rfl rfl dom_cons dom_self (fun ρc Mc hT2=>?_)
 refine Ok.region (OkOps.m 0 (triAlloc (j:=11) (cs:=[cI 0,cI 0]) rfl rfl rfl rfl) (OkOps.w (triStore (cs':=[cI x16.ID,cI x16.Y]) rfl rfl rfl rfl rfl rfl rfl rfl rfl) (OkOps.nil ?_)))
 refine ⟨rfl,rfl,?_⟩
 refine Ok.block (Ok.seq (Ok.seq (Ok.region (OkOps.y (.c (.loc 11 1)) (OkOps.y (aI x16.Y) (OkOps.y (aB (decide (x16.Y < (-1099511627776)))) (OkOps.y (aB (decide (x16.Y < (-1099511627776)))) (OkOps.q (triQG (x:=.c (.loc 11 1)) rfl rfl trivial rfl) (OkOps.q (triQG (x:=aI x16.Y) rfl rfl ⟨fun h=>h,trivial⟩ rfl) (OkOps.q (triQG (x:=aB (decide (x16.Y > 1099511627776))) rfl rfl ⟨fun h=>h,trivial⟩ rfl) ?_))))))))))
 refine OkOps.q (triOr rfl rfl (fun h=>by rw [h];rfl) rfl) ?_
 refine OkOps.nil ?_
 refine Ok.cond (b:=(decide (x16.Y < (-1099511627776))) || (decide (x16.Y > 1099511627776))) rfl (fun h17=>?_) (fun h17=>?_)
 have hr:=selT h17 hr
 refine Ok.seq (Ok.region (OkOps.w (triStore (cs':=[.d (.v (.pointer none))]) rfl rfl rfl rfl rfl rfl rfl rfl rfl) (OkOps.w (triStore (cs':=[cB_ false]) rfl rfl rfl rfl rfl rfl rfl rfl rfl) (OkOps.nil (Ok.ret ?_)))))
 refine ⟨rfl,?_⟩
 refine OkOps.y (aB (!false)) (OkOps.nil ?_)
 refine Ok.cond (b:=!false) rfl (fun _=>?_) (fun h=>by cases h)
 refine Ok.ret ?_
 refine ⟨.inl rfl,.inr ⟨.ret,_,rfl,rfl,?_⟩⟩
 obtain rfl:=Option.some.inj hr
 exact ⟨_,rfl,.inl rfl,trivial⟩
 have hr:=selF h17 hr
 refine Ok.skip (Ok.regionD (by kernel_rfl) (OkD.x (.c (.loc 7 0)) rfl trivial rfl (OkD.x (.c (.loc 7 0)) rfl trivial rfl (OkD.x (.c (.loc 7 4)) rfl trivial rfl (OkD.x (.c (.own 6)) rfl trivial rfl (OkD.x (.c (.loc 11 0)) rfl trivial rfl (OkD.x (aI x16.ID) rfl trivial rfl (OkD.x (.c (.loc 11 1)) rfl trivial rfl (OkD.x (aI x16.Y) rfl trivial rfl (OkD.w (triMapUp (ek:=(kInt .i64)) (ev:=(eInt .i64)) (L:=s13.2) (z:=x16.Y) rfl rfl rfl rfl rfl rfl (keyInt Tryd.underlying3) (fun _ _=>rfl) rfl trivial) (OkD.nil (by kernel_rfl) ?_)))))))))))
 refine ⟨rfl,?_⟩
 refine OkOps.y (aB (!true)) (OkOps.nil ?_)
 refine Ok.cond (b:=!true) rfl (fun h=>by cases h) (fun _=>?_)
 refine Ok.skip (Ok.region (OkOps.y (aI s13.1) (OkOps.y (aI (IntKind.i64.wrap (s13.1 - 1))) (OkOps.y (aI (IntKind.i64.wrap (s13.1 - 1))) (OkOps.nil ?_)))))
 exact ⟨(IntKind.i64.wrap (s13.1 - 1),msetL s13.2 x16.ID x16.Y),hr,(Conv.mk (tau []) ⟨⟨_,rfl,.inl rfl⟩,⟨_,rfl,.inl rfl⟩,⟨_,rfl,.inl rfl⟩,trivial⟩ ⟨rfl,rfl,rfl,rfl,rfl,rfl,rfl,rfl,rfl,rfl,trivial⟩ rfl rfl rfl rfl)⟩
 have hr:=selF h15 hr
 refine Ok.exit ?_
 exact ⟨s13.2,hr,(Conv.mk (tau []) trivial ⟨rfl,rfl,rfl,rfl,rfl,rfl,rfl,rfl,rfl,rfl,trivial⟩ rfl rfl rfl rfl)⟩
 clear hk8
 refine Ok.seq (Ok.region (OkOps.y (.c (.d (.sl (List.map Box.cs boxes)))) (OkOps.q (triLen (enc:=Box.cs) boxes rfl rfl trivial rfl) (OkOps.y (aI 0) (OkOps.nil (Ok.block (Ok.loopK (fun (s20 : Int)=>⟨[(3,.s (.c (.d (.sl (List.map Offset.cs offsets))))),(8,.s (.c (.loc 1 0))),(9,.s (.c (.loc 2 0))),(10,.s (.c (.loc 8 0))),(131,.s (.c (.d (.sl (List.map Box.cs boxes))))),(132,.s (aI (boxes.length : Int))),(133,.s (aI s20))],[(1,.blk [.d (.v (.pointer none))] 82),(2,.blk [cB_ false] 4),(3,.mp true (encM (kInt .i64) Node.cs s3.1)),(4,.mp true (encM (kInt .i64) (eArr 22 (dInt .i64)) s3.2)),(5,.mp true (encM (kInt .i64) Box.cs s5)),(6,.mp false (encM (kInt .i64) (eInt .i64) ([] : (List (Int × Int))))),(7,.blk [cI t.Root,.own 3,.own 4,.own 5,.own 6] 91),(8,.blk [.loc 7 0] 82)],0⟩) hr (Conv.mk (tau []) ⟨⟨_,rfl,.inl rfl⟩,⟨_,rfl,.inl rfl⟩,⟨_,rfl,.inl rfl⟩,⟨_,rfl,.inl rfl⟩,⟨_,rfl,.inl rfl⟩,⟨_,rfl,.inl rfl⟩,⟨_,rfl,.inl rfl⟩,trivial⟩ ⟨rfl,rfl,rfl,rfl,rfl,rfl,rfl,rfl,trivial⟩ rfl rfl rfl rfl) ?_)))))))
 clear hr
 intro again21 s20 hr
 unfold ht_look_L2 at hr
 refine Ok.seq (Ok.region (OkOps.y (aB (decide (s20 < (boxes.length : Int)))) (OkOps.nil (Ok.seq ?_))))
 refine Ok.cond (b:=decide (s20 < (boxes.length : Int))) rfl (fun h22=>?_) (fun h22=>?_)
 have hr:=selT h22 hr
 refine Ok.skip (Ok.seq (Ok.block (Ok.seq (Ok.region ?_))))
 obtain ⟨x23,hx23,hr⟩:=bind_some hr
 refine OkOps.q (triIdx (enc:=Box.cs) (L:=boxes) (row:=[dI x23.ID,dI x23.Rect.X,dI x23.Rect.Y,dI x23.Rect.W,dI x23.Rect.H,dI x23.Baseline,.sl (List.map Line.cs x23.Lines)]) hx23 rfl rfl rfl rfl (fun _=>rfl) trivial rfl) (OkOps.y (.agg [cI x23.ID,cI x23.Rect.X,cI x23.Rect.Y,cI x23.Rect.W,cI x23.Rect.H,cI x23.Baseline,.d (.sl (List.map Line.cs x23.Lines))]) (OkOps.m 0 (triAlloc (j:=12) (cs:=[cI 0,cI 0,cI 0,cI 0,cI 0,cI 0,.d (.v (.slice none 0 0))]) rfl rfl rfl rfl) (OkOps.w (triStore (cs':=[cI x23.ID,cI x23.Rect.X,cI x23.Rect.Y,cI x23.Rect.W,cI x23.Rect.H,cI x23.Baseline,.d (.sl (List.map Line.cs x23.Lines))]) rfl rfl rfl rfl rfl rfl rfl rfl rfl) (OkOps.nil (Ok.seq (Ok.regionD (by kernel_rfl) (OkD.x (.c (.loc 7 0)) rfl trivial rfl (OkD.x (.c (.loc 7 0)) rfl trivial rfl (OkD.x (.c (.loc 7 1)) rfl trivial rfl (OkD.x (.c (.own 3)) rfl trivial rfl (OkD.x (.c (.loc 12 0)) rfl trivial rfl (OkD.x (aI x23.ID) rfl trivial rfl ?_))))))))))))
 obtain ⟨x24,hx24,hr⟩:=bind_some hr
 refine OkD.q (triLookT (agg:=true) (ek:=(kInt .i64)) (ev:=Node.cs) (L:=s3.1) (r:=.agg [cI x24.1.ID,cI x24.1.Parent,cI x24.1.Kind,cS x24.1.Key,.d (.sl (List.map Attr.cs x24.1.Attrs)),.d (.sl (List.map Action.cs x24.1.Actions)),.d (.sl (List.map (eInt .i64) x24.1.Kids))]) hx24 rfl rfl rfl (keyInt Tryd.underlying3) rfl rfl (fun h=>by cases h) rfl trivial rfl) ?_
 refine OkD.q (triMv (v:=.tup [.agg [cI x24.1.ID,cI x24.1.Parent,cI x24.1.Kind,cS x24.1.Key,.d (.sl (List.map Attr.cs x24.1.Attrs)),.d (.sl (List.map Action.cs x24.1.Actions)),.d (.sl (List.map (eInt .i64) x24.1.Kids))],aB x24.2]) rfl rfl) (OkD.x (.agg [cI x24.1.ID,cI x24.1.Parent,cI x24.1.Kind,cS x24.1.Key,.d (.sl (List.map Attr.cs x24.1.Attrs)),.d (.sl (List.map Action.cs x24.1.Actions)),.d (.sl (List.map (eInt .i64) x24.1.Kids))]) rfl trivial rfl (OkD.x (aB x24.2) rfl trivial rfl (OkD.m 0 (triAlloc (j:=13) (cs:=[cI 0,cI 0,cI 0,cS ByteArray.empty,.d (.v (.slice none 0 0)),.d (.v (.slice none 0 0)),.d (.v (.slice none 0 0))]) rfl rfl rfl rfl) (OkD.w (triStore (cs':=[cI x24.1.ID,cI x24.1.Parent,cI x24.1.Kind,cS x24.1.Key,.d (.sl (List.map Attr.cs x24.1.Attrs)),.d (.sl (List.map Action.cs x24.1.Actions)),.d (.sl (List.map (eInt .i64) x24.1.Kids))]) rfl rfl rfl rfl rfl rfl rfl rfl rfl) (OkD.x (aB x24.2) rfl trivial rfl (OkD.nil (by kernel_rfl) (Ok.seq (Ok.regionD (by kernel_rfl) (OkD.x (.c (.loc 7 0)) rfl trivial rfl (OkD.x (.c (.loc 7 0)) rfl trivial rfl (OkD.x (.c (.loc 7 3)) rfl trivial rfl (OkD.x (.c (.own 5)) rfl trivial rfl (OkD.x (.c (.loc 13 1)) rfl trivial rfl (OkD.x (aI x24.1.Parent) rfl trivial rfl ?_))))))))))))))
 obtain ⟨x25,hx25,hr⟩:=bind_some hr
 refine OkD.q (triLookT (agg:=true) (ek:=(kInt .i64)) (ev:=Box.cs) (L:=s5) (r:=.agg [cI x25.1.ID,cI x25.1.Rect.X,cI x25.1.Rect.Y,cI x25.1.Rect.W,cI x25.1.Rect.H,cI x25.1.Baseline,.d (.sl (List.map Line.cs x25.1.Lines))]) hx25 rfl rfl rfl (keyInt Tryd.underlying3) rfl rfl (fun h=>by cases h) rfl trivial rfl) ?_
 refine OkD.q (triMv (v:=.tup [.agg [cI x25.1.ID,cI x25.1.Rect.X,cI x25.1.Rect.Y,cI x25.1.Rect.W,cI x25.1.Rect.H,cI x25.1.Baseline,.d (.sl (List.map Line.cs x25.1.Lines))],aB x25.2]) rfl rfl) (OkD.x (.agg [cI x25.1.ID,cI x25.1.Rect.X,cI x25.1.Rect.Y,cI x25.1.Rect.W,cI x25.1.Rect.H,cI x25.1.Baseline,.d (.sl (List.map Line.cs x25.1.Lines))]) rfl trivial rfl (OkD.x (aB x25.2) rfl trivial rfl (OkD.m 0 (triAlloc (j:=14) (cs:=[cI 0,cI 0,cI 0,cI 0,cI 0,cI 0,.d (.v (.slice none 0 0))]) rfl rfl rfl rfl) (OkD.w (triStore (cs':=[cI x25.1.ID,cI x25.1.Rect.X,cI x25.1.Rect.Y,cI x25.1.Rect.W,cI x25.1.Rect.H,cI x25.1.Baseline,.d (.sl (List.map Line.cs x25.1.Lines))]) rfl rfl rfl rfl rfl rfl rfl rfl rfl) (OkD.x (aB x25.2) rfl trivial rfl (OkD.nil (by kernel_rfl) (Ok.seq (Ok.region (OkOps.y (aB x24.2) (OkOps.y (aB (!x24.2)) (OkOps.y (aB (!x24.2)) (OkOps.q (triQG (x:=.c (.loc 13 1)) rfl rfl trivial rfl) (OkOps.q (triQG (x:=aI x24.1.Parent) rfl rfl ⟨fun h=>h,trivial⟩ rfl) (OkOps.q (triQG (x:=aB (x24.1.Parent != 0)) rfl rfl ⟨fun h=>h,trivial⟩ rfl) (OkOps.q (triQG (x:=aB (x24.1.Parent != 0)) rfl rfl ⟨fun h=>h,trivial⟩ rfl) ?_)))))))))))))))
 refine OkOps.q (triQG (x:=aB x25.2) rfl rfl trivial rfl) (OkOps.q (triQG (x:=aB (!x25.2)) rfl rfl ⟨fun h=>h,trivial⟩ rfl) ?_)
 refine OkOps.q (triAndG rfl rfl rfl (fun h=>h) (fun h h2=>by rw [h,h2];rfl) rfl) ?_
 refine OkOps.q (triOr rfl rfl (fun h=>by rw [h];rfl) rfl) ?_
 refine OkOps.nil ?_
 refine Ok.cond (b:=(!x24.2) || ((x24.1.Parent != 0) && (!x25.2))) rfl (fun h26=>?_) (fun h26=>?_)
 have hr:=selT h26 hr
 refine Ok.seq (Ok.region (OkOps.w (triStore (cs':=[.d (.v (.pointer none))]) rfl rfl rfl rfl rfl rfl rfl rfl rfl) (OkOps.w (triStore (cs':=[cB_ false]) rfl rfl rfl rfl rfl rfl rfl rfl rfl) (OkOps.nil (Ok.ret ?_)))))
 obtain rfl:=Option.some.inj hr
 exact ⟨_,rfl,.inl rfl,trivial⟩
 have hr:=selF h26 hr
 refine Ok.skip (Ok.region (OkOps.y (aI (IntKind.i64.wrap (s20 + 1))) (OkOps.y (aI (IntKind.i64.wrap (s20 + 1))) (OkOps.nil ?_))))
 exact ⟨IntKind.i64.wrap (s20 + 1),hr,(Conv.mk (tau []) ⟨⟨_,rfl,.inl rfl⟩,⟨_,rfl,.inl rfl⟩,⟨_,rfl,.inl rfl⟩,⟨_,rfl,.inl rfl⟩,⟨_,rfl,.inl rfl⟩,⟨_,rfl,.inl rfl⟩,⟨_,rfl,.inl rfl⟩,trivial⟩ ⟨rfl,rfl,rfl,rfl,rfl,rfl,rfl,rfl,trivial⟩ rfl rfl rfl rfl)⟩
 have hr:=selF h22 hr
 refine Ok.exit ?_
 exact ⟨(),hr,(Conv.mk (tau []) ⟨⟨_,rfl,.inl rfl⟩,⟨_,rfl,.inl rfl⟩,⟨_,rfl,.inl rfl⟩,⟨_,rfl,.inl rfl⟩,trivial⟩ ⟨rfl,rfl,rfl,rfl,rfl,rfl,rfl,rfl,trivial⟩ rfl rfl rfl rfl)⟩
 clear hk6
 refine Ok.seq (Ok.region (OkOps.y (.c (.d (.sl (List.map Box.cs boxes)))) (OkOps.q (triLen (enc:=Box.cs) boxes rfl rfl trivial rfl) (OkOps.y (aI 0) (OkOps.nil (Ok.block (Ok.loopK (fun (s27 : Int × (List (Int × Box)))=>⟨[(2,.s (.c (.d (.sl (List.map Box.cs boxes))))),(3,.s (.c (.d (.sl (List.map Offset.cs offsets))))),(8,.s (.c (.loc 1 0))),(9,.s (.c (.loc 2 0))),(10,.s (.c (.loc 8 0))),(97,.s (.c (.d (.sl (List.map Box.cs boxes))))),(98,.s (aI (boxes.length : Int))),(99,.s (aI s27.1))],[(1,.blk [.d (.v (.pointer none))] 82),(2,.blk [cB_ false] 4),(3,.mp true (encM (kInt .i64) Node.cs s3.1)),(4,.mp true (encM (kInt .i64) (eArr 22 (dInt .i64)) s3.2)),(5,.mp true (encM (kInt .i64) Box.cs s27.2)),(6,.mp false (encM (kInt .i64) (eInt .i64) ([] : (List (Int × Int))))),(7,.blk [cI t.Root,.own 3,.own 4,.own 5,.own 6] 91),(8,.blk [.loc 7 0] 82)],0⟩) hr (Conv.mk (tau []) ⟨⟨_,rfl,.inl rfl⟩,⟨_,rfl,.inl rfl⟩,⟨_,rfl,.inl rfl⟩,⟨_,rfl,.inl rfl⟩,⟨_,rfl,.inl rfl⟩,⟨_,rfl,.inl rfl⟩,⟨_,rfl,.inl rfl⟩,⟨_,rfl,.inl rfl⟩,trivial⟩ ⟨rfl,rfl,rfl,rfl,rfl,rfl,rfl,rfl,trivial⟩ rfl rfl rfl rfl) ?_)))))))
 clear hr
 intro again28 s27 hr
 unfold ht_look_L3 at hr
 refine Ok.seq (Ok.region (OkOps.y (aB (decide (s27.1 < (boxes.length : Int)))) (OkOps.nil (Ok.seq ?_))))
 refine Ok.cond (b:=decide (s27.1 < (boxes.length : Int))) rfl (fun h29=>?_) (fun h29=>?_)
 have hr:=selT h29 hr
 refine Ok.skip (Ok.seq (Ok.block (Ok.seq (Ok.region (OkOps.y (aI s27.1) ?_)))))
 obtain ⟨x30,hx30,hr⟩:=bind_some hr
 refine OkOps.q (triIdx (enc:=Box.cs) (L:=boxes) (row:=[dI x30.ID,dI x30.Rect.X,dI x30.Rect.Y,dI x30.Rect.W,dI x30.Rect.H,dI x30.Baseline,.sl (List.map Line.cs x30.Lines)]) hx30 rfl rfl rfl rfl (fun _=>rfl) trivial rfl) (OkOps.y (.agg [cI x30.ID,cI x30.Rect.X,cI x30.Rect.Y,cI x30.Rect.W,cI x30.Rect.H,cI x30.Baseline,.d (.sl (List.map Line.cs x30.Lines))]) (OkOps.m 0 (triAlloc (j:=15) (cs:=[cI 0,cI 0,cI 0,cI 0,cI 0,cI 0,.d (.v (.slice none 0 0))]) rfl rfl rfl rfl) (OkOps.y (aI s27.1) (OkOps.w (triStore (cs':=[cI x30.ID,cI x30.Rect.X,cI x30.Rect.Y,cI x30.Rect.W,cI x30.Rect.H,cI x30.Baseline,.d (.sl (List.map Line.cs x30.Lines))]) rfl rfl rfl rfl rfl rfl rfl rfl rfl) (OkOps.nil (Ok.seq (Ok.seq (Ok.regionD (by kernel_rfl) (OkD.x (aI s27.1) rfl trivial rfl (OkD.x (aB (decide (s27.1 > 0))) rfl trivial rfl (OkD.x (aB (decide (s27.1 > 0))) rfl trivial rfl (OkD.q (triQG (x:=.c (.loc 15 0)) rfl rfl trivial rfl) (OkD.q (triQG (x:=aI x30.ID) rfl rfl ⟨fun h=>h,trivial⟩ rfl) (OkD.q (triQG (x:=.c (.d (.sl (List.map Box.cs boxes)))) rfl rfl trivial rfl) (OkD.q (triQG (x:=aI s27.1) rfl rfl trivial rfl) ?_)))))))))))))))
 refine OkD.q (triQG (x:=aI (IntKind.i64.wrap (s27.1 - 1))) rfl rfl ⟨fun h=>h,trivial⟩ rfl) ?_
 obtain ⟨x31,hx31,hr⟩:=bind_some hr
 refine OkD.q (triIdxG (enc:=Box.cs) (L:=boxes) (row:=[dI x31.ID,dI x31.Rect.X,dI x31.Rect.Y,dI x31.Rect.W,dI x31.Rect.H,dI x31.Baseline,.sl (List.map Line.cs x31.Lines)]) (gO_t hx31) rfl rfl rfl rfl rfl (fun _=>rfl) ⟨fun h=>h,⟨fun h=>h,trivial⟩⟩ rfl) (OkD.q (triQG (x:=.c (.pt [dI x31.ID,dI x31.Rect.X,dI x31.Rect.Y,dI x31.Rect.W,dI x31.Rect.H,dI x31.Baseline,.sl (List.map Line.cs x31.Lines)])) rfl rfl ⟨fun h=>h,trivial⟩ rfl) (OkD.q (triQG (x:=aI x31.ID) rfl rfl ⟨fun h=>h,trivial⟩ rfl) (OkD.q (triQG (x:=aB (decide (x30.ID ≤ x31.ID))) rfl rfl ⟨fun h=>h,⟨fun h=>h,trivial⟩⟩ rfl) (OkD.q (triAnd rfl rfl (fun h=>h) rfl) (OkD.x (aB ((decide (s27.1 > 0)) && (decide (x30.ID ≤ x31.ID)))) rfl trivial rfl (OkD.q (triQG (x:=.c (.loc 15 1)) rfl rfl trivial rfl) (OkD.q (triQG (x:=.agg [cI x30.Rect.X,cI x30.Rect.Y,cI x30.Rect.W,cI x30.Rect.H]) rfl rfl ⟨fun h=>h,trivial⟩ rfl) ?_)))))))
 obtain ⟨x32,hx32,hr⟩:=bind_some hr
 refine OkD.q (triCallG (x:=aI x32) (fun hg=>ge_Validate_c _ (gO_t hx32 hg)) rfl rfl ⟨.inl rfl,trivial⟩ ⟨fun h=>h,trivial⟩ entry53 rfl rfl rfl) (OkD.q (triQG (x:=aB (x32 != 0)) rfl rfl ⟨fun h=>h,trivial⟩ rfl) ?_)
 refine OkD.q (triOr rfl rfl (fun h=>by rw [h];rfl) rfl) ?_
 refine OkD.nil (by kernel_rfl) ?_
 refine Ok.cond (b:=((decide (s27.1 > 0)) && (decide (x30.ID ≤ x31.ID))) || (x32 != 0)) rfl (fun h33=>?_) (fun h33=>?_)
 have hr:=selT h33 hr
 refine Ok.seq (Ok.region (OkOps.w (triStore (cs':=[.d (.v (.pointer none))]) rfl rfl rfl rfl rfl rfl rfl rfl rfl) (OkOps.w (triStore (cs':=[cB_ false]) rfl rfl rfl rfl rfl rfl rfl rfl rfl) (OkOps.nil (Ok.ret ?_)))))
 obtain rfl:=Option.some.inj hr
 exact ⟨_,rfl,.inl rfl,trivial⟩
 have hr:=selF h33 hr
 refine Ok.skip (Ok.regionD (by kernel_rfl) (OkD.x (.c (.loc 7 0)) rfl trivial rfl (OkD.x (.c (.loc 7 0)) rfl trivial rfl (OkD.x (.c (.loc 7 3)) rfl trivial rfl (OkD.x (.c (.own 5)) rfl trivial rfl (OkD.x (.c (.loc 15 0)) rfl trivial rfl (OkD.x (aI x30.ID) rfl trivial rfl (OkD.x (.agg [cI x30.ID,cI x30.Rect.X,cI x30.Rect.Y,cI x30.Rect.W,cI x30.Rect.H,cI x30.Baseline,.d (.sl (List.map Line.cs x30.Lines))]) rfl trivial rfl ?_))))))))
 refine OkD.w (triMapUp (ek:=(kInt .i64)) (ev:=Box.cs) (L:=s27.2) (z:=x30) rfl rfl rfl rfl rfl rfl (keyInt Tryd.underlying3) (fun h=>by cases h) rfl trivial) ?_
 refine OkD.nil (by kernel_rfl) (Ok.region (OkOps.y (aI (IntKind.i64.wrap (s27.1 + 1))) (OkOps.y (aI (IntKind.i64.wrap (s27.1 + 1))) (OkOps.nil ?_))))
 exact ⟨(IntKind.i64.wrap (s27.1 + 1),msetL s27.2 x30.ID x30),hr,(Conv.mk (tau []) ⟨⟨_,rfl,.inl rfl⟩,⟨_,rfl,.inl rfl⟩,⟨_,rfl,.inl rfl⟩,⟨_,rfl,.inl rfl⟩,⟨_,rfl,.inl rfl⟩,⟨_,rfl,.inl rfl⟩,⟨_,rfl,.inl rfl⟩,⟨_,rfl,.inl rfl⟩,trivial⟩ ⟨rfl,rfl,rfl,rfl,rfl,rfl,rfl,rfl,trivial⟩ rfl rfl rfl rfl)⟩
 have hr:=selF h29 hr
 refine Ok.exit ?_
 exact ⟨s27.2,hr,(Conv.mk (tau []) ⟨⟨_,rfl,.inl rfl⟩,⟨_,rfl,.inl rfl⟩,⟨_,rfl,.inl rfl⟩,⟨_,rfl,.inl rfl⟩,⟨_,rfl,.inl rfl⟩,trivial⟩ ⟨rfl,rfl,rfl,rfl,rfl,rfl,rfl,rfl,trivial⟩ rfl rfl rfl rfl)⟩
 clear hk4
 refine Ok.seq (Ok.region (OkOps.y (.c (.loc 0 2)) (OkOps.y (.c (.d (.sl (List.map Node.cs t.Nodes)))) (OkOps.q (triLen (enc:=Node.cs) t.Nodes rfl rfl trivial rfl) (OkOps.y (aI 0) (OkOps.nil (Ok.block (Ok.loopK (fun (s34 : Int × (List (Int × Node)) × (List (Int × (Nat → Int))))=>⟨[(1,.s (.c (.d (.sl (List.map Styled.cs st))))),(2,.s (.c (.d (.sl (List.map Box.cs boxes))))),(3,.s (.c (.d (.sl (List.map Offset.cs offsets))))),(8,.s (.c (.loc 1 0))),(9,.s (.c (.loc 2 0))),(10,.s (.c (.loc 8 0))),(45,.s (.c (.d (.sl (List.map Node.cs t.Nodes))))),(46,.s (aI (t.Nodes.length : Int))),(47,.s (aI s34.1))],[(1,.blk [.d (.v (.pointer none))] 82),(2,.blk [cB_ false] 4),(3,.mp true (encM (kInt .i64) Node.cs s34.2.1)),(4,.mp true (encM (kInt .i64) (eArr 22 (dInt .i64)) s34.2.2)),(5,.mp true (encM (kInt .i64) Box.cs ([] : (List (Int × Box))))),(6,.mp false (encM (kInt .i64) (eInt .i64) ([] : (List (Int × Int))))),(7,.blk [cI t.Root,.own 3,.own 4,.own 5,.own 6] 91),(8,.blk [.loc 7 0] 82)],0⟩) hr (Conv.mk (tau []) ⟨⟨_,rfl,.inl rfl⟩,⟨_,rfl,.inl rfl⟩,⟨_,rfl,.inl rfl⟩,⟨_,rfl,.inl rfl⟩,⟨_,rfl,.inl rfl⟩,⟨_,rfl,.inl rfl⟩,⟨_,rfl,.inl rfl⟩,⟨_,rfl,.inl rfl⟩,⟨_,rfl,.inl rfl⟩,trivial⟩ ⟨rfl,rfl,rfl,rfl,rfl,rfl,rfl,rfl,trivial⟩ rfl rfl rfl rfl) ?_))))))))
 clear hr
 intro again35 s34 hr
 unfold ht_look_L5 at hr
 refine Ok.seq (Ok.region (OkOps.y (aB (decide (s34.1 < (t.Nodes.length : Int)))) (OkOps.nil (Ok.seq ?_))))
 refine Ok.cond (b:=decide (s34.1 < (t.Nodes.length : Int))) rfl (fun h36=>?_) (fun h36=>?_)
 have hr:=selT h36 hr
 refine Ok.skip ?_
 obtain ⟨k38,hk38,hr⟩:=jn_some hr
 refine Ok.join (fun (s37 : (List (Int × Node)) × (List (Int × (Nat → Int))))=>⟨[(1,.s (.c (.d (.sl (List.map Styled.cs st))))),(2,.s (.c (.d (.sl (List.map Box.cs boxes))))),(3,.s (.c (.d (.sl (List.map Offset.cs offsets))))),(8,.s (.c (.loc 1 0))),(9,.s (.c (.loc 2 0))),(10,.s (.c (.loc 8 0))),(45,.s (.c (.d (.sl (List.map Node.cs t.Nodes))))),(46,.s (aI (t.Nodes.length : Int))),(47,.s (aI s34.1))],[(1,.blk [.d (.v (.pointer none))] 82),(2,.blk [cB_ false] 4),(3,.mp true (encM (kInt .i64) Node.cs s37.1)),(4,.mp true (encM (kInt .i64) (eArr 22 (dInt .i64)) s37.2)),(5,.mp true (encM (kInt .i64) Box.cs ([] : (List (Int × Box))))),(6,.mp false (encM (kInt .i64) (eInt .i64) ([] : (List (Int × Int))))),(7,.blk [cI t.Root,.own 3,.own 4,.own 5,.own 6] 91),(8,.blk [.loc 7 0] 82)],0⟩) k38 r (fun s37 hr=>?_) ?_
 rw [hk38] at hr
 refine Ok.region (OkOps.y (aI (IntKind.i64.wrap (s34.1 + 1))) (OkOps.y (aI (IntKind.i64.wrap (s34.1 + 1))) (OkOps.nil ?_)))
 exact ⟨(IntKind.i64.wrap (s34.1 + 1),s37.1,s37.2),hr,(Conv.mk (tau []) ⟨⟨_,rfl,.inl rfl⟩,⟨_,rfl,.inl rfl⟩,⟨_,rfl,.inl rfl⟩,⟨_,rfl,.inl rfl⟩,⟨_,rfl,.inl rfl⟩,⟨_,rfl,.inl rfl⟩,⟨_,rfl,.inl rfl⟩,⟨_,rfl,.inl rfl⟩,⟨_,rfl,.inl rfl⟩,trivial⟩ ⟨rfl,rfl,rfl,rfl,rfl,rfl,rfl,rfl,trivial⟩ rfl rfl rfl rfl)⟩
 clear hk38
 refine Ok.block (Ok.seq (Ok.region (OkOps.y (aI s34.1) ?_)))
 obtain ⟨x39,hx39,hr⟩:=bind_some hr
 refine OkOps.q (triIdx (enc:=Node.cs) (L:=t.Nodes) (row:=[dI x39.ID,dI x39.Parent,dI x39.Kind,dS x39.Key,.sl (List.map Attr.cs x39.Attrs),.sl (List.map Action.cs x39.Actions),.sl (List.map (eInt .i64) x39.Kids)]) hx39 rfl rfl rfl rfl (fun _=>rfl) trivial rfl) (OkOps.y (.agg [cI x39.ID,cI x39.Parent,cI x39.Kind,cS x39.Key,.d (.sl (List.map Attr.cs x39.Attrs)),.d (.sl (List.map Action.cs x39.Actions)),.d (.sl (List.map (eInt .i64) x39.Kids))]) (OkOps.m 0 (triAlloc (j:=16) (cs:=[cI 0,cI 0,cI 0,cS ByteArray.empty,.d (.v (.slice none 0 0)),.d (.v (.slice none 0 0)),.d (.v (.slice none 0 0))]) rfl rfl rfl rfl) (OkOps.y (aI s34.1) (OkOps.w (triStore (cs':=[cI x39.ID,cI x39.Parent,cI x39.Kind,cS x39.Key,.d (.sl (List.map Attr.cs x39.Attrs)),.d (.sl (List.map Action.cs x39.Actions)),.d (.sl (List.map (eInt .i64) x39.Kids))]) rfl rfl rfl rfl rfl rfl rfl rfl rfl) (OkOps.nil (Ok.seq (Ok.seq (Ok.regionD (by kernel_rfl) (OkD.x (.c (.d (.sl (List.map Styled.cs st)))) rfl trivial rfl (OkD.x (aI s34.1) rfl trivial rfl ?_))))))))))
 obtain ⟨x40,hx40,hr⟩:=bind_some hr
 refine OkD.q (triIdx (enc:=Styled.cs) (L:=st) (row:=[dI x40.ID,dI (x40.Style 0),dI (x40.Style 1),dI (x40.Style 2),dI (x40.Style 3),dI (x40.Style 4),dI (x40.Style 5),dI (x40.Style 6),dI (x40.Style 7),dI (x40.Style 8),dI (x40.Style 9),dI (x40.Style 10),dI (x40.Style 11),dI (x40.Style 12),dI (x40.Style 13),dI (x40.Style 14),dI (x40.Style 15),dI (x40.Style 16),dI (x40.Style 17),dI (x40.Style 18),dI (x40.Style 19),dI (x40.Style 20),dI (x40.Style 21)]) hx40 rfl rfl rfl rfl (fun _=>rfl) trivial rfl) (OkD.x (.c (.pt [dI x40.ID,dI (x40.Style 0),dI (x40.Style 1),dI (x40.Style 2),dI (x40.Style 3),dI (x40.Style 4),dI (x40.Style 5),dI (x40.Style 6),dI (x40.Style 7),dI (x40.Style 8),dI (x40.Style 9),dI (x40.Style 10),dI (x40.Style 11),dI (x40.Style 12),dI (x40.Style 13),dI (x40.Style 14),dI (x40.Style 15),dI (x40.Style 16),dI (x40.Style 17),dI (x40.Style 18),dI (x40.Style 19),dI (x40.Style 20),dI (x40.Style 21)])) rfl trivial rfl (OkD.x (aI x40.ID) rfl trivial rfl (OkD.x (.c (.loc 16 0)) rfl trivial rfl (OkD.x (aI x39.ID) rfl trivial rfl (OkD.x (aB (x40.ID != x39.ID)) rfl trivial rfl (OkD.nil (by kernel_rfl) ?_))))))
 refine Ok.cond (b:=x40.ID != x39.ID) rfl (fun h41=>?_) (fun h41=>?_)
 have hr:=selT h41 hr
 refine Ok.seq (Ok.region (OkOps.w (triStore (cs':=[.d (.v (.pointer none))]) rfl rfl rfl rfl rfl rfl rfl rfl rfl) (OkOps.w (triStore (cs':=[cB_ false]) rfl rfl rfl rfl rfl rfl rfl rfl rfl) (OkOps.nil (Ok.ret ?_)))))
 obtain rfl:=Option.some.inj hr
 exact ⟨_,rfl,.inl rfl,trivial⟩
 have hr:=selF h41 hr
 refine Ok.skip ?_
 obtain ⟨k43,hk43,hr⟩:=jn_some hr
 refine Ok.join (fun (s42 : Unit)=>⟨[(1,.s (.c (.d (.sl (List.map Styled.cs st))))),(2,.s (.c (.d (.sl (List.map Box.cs boxes))))),(3,.s (.c (.d (.sl (List.map Offset.cs offsets))))),(8,.s (.c (.loc 1 0))),(9,.s (.c (.loc 2 0))),(10,.s (.c (.loc 8 0))),(11,.s (aI s34.1)),(12,.s (.c (.loc 16 0))),(45,.s (.c (.d (.sl (List.map Node.cs t.Nodes))))),(46,.s (aI (t.Nodes.length : Int))),(47,.s (aI s34.1))],[(1,.blk [.d (.v (.pointer none))] 82),(2,.blk [cB_ false] 4),(3,.mp true (encM (kInt .i64) Node.cs s34.2.1)),(4,.mp true (encM (kInt .i64) (eArr 22 (dInt .i64)) s34.2.2)),(5,.mp true (encM (kInt .i64) Box.cs ([] : (List (Int × Box))))),(6,.mp false (encM (kInt .i64) (eInt .i64) ([] : (List (Int × Int))))),(7,.blk [cI t.Root,.own 3,.own 4,.own 5,.own 6] 91),(8,.blk [.loc 7 0] 82),(16,.blk [cI x39.ID,cI x39.Parent,cI x39.Kind,cS x39.Key,.d (.sl (List.map Attr.cs x39.Attrs)),.d (.sl (List.map Action.cs x39.Actions)),.d (.sl (List.map (eInt .i64) x39.Kids))] 96)],0⟩) k43 r (fun s42 hr=>?_) ?_
 rw [hk43] at hr
 refine Ok.regionD (by kernel_rfl) (OkD.x (.c (.loc 7 0)) rfl trivial rfl (OkD.x (.c (.loc 7 0)) rfl trivial rfl (OkD.x (.c (.loc 7 1)) rfl trivial rfl (OkD.x (.c (.own 3)) rfl trivial rfl (OkD.x (.c (.loc 16 0)) rfl trivial rfl (OkD.x (aI x39.ID) rfl trivial rfl (OkD.x (.c (.loc 7 0)) rfl trivial rfl (OkD.x (.c (.loc 7 0)) rfl trivial rfl (OkD.x (.c (.loc 7 2)) rfl trivial rfl (OkD.x (.c (.own 4)) rfl trivial rfl (OkD.x (.c (.loc 16 0)) rfl trivial rfl (OkD.x (aI x39.ID) rfl trivial rfl (OkD.x (.agg [cI x39.ID,cI x39.Parent,cI x39.Kind,cS x39.Key,.d (.sl (List.map Attr.cs x39.Attrs)),.d (.sl (List.map Action.cs x39.Actions)),.d (.sl (List.map (eInt .i64) x39.Kids))]) rfl trivial rfl (OkD.x (.c (.d (.sl (List.map Styled.cs st)))) rfl trivial rfl (OkD.x (aI s34.1) rfl trivial rfl ?_)))))))))))))))
 obtain ⟨x44,hx44,hr⟩:=bind_some hr
 refine OkD.q (triIdx (enc:=Styled.cs) (L:=st) (row:=[dI x44.ID,dI (x44.Style 0),dI (x44.Style 1),dI (x44.Style 2),dI (x44.Style 3),dI (x44.Style 4),dI (x44.Style 5),dI (x44.Style 6),dI (x44.Style 7),dI (x44.Style 8),dI (x44.Style 9),dI (x44.Style 10),dI (x44.Style 11),dI (x44.Style 12),dI (x44.Style 13),dI (x44.Style 14),dI (x44.Style 15),dI (x44.Style 16),dI (x44.Style 17),dI (x44.Style 18),dI (x44.Style 19),dI (x44.Style 20),dI (x44.Style 21)]) hx44 rfl rfl rfl rfl (fun _=>rfl) trivial rfl) (OkD.x (.c (.pt [dI (x44.Style 0),dI (x44.Style 1),dI (x44.Style 2),dI (x44.Style 3),dI (x44.Style 4),dI (x44.Style 5),dI (x44.Style 6),dI (x44.Style 7),dI (x44.Style 8),dI (x44.Style 9),dI (x44.Style 10),dI (x44.Style 11),dI (x44.Style 12),dI (x44.Style 13),dI (x44.Style 14),dI (x44.Style 15),dI (x44.Style 16),dI (x44.Style 17),dI (x44.Style 18),dI (x44.Style 19),dI (x44.Style 20),dI (x44.Style 21)])) rfl trivial rfl (OkD.x (.agg [cI (x44.Style 0),cI (x44.Style 1),cI (x44.Style 2),cI (x44.Style 3),cI (x44.Style 4),cI (x44.Style 5),cI (x44.Style 6),cI (x44.Style 7),cI (x44.Style 8),cI (x44.Style 9),cI (x44.Style 10),cI (x44.Style 11),cI (x44.Style 12),cI (x44.Style 13),cI (x44.Style 14),cI (x44.Style 15),cI (x44.Style 16),cI (x44.Style 17),cI (x44.Style 18),cI (x44.Style 19),cI (x44.Style 20),cI (x44.Style 21)]) rfl trivial rfl ?_))
 obtain ⟨x45,hx45,hr⟩:=bind_some hr
 refine OkD.m 0 (triMapEntry (ek:=(kInt .i64)) (ev:=Node.cs) (L:=s34.2.1) (yo:=x45) (r:=.agg [cI x45.1.ID,cI x45.1.Parent,cI x45.1.Kind,cS x45.1.Key,.d (.sl (List.map Attr.cs x45.1.Attrs)),.d (.sl (List.map Action.cs x45.1.Actions)),.d (.sl (List.map (eInt .i64) x45.1.Kids))]) hx45 rfl rfl rfl rfl (keyInt Tryd.underlying3) rfl rfl (fun h=>by cases h) rfl rfl trivial rfl) ?_
 refine OkD.x (aI (((midx (msetL s34.2.1 x39.ID x45.1) x39.ID).getD 0 : Nat) : Int)) rfl trivial rfl ?_
 refine OkD.w (triEntryStore (ek:=(kInt .i64)) (ev:=Node.cs) (L:=msetL s34.2.1 x39.ID x45.1) (k:=x39.ID) (z:=x39) (midx_self s34.2.1 x39.ID x45.1) rfl rfl rfl rfl rfl rfl (keyInt Tryd.underlying3) (fun h=>by cases h) (msetL_twice s34.2.1 x39.ID x45.1 x39) trivial) ?_
 obtain ⟨x46,hx46,hr⟩:=bind_some hr
 refine OkD.m 0 (triMapEntry (ek:=(kInt .i64)) (ev:=(eArr 22 (dInt .i64))) (L:=s34.2.2) (yo:=x46) (r:=.agg [cI (x46.1 0),cI (x46.1 1),cI (x46.1 2),cI (x46.1 3),cI (x46.1 4),cI (x46.1 5),cI (x46.1 6),cI (x46.1 7),cI (x46.1 8),cI (x46.1 9),cI (x46.1 10),cI (x46.1 11),cI (x46.1 12),cI (x46.1 13),cI (x46.1 14),cI (x46.1 15),cI (x46.1 16),cI (x46.1 17),cI (x46.1 18),cI (x46.1 19),cI (x46.1 20),cI (x46.1 21)]) hx46 rfl rfl rfl rfl (keyInt Tryd.underlying3) rfl rfl (fun h=>by cases h) rfl rfl trivial rfl) ?_
 refine OkD.x (aI (((midx (msetL s34.2.2 x39.ID x46.1) x39.ID).getD 0 : Nat) : Int)) rfl trivial rfl ?_
 refine OkD.w (triEntryStore (ek:=(kInt .i64)) (ev:=(eArr 22 (dInt .i64))) (L:=msetL s34.2.2 x39.ID x46.1) (k:=x39.ID) (z:=x44.Style) (midx_self s34.2.2 x39.ID x46.1) rfl rfl rfl rfl rfl rfl (keyInt Tryd.underlying3) (fun h=>by cases h) (msetL_twice s34.2.2 x39.ID x46.1 x44.Style) trivial) ?_
 refine OkD.nil (by kernel_rfl) ?_
 exact ⟨(msetL s34.2.1 x39.ID x39,msetL s34.2.2 x39.ID x44.Style),hr,(Conv.mk (tau []) ⟨⟨_,rfl,.inl rfl⟩,⟨_,rfl,.inl rfl⟩,⟨_,rfl,.inl rfl⟩,⟨_,rfl,.inl rfl⟩,⟨_,rfl,.inl rfl⟩,⟨_,rfl,.inl rfl⟩,⟨_,rfl,.inl rfl⟩,⟨_,rfl,.inl rfl⟩,⟨_,rfl,.inl rfl⟩,trivial⟩ ⟨rfl,rfl,rfl,rfl,rfl,rfl,rfl,rfl,trivial⟩ rfl rfl rfl rfl)⟩
 clear hk43
 refine Ok.seq (Ok.region (OkOps.y (.c (.d (.sl (List.map Styled.cs st)))) (OkOps.y (aI s34.1) ?_)))
 obtain ⟨x47,hx47,hr⟩:=bind_some hr
 refine OkOps.q (triIdx (enc:=Styled.cs) (L:=st) (row:=[dI x47.ID,dI (x47.Style 0),dI (x47.Style 1),dI (x47.Style 2),dI (x47.Style 3),dI (x47.Style 4),dI (x47.Style 5),dI (x47.Style 6),dI (x47.Style 7),dI (x47.Style 8),dI (x47.Style 9),dI (x47.Style 10),dI (x47.Style 11),dI (x47.Style 12),dI (x47.Style 13),dI (x47.Style 14),dI (x47.Style 15),dI (x47.Style 16),dI (x47.Style 17),dI (x47.Style 18),dI (x47.Style 19),dI (x47.Style 20),dI (x47.Style 21)]) hx47 rfl rfl rfl rfl (fun _=>rfl) trivial rfl) (OkOps.y (.c (.pt [dI (x47.Style 0),dI (x47.Style 1),dI (x47.Style 2),dI (x47.Style 3),dI (x47.Style 4),dI (x47.Style 5),dI (x47.Style 6),dI (x47.Style 7),dI (x47.Style 8),dI (x47.Style 9),dI (x47.Style 10),dI (x47.Style 11),dI (x47.Style 12),dI (x47.Style 13),dI (x47.Style 14),dI (x47.Style 15),dI (x47.Style 16),dI (x47.Style 17),dI (x47.Style 18),dI (x47.Style 19),dI (x47.Style 20),dI (x47.Style 21)])) (OkOps.y (.agg [cI (x47.Style 0),cI (x47.Style 1),cI (x47.Style 2),cI (x47.Style 3),cI (x47.Style 4),cI (x47.Style 5),cI (x47.Style 6),cI (x47.Style 7),cI (x47.Style 8),cI (x47.Style 9),cI (x47.Style 10),cI (x47.Style 11),cI (x47.Style 12),cI (x47.Style 13),cI (x47.Style 14),cI (x47.Style 15),cI (x47.Style 16),cI (x47.Style 17),cI (x47.Style 18),cI (x47.Style 19),cI (x47.Style 20),cI (x47.Style 21)]) (OkOps.y (aI 0) (OkOps.nil (Ok.block (Ok.loopK (fun (s48 : Int)=>⟨[(1,.s (.c (.d (.sl (List.map Styled.cs st))))),(2,.s (.c (.d (.sl (List.map Box.cs boxes))))),(3,.s (.c (.d (.sl (List.map Offset.cs offsets))))),(8,.s (.c (.loc 1 0))),(9,.s (.c (.loc 2 0))),(10,.s (.c (.loc 8 0))),(11,.s (aI s34.1)),(12,.s (.c (.loc 16 0))),(45,.s (.c (.d (.sl (List.map Node.cs t.Nodes))))),(46,.s (aI (t.Nodes.length : Int))),(47,.s (aI s34.1)),(64,.s (.agg [cI (x47.Style 0),cI (x47.Style 1),cI (x47.Style 2),cI (x47.Style 3),cI (x47.Style 4),cI (x47.Style 5),cI (x47.Style 6),cI (x47.Style 7),cI (x47.Style 8),cI (x47.Style 9),cI (x47.Style 10),cI (x47.Style 11),cI (x47.Style 12),cI (x47.Style 13),cI (x47.Style 14),cI (x47.Style 15),cI (x47.Style 16),cI (x47.Style 17),cI (x47.Style 18),cI (x47.Style 19),cI (x47.Style 20),cI (x47.Style 21)])),(65,.s (aI s48))],[(1,.blk [.d (.v (.pointer none))] 82),(2,.blk [cB_ false] 4),(3,.mp true (encM (kInt .i64) Node.cs s34.2.1)),(4,.mp true (encM (kInt .i64) (eArr 22 (dInt .i64)) s34.2.2)),(5,.mp true (encM (kInt .i64) Box.cs ([] : (List (Int × Box))))),(6,.mp false (encM (kInt .i64) (eInt .i64) ([] : (List (Int × Int))))),(7,.blk [cI t.Root,.own 3,.own 4,.own 5,.own 6] 91),(8,.blk [.loc 7 0] 82),(16,.blk [cI x39.ID,cI x39.Parent,cI x39.Kind,cS x39.Key,.d (.sl (List.map Attr.cs x39.Attrs)),.d (.sl (List.map Action.cs x39.Actions)),.d (.sl (List.map (eInt .i64) x39.Kids))] 96)],0⟩) hr (Conv.mk (tau []) ⟨⟨_,rfl,.inl rfl⟩,⟨_,rfl,.inl rfl⟩,⟨_,rfl,.inl rfl⟩,⟨_,rfl,.inl rfl⟩,⟨_,rfl,.inl rfl⟩,⟨_,rfl,.inl rfl⟩,⟨_,rfl,.inl rfl⟩,⟨_,rfl,.inl rfl⟩,⟨_,rfl,.inl rfl⟩,⟨_,rfl,.inl rfl⟩,⟨_,rfl,.inl rfl⟩,⟨_,rfl,.inl rfl⟩,⟨_,rfl,.inl rfl⟩,trivial⟩ ⟨rfl,rfl,rfl,rfl,rfl,rfl,rfl,rfl,rfl,trivial⟩ rfl rfl rfl rfl) ?_))))))
 clear hr
 intro again49 s48 hr
 unfold ht_look_L4 at hr
 refine Ok.seq (Ok.region (OkOps.y (aB (decide (s48 < 22))) (OkOps.nil (Ok.seq ?_))))
 refine Ok.cond (b:=decide (s48 < 22)) rfl (fun h50=>?_) (fun h50=>?_)
 have hr:=selT h50 hr
 refine Ok.skip (Ok.seq (Ok.block (Ok.seq (Ok.region (OkOps.y (aI s48) ?_)))))
 obtain ⟨x51,hx51,hr⟩:=bind_some hr
 refine OkOps.q (triIxA (c:=cI (x47.Style x51)) hx51 rfl rfl rfl rfl (arr1_get (e1:=dInt .i64) (a:=x47.Style) (ixO_spec hx51).2) trivial rfl) (OkOps.y (aI s48) (OkOps.y (aI (x47.Style x51)) (OkOps.nil (Ok.seq (Ok.region (OkOps.y (aI s48) (OkOps.y (aI (x47.Style x51)) ?_)))))))
 obtain ⟨x52,hx52,hr⟩:=bind_some hr
 refine OkOps.q (triCl (tau []) (.s (aB x52)) [] (widgetry_style_InRange_c _ _ hx52) rfl ⟨.inl rfl,.inl rfl,trivial⟩ trivial entry52 trivial) (OkOps.y (aB (!x52)) (OkOps.nil ?_))
 refine Ok.cond (b:=!x52) rfl (fun h53=>?_) (fun h53=>?_)
 have hr:=selT h53 hr
 refine Ok.seq (Ok.region (OkOps.w (triStore (cs':=[.d (.v (.pointer none))]) rfl rfl rfl rfl rfl rfl rfl rfl rfl) (OkOps.w (triStore (cs':=[cB_ false]) rfl rfl rfl rfl rfl rfl rfl rfl rfl) (OkOps.nil (Ok.ret ?_)))))
 obtain rfl:=Option.some.inj hr
 exact ⟨_,rfl,.inl rfl,trivial⟩
 have hr:=selF h53 hr
 refine Ok.skip (Ok.region (OkOps.y (aI (IntKind.i64.wrap (s48 + 1))) (OkOps.y (aI (IntKind.i64.wrap (s48 + 1))) (OkOps.nil ?_))))
 exact ⟨IntKind.i64.wrap (s48 + 1),hr,(Conv.mk (tau []) ⟨⟨_,rfl,.inl rfl⟩,⟨_,rfl,.inl rfl⟩,⟨_,rfl,.inl rfl⟩,⟨_,rfl,.inl rfl⟩,⟨_,rfl,.inl rfl⟩,⟨_,rfl,.inl rfl⟩,⟨_,rfl,.inl rfl⟩,⟨_,rfl,.inl rfl⟩,⟨_,rfl,.inl rfl⟩,⟨_,rfl,.inl rfl⟩,⟨_,rfl,.inl rfl⟩,⟨_,rfl,.inl rfl⟩,⟨_,rfl,.inl rfl⟩,trivial⟩ ⟨rfl,rfl,rfl,rfl,rfl,rfl,rfl,rfl,rfl,trivial⟩ rfl rfl rfl rfl)⟩
 have hr:=selF h50 hr
 refine Ok.exit ?_
 exact ⟨(),hr,(Conv.mk (tau []) ⟨⟨_,rfl,.inl rfl⟩,⟨_,rfl,.inl rfl⟩,⟨_,rfl,.inl rfl⟩,⟨_,rfl,.inl rfl⟩,⟨_,rfl,.inl rfl⟩,⟨_,rfl,.inl rfl⟩,⟨_,rfl,.inl rfl⟩,⟨_,rfl,.inl rfl⟩,⟨_,rfl,.inl rfl⟩,⟨_,rfl,.inl rfl⟩,⟨_,rfl,.inl rfl⟩,trivial⟩ ⟨rfl,rfl,rfl,rfl,rfl,rfl,rfl,rfl,rfl,trivial⟩ rfl rfl rfl rfl)⟩
 have hr:=selF h36 hr
 refine Ok.exit ?_
 exact ⟨(s34.2.1,s34.2.2),hr,(Conv.mk (tau []) ⟨⟨_,rfl,.inl rfl⟩,⟨_,rfl,.inl rfl⟩,⟨_,rfl,.inl rfl⟩,⟨_,rfl,.inl rfl⟩,⟨_,rfl,.inl rfl⟩,trivial⟩ ⟨rfl,rfl,rfl,rfl,rfl,rfl,rfl,rfl,trivial⟩ rfl rfl rfl rfl)⟩
theorem ht_valid_c (p : Point) {r : Bool} (hr : ht_valid p = some r) : Con Tryd.prog 29 [.agg [cI p.X,cI p.Y]] [] (.s (aB r)) []:=by
 unfold ht_valid at hr
 refine Con.of_ok 21 0 [.tmp 2] [(0,.s (.agg [cI p.X,cI p.Y]))] Tryd.func29 rfl rfl rfl rfl rfl rfl rfl rfl fun w g M ρ _=>(Ok.seq (Ok.region (OkOps.m 0 (triBox (j:=0) (cs:=[cI p.X,cI p.Y]) rfl rfl rfl rfl rfl) (OkOps.y (aB false) (OkOps.nil (Ok.seq (Ok.region (OkOps.y (.c (.loc 0 0)) (OkOps.y (aI p.X) (OkOps.y (aB (decide (p.X ≥ (-2097152)))) (OkOps.y (aB (decide (p.X ≥ (-2097152)))) (OkOps.q (triQG (x:=.c (.loc 0 0)) rfl rfl trivial rfl) (OkOps.q (triQG (x:=aI p.X) rfl rfl ⟨fun h=>h,trivial⟩ rfl) (OkOps.q (triQG (x:=aB (decide (p.X ≤ 2097152))) rfl rfl ⟨fun h=>h,trivial⟩ rfl) (OkOps.q (triAnd rfl rfl (fun h=>h) rfl) ?_)))))))))))))))
 refine OkOps.y (aB ((decide (p.X ≥ (-2097152))) && (decide (p.X ≤ 2097152)))) (OkOps.q (triQG (x:=.c (.loc 0 1)) rfl rfl trivial rfl) (OkOps.q (triQG (x:=aI p.Y) rfl rfl ⟨fun h=>h,trivial⟩ rfl) (OkOps.q (triQG (x:=aB (decide (p.Y ≥ (-2097152)))) rfl rfl ⟨fun h=>h,trivial⟩ rfl) (OkOps.q (triAnd rfl rfl (fun h=>h) rfl) (OkOps.y (aB (((decide (p.X ≥ (-2097152))) && (decide (p.X ≤ 2097152))) && (decide (p.Y ≥ (-2097152))))) (OkOps.q (triQG (x:=.c (.loc 0 1)) rfl rfl trivial rfl) (OkOps.q (triQG (x:=aI p.Y) rfl rfl ⟨fun h=>h,trivial⟩ rfl) (OkOps.q (triQG (x:=aB (decide (p.Y ≤ 2097152))) rfl rfl ⟨fun h=>h,trivial⟩ rfl) (OkOps.q (triAnd rfl rfl (fun h=>h) rfl) (OkOps.y (aB ((((decide (p.X ≥ (-2097152))) && (decide (p.X ≤ 2097152))) && (decide (p.Y ≥ (-2097152)))) && (decide (p.Y ≤ 2097152)))) (OkOps.nil (Ok.ret ?_))))))))))))
 obtain rfl:=Option.some.inj hr
 exact ⟨_,rfl,.inl rfl,trivial⟩
end Go.Proofs.YtfoigppmcelgfaaDoor
end
section
set_option maxRecDepth 100000
namespace Go.Proofs.YtfoigppmcelgfaaDoor
open Go Go.E2
theorem vw_Attr_c (l : (List Attr)) (name : Str) {r : AValue × Bool} (hr : vw_Attr l name = some r) : Con Tryd.prog 66 [.c (.d (.sl (List.map Attr.cs l))),aS name] [] (.tup [.agg [cI r.1.Kind,cI r.1.N,cS r.1.S,.d (.sl (List.map AValue.cs r.1.L))],aB r.2]) []:=by
 unfold vw_Attr at hr
 refine Con.of_ok 23 0 [.cell 4 62,.tmp 5] [(0,.s (.c (.d (.sl (List.map Attr.cs l))))),(1,.s (aS name))] Tryd.func66 rfl rfl rfl rfl rfl rfl rfl rfl fun w g M ρ _=>(Ok.seq (Ok.region (OkOps.m 0 (triAlloc (j:=0) (cs:=[cI 0,cI 0,cS ByteArray.empty,.d (.v (.slice none 0 0))]) rfl rfl rfl rfl) (OkOps.y (aB false) (OkOps.nil ?_)))))
 obtain ⟨k2,hk2,hr⟩:=jn_some hr
 refine Ok.join (fun (s1 : Unit)=>⟨[(4,.s (.c (.loc 0 0)))],[(0,.blk [cI 0,cI 0,cS ByteArray.empty,.d (.v (.slice none 0 0))] 62)],0⟩) k2 r (fun s1 hr=>?_) ?_
 rw [hk2] at hr
 refine Ok.seq (Ok.region (OkOps.y (.agg [cI 0,cI 0,cS ByteArray.empty,.d (.v (.slice none 0 0))]) (OkOps.w (triStore (cs':=[cI 0,cI 0,cS ByteArray.empty,.d (.v (.slice none 0 0))]) rfl rfl rfl rfl rfl rfl rfl rfl rfl) (OkOps.y (aB false) (OkOps.nil (Ok.ret ?_))))))
 obtain rfl:=Option.some.inj hr
 exact ⟨_,rfl,.inr rfl,trivial⟩
 clear hk2
 refine Ok.seq (Ok.region (OkOps.y (.c (.d (.sl (List.map Attr.cs l)))) (OkOps.q (triLen (enc:=Attr.cs) l rfl rfl trivial rfl) (OkOps.y (aI 0) (OkOps.nil (Ok.block (Ok.loopK (fun (s3 : Int)=>⟨[(1,.s (aS name)),(4,.s (.c (.loc 0 0))),(8,.s (.c (.d (.sl (List.map Attr.cs l))))),(9,.s (aI (l.length : Int))),(10,.s (aI s3))],[(0,.blk [cI 0,cI 0,cS ByteArray.empty,.d (.v (.slice none 0 0))] 62)],0⟩) hr (Conv.mk (tau []) ⟨⟨_,rfl,.inl rfl⟩,⟨_,rfl,.inl rfl⟩,⟨_,rfl,.inl rfl⟩,⟨_,rfl,.inl rfl⟩,⟨_,rfl,.inl rfl⟩,trivial⟩ ⟨rfl,trivial⟩ rfl rfl rfl rfl) ?_)))))))
 clear hr
 intro again4 s3 hr
 unfold vw_Attr_L1 at hr
 refine Ok.seq (Ok.region (OkOps.y (aB (decide (s3 < (l.length : Int)))) (OkOps.nil (Ok.seq ?_))))
 refine Ok.cond (b:=decide (s3 < (l.length : Int))) rfl (fun h5=>?_) (fun h5=>?_)
 have hr:=selT h5 hr
 refine Ok.skip (Ok.seq (Ok.block (Ok.seq (Ok.region ?_))))
 obtain ⟨x6,hx6,hr⟩:=bind_some hr
 refine OkOps.q (triIdx (enc:=Attr.cs) (L:=l) (row:=[dS x6.Name,dI x6.Value.Kind,dI x6.Value.N,dS x6.Value.S,.sl (List.map AValue.cs x6.Value.L)]) hx6 rfl rfl rfl rfl (fun _=>rfl) trivial rfl) (OkOps.y (.agg [cS x6.Name,cI x6.Value.Kind,cI x6.Value.N,cS x6.Value.S,.d (.sl (List.map AValue.cs x6.Value.L))]) (OkOps.m 0 (triAlloc (j:=1) (cs:=[cS ByteArray.empty,cI 0,cI 0,cS ByteArray.empty,.d (.v (.slice none 0 0))]) rfl rfl rfl rfl) (OkOps.w (triStore (cs':=[cS x6.Name,cI x6.Value.Kind,cI x6.Value.N,cS x6.Value.S,.d (.sl (List.map AValue.cs x6.Value.L))]) rfl rfl rfl rfl rfl rfl rfl rfl rfl) (OkOps.nil (Ok.seq (Ok.region (OkOps.y (.c (.loc 1 0)) (OkOps.y (aS x6.Name) (OkOps.y (aS name) (OkOps.y (aB (x6.Name.toList == name.toList)) (OkOps.nil ?_)))))))))))
 refine Ok.cond (b:=x6.Name.toList == name.toList) rfl (fun h7=>?_) (fun h7=>?_)
 have hr:=selT h7 hr
 refine Ok.seq (Ok.region (OkOps.y (.c (.loc 1 1)) (OkOps.y (.agg [cI x6.Value.Kind,cI x6.Value.N,cS x6.Value.S,.d (.sl (List.map AValue.cs x6.Value.L))]) ?_)))
 obtain ⟨x8,hx8,hr⟩:=bind_some hr
 refine OkOps.q (triCl (tau []) (.s (.agg [cI x8.Kind,cI x8.N,cS x8.S,.d (.sl (List.map AValue.cs x8.L))])) [] (vw_value_c _ _ hx8) rfl ⟨.inl rfl,trivial⟩ trivial entry88 trivial) (OkOps.w (triStore (cs':=[cI x8.Kind,cI x8.N,cS x8.S,.d (.sl (List.map AValue.cs x8.L))]) rfl rfl rfl rfl rfl rfl rfl rfl rfl) (OkOps.y (aB true) (OkOps.nil (Ok.ret ?_))))
 obtain rfl:=Option.some.inj hr
 exact ⟨_,rfl,.inl rfl,trivial⟩
 have hr:=selF h7 hr
 refine Ok.skip (Ok.region (OkOps.y (aI (IntKind.i64.wrap (s3 + 1))) (OkOps.y (aI (IntKind.i64.wrap (s3 + 1))) (OkOps.nil ?_))))
 exact ⟨IntKind.i64.wrap (s3 + 1),hr,(Conv.mk (tau []) ⟨⟨_,rfl,.inl rfl⟩,⟨_,rfl,.inl rfl⟩,⟨_,rfl,.inl rfl⟩,⟨_,rfl,.inl rfl⟩,⟨_,rfl,.inl rfl⟩,trivial⟩ ⟨rfl,trivial⟩ rfl rfl rfl rfl)⟩
 have hr:=selF h5 hr
 refine Ok.exit ?_
 exact ⟨(),hr,(Conv.mk (tau []) ⟨⟨_,rfl,.inl rfl⟩,trivial⟩ ⟨rfl,trivial⟩ rfl rfl rfl rfl)⟩
theorem vw_Number_c (l : (List Attr)) (name : Str) (other : Int) {r : Int} (hr : vw_Number l name other = some r) : Con Tryd.prog 34 [.c (.d (.sl (List.map Attr.cs l))),aS name,aI other] [] (.s (aI r)) []:=by
 unfold vw_Number at hr
 refine Con.of_ok 21 0 [.tmp 6] [(0,.s (.c (.d (.sl (List.map Attr.cs l))))),(1,.s (aS name)),(2,.s (aI other))] Tryd.func34 rfl rfl rfl rfl rfl rfl rfl rfl fun w g M ρ _=>(Ok.seq (Ok.region (OkOps.y (aI 0) (OkOps.nil (Ok.seq (Ok.seq (Ok.region (OkOps.y (.c (.d (.sl (List.map Attr.cs l)))) (OkOps.y (aS name) ?_)))))))))
 obtain ⟨x1,hx1,hr⟩:=bind_some hr
 refine OkOps.q (triCl (tau []) (.tup [.agg [cI x1.1.Kind,cI x1.1.N,cS x1.1.S,.d (.sl (List.map AValue.cs x1.1.L))],aB x1.2]) [] (vw_Attr_c _ _ hx1) rfl ⟨.inl rfl,.inl rfl,trivial⟩ trivial entry66 trivial) (OkOps.q (triMv (v:=.tup [.agg [cI x1.1.Kind,cI x1.1.N,cS x1.1.S,.d (.sl (List.map AValue.cs x1.1.L))],aB x1.2]) rfl rfl) (OkOps.y (.agg [cI x1.1.Kind,cI x1.1.N,cS x1.1.S,.d (.sl (List.map AValue.cs x1.1.L))]) (OkOps.y (aB x1.2) (OkOps.m 0 (triAlloc (j:=0) (cs:=[cI 0,cI 0,cS ByteArray.empty,.d (.v (.slice none 0 0))]) rfl rfl rfl rfl) (OkOps.w (triStore (cs':=[cI x1.1.Kind,cI x1.1.N,cS x1.1.S,.d (.sl (List.map AValue.cs x1.1.L))]) rfl rfl rfl rfl rfl rfl rfl rfl rfl) (OkOps.y (aB x1.2) (OkOps.nil (Ok.seq (Ok.region (OkOps.y (.c (.loc 0 0)) (OkOps.y (aI x1.1.Kind) (OkOps.y (aB (x1.1.Kind == 1)) (OkOps.nil ?_)))))))))))))
 refine Ok.cond (b:=x1.1.Kind == 1) rfl (fun h2=>?_) (fun h2=>?_)
 have hr:=selT h2 hr
 refine Ok.seq (Ok.region (OkOps.y (.c (.loc 0 1)) (OkOps.y (aI x1.1.N) (OkOps.y (aI x1.1.N) (OkOps.nil (Ok.ret ?_))))))
 obtain rfl:=Option.some.inj hr
 exact ⟨_,rfl,.inl rfl,trivial⟩
 have hr:=selF h2 hr
 refine Ok.skip (Ok.seq (Ok.region (OkOps.y (aI other) (OkOps.y (aI other) (OkOps.nil (Ok.ret ?_))))))
 obtain rfl:=Option.some.inj hr
 exact ⟨_,rfl,.inl rfl,trivial⟩
theorem vw_Flag_c (l : (List Attr)) (name : Str) {r : Bool} (hr : vw_Flag l name = some r) : Con Tryd.prog 62 [.c (.d (.sl (List.map Attr.cs l))),aS name] [] (.s (aB r)) []:=by
 unfold vw_Flag at hr
 refine Con.of_ok 21 0 [.tmp 4] [(0,.s (.c (.d (.sl (List.map Attr.cs l))))),(1,.s (aS name))] Tryd.func62 rfl rfl rfl rfl rfl rfl rfl rfl fun w g M ρ _=>(Ok.seq (Ok.region (OkOps.y (aB false) (OkOps.nil (Ok.seq (Ok.region (OkOps.y (.c (.d (.sl (List.map Attr.cs l)))) (OkOps.y (aS name) ?_))))))))
 obtain ⟨x1,hx1,hr⟩:=bind_some hr
 refine OkOps.q (triCl (tau []) (.tup [.agg [cI x1.1.Kind,cI x1.1.N,cS x1.1.S,.d (.sl (List.map AValue.cs x1.1.L))],aB x1.2]) [] (vw_Attr_c _ _ hx1) rfl ⟨.inl rfl,.inl rfl,trivial⟩ trivial entry66 trivial) (OkOps.q (triMv (v:=.tup [.agg [cI x1.1.Kind,cI x1.1.N,cS x1.1.S,.d (.sl (List.map AValue.cs x1.1.L))],aB x1.2]) rfl rfl) (OkOps.y (.agg [cI x1.1.Kind,cI x1.1.N,cS x1.1.S,.d (.sl (List.map AValue.cs x1.1.L))]) (OkOps.y (aB x1.2) (OkOps.m 0 (triAlloc (j:=0) (cs:=[cI 0,cI 0,cS ByteArray.empty,.d (.v (.slice none 0 0))]) rfl rfl rfl rfl) (OkOps.w (triStore (cs':=[cI x1.1.Kind,cI x1.1.N,cS x1.1.S,.d (.sl (List.map AValue.cs x1.1.L))]) rfl rfl rfl rfl rfl rfl rfl rfl rfl) (OkOps.y (aB x1.2) (OkOps.nil (Ok.seq (Ok.region (OkOps.y (.c (.loc 0 0)) (OkOps.y (aI x1.1.Kind) (OkOps.y (aB (x1.1.Kind == 2)) (OkOps.y (aB (x1.1.Kind == 2)) (OkOps.q (triQG (x:=.c (.loc 0 1)) rfl rfl trivial rfl) (OkOps.q (triQG (x:=aI x1.1.N) rfl rfl ⟨fun h=>h,trivial⟩ rfl) ?_)))))))))))))))
 refine OkOps.q (triQG (x:=aB (x1.1.N == 1)) rfl rfl ⟨fun h=>h,trivial⟩ rfl) (OkOps.q (triAnd rfl rfl (fun h=>h) rfl) (OkOps.y (aB ((x1.1.Kind == 2) && (x1.1.N == 1))) (OkOps.nil (Ok.ret ?_))))
 obtain rfl:=Option.some.inj hr
 exact ⟨_,rfl,.inl rfl,trivial⟩
end Go.Proofs.YtfoigppmcelgfaaDoor
end
section
set_option maxRecDepth 100000
namespace Go.Proofs.YtfoigppmcelgfaaDoor
open Go Go.E2
theorem widgetry_scroll_within_1_c (p_n : Int) {r : Bool} (hr : widgetry_scroll_within_1 p_n = some r) : Con Tryd.prog 126 [aI p_n] [] (.s (aB r)) []:=by
 unfold widgetry_scroll_within_1 at hr
 refine Con.of_ok 9 0 [.tmp 2] [(0,.s (aI p_n))] Tryd.func126 rfl rfl rfl rfl rfl rfl rfl rfl fun w g M ρ _=>(Ok.seq (Ok.region (OkOps.y (aB false) (OkOps.nil (Ok.seq (Ok.region (OkOps.y (aI p_n) (OkOps.y (aB (decide (p_n < (-1099511627776)))) (OkOps.y (aB (decide (p_n < (-1099511627776)))) (OkOps.q (triQG (x:=aI p_n) rfl rfl trivial rfl) (OkOps.q (triQG (x:=aB (decide (p_n > 1099511627776))) rfl rfl ⟨fun h=>h,trivial⟩ rfl) ?_)))))))))))
 refine OkOps.q (triOr rfl rfl (fun h=>by rw [h];rfl) rfl) ?_
 refine OkOps.y (aB ((decide (p_n < (-1099511627776))) || (decide (p_n > 1099511627776)))) (OkOps.nil (Ok.ret ?_))
 obtain rfl:=Option.some.inj hr
 exact ⟨_,rfl,.inl rfl,trivial⟩
theorem sl_IndexFunc_within_c (p_s : (List Int)) {r : Int} (hr : sl_IndexFunc_within p_s = some r) : Con Tryd.prog 70 [.c (.d (.sl (List.map (eInt .i64) p_s))),.c (.fn 126 [])] [] (.s (aI r)) []:=by
 unfold sl_IndexFunc_within at hr
 refine Con.of_ok 19 0 [.tmp 4] [(0,.s (.c (.d (.sl (List.map (eInt .i64) p_s))))),(1,.s (.c (.fn 126 [])))] Tryd.func70 rfl rfl rfl rfl rfl rfl rfl rfl fun w g M ρ _=>(Ok.seq (Ok.region (OkOps.y (aI 0) (OkOps.nil ?_))))
 obtain ⟨k2,hk2,hr⟩:=jn_some hr
 refine Ok.join (fun (s1 : Unit)=>⟨[],[],0⟩) k2 r (fun s1 hr=>?_) ?_
 rw [hk2] at hr
 refine Ok.seq (Ok.region (OkOps.y (aI (-1)) (OkOps.nil (Ok.ret ?_))))
 obtain rfl:=Option.some.inj hr
 exact ⟨_,rfl,.inl rfl,trivial⟩
 clear hk2
 refine Ok.seq (Ok.region (OkOps.y (.c (.d (.sl (List.map (eInt .i64) p_s)))) (OkOps.q (triLen (enc:=(eInt .i64)) p_s rfl rfl trivial rfl) (OkOps.y (aI 0) (OkOps.nil (Ok.block (Ok.loopK (fun (s3 : Int)=>⟨[(0,.s (.c (.d (.sl (List.map (eInt .i64) p_s))))),(1,.s (.c (.fn 126 []))),(7,.s (aI (p_s.length : Int))),(8,.s (aI s3))],[],0⟩) hr (Conv.mk (tau []) ⟨⟨_,rfl,.inl rfl⟩,⟨_,rfl,.inl rfl⟩,⟨_,rfl,.inl rfl⟩,⟨_,rfl,.inl rfl⟩,trivial⟩ trivial rfl rfl rfl rfl) ?_)))))))
 clear hr
 intro again4 s3 hr
 unfold sl_IndexFunc_within_L1 at hr
 refine Ok.seq (Ok.region (OkOps.y (aB (decide (s3 < (p_s.length : Int)))) (OkOps.nil (Ok.seq ?_))))
 refine Ok.cond (b:=decide (s3 < (p_s.length : Int))) rfl (fun h5=>?_) (fun h5=>?_)
 have hr:=selT h5 hr
 refine Ok.skip (Ok.seq (Ok.block (Ok.seq (Ok.region (OkOps.y (aI s3) (OkOps.y (aI s3) (OkOps.nil (Ok.seq (Ok.region (OkOps.y (.c (.fn 126 [])) (OkOps.y (.c (.d (.sl (List.map (eInt .i64) p_s)))) (OkOps.y (aI s3) ?_))))))))))))
 obtain ⟨x6,hx6,hr⟩:=bind_some hr
 refine OkOps.q (triIdx (enc:=(eInt .i64)) (L:=p_s) (row:=[dI x6]) hx6 rfl rfl rfl rfl (fun _=>rfl) trivial rfl) (OkOps.y (aI x6) ?_)
 obtain ⟨x7,hx7,hr⟩:=bind_some hr
 refine OkOps.q (triCallF (caps:=[]) (tau []) (.s (aB x7)) [] rfl (widgetry_scroll_within_1_c _ hx7) rfl ⟨.inl rfl,trivial⟩ trivial entry126 trivial rfl rfl rfl rfl trivial rfl rfl rfl) (OkOps.nil ?_)
 refine Ok.cond (b:=x7) rfl (fun h8=>?_) (fun h8=>?_)
 have hr:=selT h8 hr
 refine Ok.seq (Ok.region (OkOps.y (aI s3) (OkOps.y (aI s3) (OkOps.nil (Ok.ret ?_)))))
 obtain rfl:=Option.some.inj hr
 exact ⟨_,rfl,.inl rfl,trivial⟩
 have hr:=selF h8 hr
 refine Ok.skip (Ok.region (OkOps.y (aI (IntKind.i64.wrap (s3 + 1))) (OkOps.y (aI (IntKind.i64.wrap (s3 + 1))) (OkOps.nil ?_))))
 exact ⟨IntKind.i64.wrap (s3 + 1),hr,(Conv.mk (tau []) ⟨⟨_,rfl,.inl rfl⟩,⟨_,rfl,.inl rfl⟩,⟨_,rfl,.inl rfl⟩,⟨_,rfl,.inl rfl⟩,trivial⟩ trivial rfl rfl rfl rfl)⟩
 have hr:=selF h5 hr
 refine Ok.exit ?_
 exact ⟨(),hr,(Conv.mk (tau []) trivial trivial rfl rfl rfl rfl)⟩
theorem sl_ContainsFunc_within_c (p_s : (List Int)) {r : Bool} (hr : sl_ContainsFunc_within p_s = some r) : Con Tryd.prog 125 [.c (.d (.sl (List.map (eInt .i64) p_s))),.c (.fn 126 [])] [] (.s (aB r)) []:=by
 unfold sl_ContainsFunc_within at hr
 refine Con.of_ok 9 0 [.tmp 4] [(0,.s (.c (.d (.sl (List.map (eInt .i64) p_s))))),(1,.s (.c (.fn 126 [])))] Tryd.func125 rfl rfl rfl rfl rfl rfl rfl rfl fun w g M ρ _=>(Ok.seq (Ok.region (OkOps.y (aB false) (OkOps.nil (Ok.seq (Ok.region (OkOps.y (.c (.d (.sl (List.map (eInt .i64) p_s)))) (OkOps.y (.c (.fn 126 [])) ?_))))))))
 obtain ⟨x1,hx1,hr⟩:=bind_some hr
 refine OkOps.q (triCl (tau []) (.s (aI x1)) [] (sl_IndexFunc_within_c _ hx1) rfl ⟨.inl rfl,.inl rfl,trivial⟩ trivial entry70 trivial) (OkOps.y (aB (decide (x1 ≥ 0))) (OkOps.y (aB (decide (x1 ≥ 0))) (OkOps.nil (Ok.ret ?_))))
 obtain rfl:=Option.some.inj hr
 exact ⟨_,rfl,.inl rfl,trivial⟩
theorem widgetry_scroll_within_c (l : (List Int)) {r : Bool} (hr : widgetry_scroll_within l = some r) : Con Tryd.prog 114 [.c (.d (.sl (List.map (eInt .i64) l)))] [] (.s (aB r)) []:=by
 unfold widgetry_scroll_within at hr
 refine Con.of_ok 6 0 [.tmp 2] [(0,.s (.c (.d (.sl (List.map (eInt .i64) l)))))] Tryd.func114 rfl rfl rfl rfl rfl rfl rfl rfl fun w g M ρ _=>(Ok.seq (Ok.region (OkOps.y (aB false) (OkOps.nil (Ok.seq (Ok.region (OkOps.y (.c (.d (.sl (List.map (eInt .i64) l)))) ?_)))))))
 obtain ⟨x1,hx1,hr⟩:=bind_some hr
 refine OkOps.q (triCl (tau []) (.s (aB x1)) [] (sl_ContainsFunc_within_c _ hx1) rfl ⟨.inl rfl,.inl rfl,trivial⟩ trivial entry125 trivial) (OkOps.y (aB (!x1)) (OkOps.y (aB (!x1)) (OkOps.nil (Ok.ret ?_))))
 obtain rfl:=Option.some.inj hr
 exact ⟨_,rfl,.inl rfl,trivial⟩
theorem widgetry_scroll_heights_1_c (p_n : Int) {r : Bool} (hr : widgetry_scroll_heights_1 p_n = some r) : Con Tryd.prog 127 [aI p_n] [] (.s (aB r)) []:=by
 unfold widgetry_scroll_heights_1 at hr
 refine Con.of_ok 9 0 [.tmp 2] [(0,.s (aI p_n))] Tryd.func127 rfl rfl rfl rfl rfl rfl rfl rfl fun w g M ρ _=>(Ok.seq (Ok.region (OkOps.y (aB false) (OkOps.nil (Ok.seq (Ok.region (OkOps.y (aI p_n) (OkOps.y (aB (decide (p_n < 0))) (OkOps.y (aB (decide (p_n < 0))) (OkOps.q (triQG (x:=aI p_n) rfl rfl trivial rfl) (OkOps.q (triQG (x:=aB (decide (p_n > 1099511627776))) rfl rfl ⟨fun h=>h,trivial⟩ rfl) ?_)))))))))))
 refine OkOps.q (triOr rfl rfl (fun h=>by rw [h];rfl) rfl) ?_
 refine OkOps.y (aB ((decide (p_n < 0)) || (decide (p_n > 1099511627776)))) (OkOps.nil (Ok.ret ?_))
 obtain rfl:=Option.some.inj hr
 exact ⟨_,rfl,.inl rfl,trivial⟩
theorem sl_IndexFunc_heights_c (p_s : (List Int)) {r : Int} (hr : sl_IndexFunc_heights p_s = some r) : Con Tryd.prog 70 [.c (.d (.sl (List.map (eInt .i64) p_s))),.c (.fn 127 [])] [] (.s (aI r)) []:=by
 unfold sl_IndexFunc_heights at hr
 refine Con.of_ok 19 0 [.tmp 4] [(0,.s (.c (.d (.sl (List.map (eInt .i64) p_s))))),(1,.s (.c (.fn 127 [])))] Tryd.func70 rfl rfl rfl rfl rfl rfl rfl rfl fun w g M ρ _=>(Ok.seq (Ok.region (OkOps.y (aI 0) (OkOps.nil ?_))))
 obtain ⟨k2,hk2,hr⟩:=jn_some hr
 refine Ok.join (fun (s1 : Unit)=>⟨[],[],0⟩) k2 r (fun s1 hr=>?_) ?_
 rw [hk2] at hr
 refine Ok.seq (Ok.region (OkOps.y (aI (-1)) (OkOps.nil (Ok.ret ?_))))
 obtain rfl:=Option.some.inj hr
 exact ⟨_,rfl,.inl rfl,trivial⟩
 clear hk2
 refine Ok.seq (Ok.region (OkOps.y (.c (.d (.sl (List.map (eInt .i64) p_s)))) (OkOps.q (triLen (enc:=(eInt .i64)) p_s rfl rfl trivial rfl) (OkOps.y (aI 0) (OkOps.nil (Ok.block (Ok.loopK (fun (s3 : Int)=>⟨[(0,.s (.c (.d (.sl (List.map (eInt .i64) p_s))))),(1,.s (.c (.fn 127 []))),(7,.s (aI (p_s.length : Int))),(8,.s (aI s3))],[],0⟩) hr (Conv.mk (tau []) ⟨⟨_,rfl,.inl rfl⟩,⟨_,rfl,.inl rfl⟩,⟨_,rfl,.inl rfl⟩,⟨_,rfl,.inl rfl⟩,trivial⟩ trivial rfl rfl rfl rfl) ?_)))))))
 clear hr
 intro again4 s3 hr
 unfold sl_IndexFunc_heights_L1 at hr
 refine Ok.seq (Ok.region (OkOps.y (aB (decide (s3 < (p_s.length : Int)))) (OkOps.nil (Ok.seq ?_))))
 refine Ok.cond (b:=decide (s3 < (p_s.length : Int))) rfl (fun h5=>?_) (fun h5=>?_)
 have hr:=selT h5 hr
 refine Ok.skip (Ok.seq (Ok.block (Ok.seq (Ok.region (OkOps.y (aI s3) (OkOps.y (aI s3) (OkOps.nil (Ok.seq (Ok.region (OkOps.y (.c (.fn 127 [])) (OkOps.y (.c (.d (.sl (List.map (eInt .i64) p_s)))) (OkOps.y (aI s3) ?_))))))))))))
 obtain ⟨x6,hx6,hr⟩:=bind_some hr
 refine OkOps.q (triIdx (enc:=(eInt .i64)) (L:=p_s) (row:=[dI x6]) hx6 rfl rfl rfl rfl (fun _=>rfl) trivial rfl) (OkOps.y (aI x6) ?_)
 obtain ⟨x7,hx7,hr⟩:=bind_some hr
 refine OkOps.q (triCallF (caps:=[]) (tau []) (.s (aB x7)) [] rfl (widgetry_scroll_heights_1_c _ hx7) rfl ⟨.inl rfl,trivial⟩ trivial entry127 trivial rfl rfl rfl rfl trivial rfl rfl rfl) (OkOps.nil ?_)
 refine Ok.cond (b:=x7) rfl (fun h8=>?_) (fun h8=>?_)
 have hr:=selT h8 hr
 refine Ok.seq (Ok.region (OkOps.y (aI s3) (OkOps.y (aI s3) (OkOps.nil (Ok.ret ?_)))))
 obtain rfl:=Option.some.inj hr
 exact ⟨_,rfl,.inl rfl,trivial⟩
 have hr:=selF h8 hr
 refine Ok.skip (Ok.region (OkOps.y (aI (IntKind.i64.wrap (s3 + 1))) (OkOps.y (aI (IntKind.i64.wrap (s3 + 1))) (OkOps.nil ?_))))
 exact ⟨IntKind.i64.wrap (s3 + 1),hr,(Conv.mk (tau []) ⟨⟨_,rfl,.inl rfl⟩,⟨_,rfl,.inl rfl⟩,⟨_,rfl,.inl rfl⟩,⟨_,rfl,.inl rfl⟩,trivial⟩ trivial rfl rfl rfl rfl)⟩
 have hr:=selF h5 hr
 refine Ok.exit ?_
 exact ⟨(),hr,(Conv.mk (tau []) trivial trivial rfl rfl rfl rfl)⟩
theorem sl_ContainsFunc_heights_c (p_s : (List Int)) {r : Bool} (hr : sl_ContainsFunc_heights p_s = some r) : Con Tryd.prog 125 [.c (.d (.sl (List.map (eInt .i64) p_s))),.c (.fn 127 [])] [] (.s (aB r)) []:=by
 unfold sl_ContainsFunc_heights at hr
 refine Con.of_ok 9 0 [.tmp 4] [(0,.s (.c (.d (.sl (List.map (eInt .i64) p_s))))),(1,.s (.c (.fn 127 [])))] Tryd.func125 rfl rfl rfl rfl rfl rfl rfl rfl fun w g M ρ _=>(Ok.seq (Ok.region (OkOps.y (aB false) (OkOps.nil (Ok.seq (Ok.region (OkOps.y (.c (.d (.sl (List.map (eInt .i64) p_s)))) (OkOps.y (.c (.fn 127 [])) ?_))))))))
 obtain ⟨x1,hx1,hr⟩:=bind_some hr
 refine OkOps.q (triCl (tau []) (.s (aI x1)) [] (sl_IndexFunc_heights_c _ hx1) rfl ⟨.inl rfl,.inl rfl,trivial⟩ trivial entry70 trivial) (OkOps.y (aB (decide (x1 ≥ 0))) (OkOps.y (aB (decide (x1 ≥ 0))) (OkOps.nil (Ok.ret ?_))))
 obtain rfl:=Option.some.inj hr
 exact ⟨_,rfl,.inl rfl,trivial⟩
theorem widgetry_scroll_heights_c (l : (List Int)) {r : Bool} (hr : widgetry_scroll_heights l = some r) : Con Tryd.prog 115 [.c (.d (.sl (List.map (eInt .i64) l)))] [] (.s (aB r)) []:=by
 unfold widgetry_scroll_heights at hr
 refine Con.of_ok 6 0 [.tmp 2] [(0,.s (.c (.d (.sl (List.map (eInt .i64) l)))))] Tryd.func115 rfl rfl rfl rfl rfl rfl rfl rfl fun w g M ρ _=>(Ok.seq (Ok.region (OkOps.y (aB false) (OkOps.nil (Ok.seq (Ok.region (OkOps.y (.c (.d (.sl (List.map (eInt .i64) l)))) ?_)))))))
 obtain ⟨x1,hx1,hr⟩:=bind_some hr
 refine OkOps.q (triCl (tau []) (.s (aB x1)) [] (sl_ContainsFunc_heights_c _ hx1) rfl ⟨.inl rfl,.inl rfl,trivial⟩ trivial entry125 trivial) (OkOps.y (aB (!x1)) (OkOps.y (aB (!x1)) (OkOps.nil (Ok.ret ?_))))
 obtain rfl:=Option.some.inj hr
 exact ⟨_,rfl,.inl rfl,trivial⟩
theorem widgetry_scroll_Pinned_c (l : (List Section)) (offset : Int) {r : (List Int)} (hr : widgetry_scroll_Pinned l offset = some r) : Con Tryd.prog 104 [.c (.d (.sl (List.map Section.cs l))),aI offset] [] (.s (.c (.d (.sl (List.map (eInt .i64) r))))) []:=by
 unfold widgetry_scroll_Pinned at hr
 refine Con.of_ok 64 0 [.tmp 4] [(0,.s (.c (.d (.sl (List.map Section.cs l))))),(1,.s (aI offset))] Tryd.func104 rfl rfl rfl rfl rfl rfl rfl rfl fun w g M ρ _=>(Ok.seq (Ok.region (OkOps.y (.c (.d (.v (.slice none 0 0)))) (OkOps.nil (Ok.seq (Ok.seq (Ok.region (OkOps.y (.c (.d (.sl (List.map Section.cs l)))) (OkOps.q (triLen (enc:=Section.cs) l rfl rfl trivial rfl) (OkOps.y (aB (decide ((l.length : Int) > 10000))) (OkOps.y (aB (decide ((l.length : Int) > 10000))) (OkOps.q (triQG (x:=aI offset) rfl rfl trivial rfl) (OkOps.q (triBSG (enc:=(eInt .i64)) ([offset]) rfl rfl rfl rfl rfl rfl rfl rfl rfl (fun _=>rfl) ⟨fun h=>h,trivial⟩ rfl) ?_)))))))))))))
 obtain ⟨x1,hx1,hr⟩:=bind_some hr
 refine OkOps.q (triCallG (x:=aB x1) (fun hg=>widgetry_scroll_within_c _ (gO_t hx1 hg)) rfl rfl ⟨.inl rfl,trivial⟩ ⟨fun h=>h,trivial⟩ entry114 rfl rfl rfl) (OkOps.q (triQG (x:=aB (!x1)) rfl rfl ⟨fun h=>h,trivial⟩ rfl) ?_)
 refine OkOps.q (triOr rfl rfl (fun h=>by rw [h];rfl) rfl) ?_
 refine OkOps.nil ?_
 refine Ok.cond (b:=(decide ((l.length : Int) > 10000)) || (!x1)) rfl (fun h2=>?_) (fun h2=>?_)
 have hr:=selT h2 hr
 refine Ok.seq (Ok.region (OkOps.y (.c (.d (.v (.slice none 0 0)))) (OkOps.nil (Ok.ret ?_))))
 obtain rfl:=Option.some.inj hr
 exact ⟨_,rfl,.inr rfl,trivial⟩
 have hr:=selF h2 hr
 refine Ok.skip (Ok.seq (Ok.region (OkOps.y (.c (.d (.v (.slice none 0 0)))) (OkOps.nil ?_))))
 obtain ⟨k4,hk4,hr⟩:=jn_some hr
 refine Ok.join (fun (s3 : (List Int))=>⟨[(5,.s (.c (.tl 1005 (List.map (eInt .i64) s3))))],[(1005,.tail 1)],0⟩) k4 r (fun s3 hr=>?_) ?_
 rw [hk4] at hr
 refine Ok.seq (Ok.region (OkOps.y (.c (.tl 1005 (List.map (eInt .i64) s3))) (OkOps.y (.c (.tl 1005 (List.map (eInt .i64) s3))) (OkOps.nil (Ok.ret ?_)))))
 obtain rfl:=Option.some.inj hr
 exact ⟨_,rfl,.inr rfl,trivial⟩
 clear hk4
 refine Ok.seq (Ok.region (OkOps.y (.c (.d (.sl (List.map Section.cs l)))) (OkOps.q (triLen (enc:=Section.cs) l rfl rfl trivial rfl) (OkOps.y (aI 0) (OkOps.nil (Ok.block (Ok.loopK (fun (s5 : (List Int) × Int)=>⟨[(1,.s (aI offset)),(5,.s (.c (.tl 1008 (List.map (eInt .i64) s5.1)))),(18,.s (.c (.d (.sl (List.map Section.cs l))))),(19,.s (aI (l.length : Int))),(20,.s (aI s5.2))],[(1008,.tail 1)],0⟩) hr (Conv.trans (Conv.nil 5 1011 1 0 rfl rfl) (Conv.mk (tau [(1008,1011)]) ⟨⟨_,rfl,.inl rfl⟩,⟨_,rfl,.inl rfl⟩,⟨_,rfl,.inl rfl⟩,⟨_,rfl,.inl rfl⟩,⟨_,rfl,.inl rfl⟩,trivial⟩ ⟨rfl,trivial⟩ rfl rfl rfl rfl)) ?_)))))))
 clear hr
 intro again6 s5 hr
 unfold widgetry_scroll_Pinned_L1 at hr
 refine Ok.seq (Ok.region (OkOps.y (aB (decide (s5.2 < (l.length : Int)))) (OkOps.nil (Ok.seq ?_))))
 refine Ok.cond (b:=decide (s5.2 < (l.length : Int))) rfl (fun h7=>?_) (fun h7=>?_)
 have hr:=selT h7 hr
 refine Ok.skip (Ok.seq (Ok.block (Ok.seq (Ok.region ?_))))
 obtain ⟨x8,hx8,hr⟩:=bind_some hr
 refine OkOps.q (triIdx (enc:=Section.cs) (L:=l) (row:=[dI x8.Top,dI x8.Height,dI x8.Header]) hx8 rfl rfl rfl rfl (fun _=>rfl) trivial rfl) (OkOps.y (.agg [cI x8.Top,cI x8.Height,cI x8.Header]) (OkOps.m 0 (triAlloc (j:=0) (cs:=[cI 0,cI 0,cI 0]) rfl rfl rfl rfl) (OkOps.w (triStore (cs':=[cI x8.Top,cI x8.Height,cI x8.Header]) rfl rfl rfl rfl rfl rfl rfl rfl rfl) (OkOps.nil (Ok.seq (Ok.seq (Ok.region (OkOps.y (.c (.loc 0 0)) (OkOps.y (aI x8.Top) (OkOps.m 0 (triBST (sz:=1) (enc:=(eInt .i64)) (j:=1) ([x8.Top]) rfl rfl rfl rfl rfl rfl rfl rfl (fun _=>rfl) trivial rfl rfl) ?_))))))))))
 obtain ⟨x9,hx9,hr⟩:=bind_some hr
 refine OkOps.q (triCl (tau []) (.s (aB x9)) [] (widgetry_scroll_within_c _ hx9) rfl ⟨.inr rfl,trivial⟩ trivial entry114 trivial) (OkOps.y (aB (!x9)) (OkOps.y (aB (!x9)) (OkOps.q (triQG (x:=.c (.loc 0 1)) rfl rfl trivial rfl) (OkOps.q (triQG (x:=aI x8.Height) rfl rfl ⟨fun h=>h,trivial⟩ rfl) (OkOps.q (triQG (x:=.c (.loc 0 2)) rfl rfl trivial rfl) (OkOps.q (triQG (x:=aI x8.Header) rfl rfl ⟨fun h=>h,trivial⟩ rfl) (OkOps.q (triBSG (enc:=(eInt .i64)) ([x8.Height,x8.Header]) rfl rfl rfl rfl rfl rfl rfl rfl rfl (fun _=>rfl) ⟨fun h=>h,⟨fun h=>h,trivial⟩⟩ rfl) ?_)))))))
 obtain ⟨x10,hx10,hr⟩:=bind_some hr
 refine OkOps.q (triCallG (x:=aB x10) (fun hg=>widgetry_scroll_heights_c _ (gO_t hx10 hg)) rfl rfl ⟨.inl rfl,trivial⟩ ⟨fun h=>h,trivial⟩ entry115 rfl rfl rfl) (OkOps.q (triQG (x:=aB (!x10)) rfl rfl ⟨fun h=>h,trivial⟩ rfl) ?_)
 refine OkOps.q (triOr rfl rfl (fun h=>by rw [h];rfl) rfl) ?_
 refine OkOps.nil ?_
 refine Ok.cond (b:=(!x9) || (!x10)) rfl (fun h11=>?_) (fun h11=>?_)
 have hr:=selT h11 hr
 refine Ok.seq (Ok.region (OkOps.y (.c (.d (.v (.slice none 0 0)))) (OkOps.nil (Ok.ret ?_))))
 obtain rfl:=Option.some.inj hr
 exact ⟨_,rfl,.inr rfl,trivial⟩
 have hr:=selF h11 hr
 refine Ok.skip (Ok.seq (Ok.region (OkOps.y (.c (.loc 0 0)) (OkOps.y (aI x8.Top) (OkOps.y (aI x8.Top) (OkOps.nil ?_))))))
 obtain ⟨k13,hk13,hr⟩:=jn_some hr
 refine Ok.join (fun (s12 : Int)=>⟨[(1,.s (aI offset)),(5,.s (.c (.tl 1008 (List.map (eInt .i64) s5.1)))),(8,.s (aI s12)),(18,.s (.c (.d (.sl (List.map Section.cs l))))),(19,.s (aI (l.length : Int))),(20,.s (aI s5.2))],[(1008,.tail 1)],0⟩) k13 r (fun s12 hr=>?_) ?_
 rw [hk13] at hr
 refine Ok.region (OkOps.y (.c (.tl 1008 (List.map (eInt .i64) s5.1))) (OkOps.y (aI s12) (OkOps.m 0 (triBST (sz:=1) (enc:=(eInt .i64)) (j:=2) ([s12]) rfl rfl rfl rfl rfl rfl rfl rfl (fun _=>rfl) trivial rfl rfl) ?_)))
 obtain ⟨x14,hx14,hr⟩:=bind_some hr
 refine OkOps.m2 0 (triApp (enc:=(eInt .i64)) (L:=s5.1) (X:=[s12]) (j:=1008) (j':=3) hx14 rfl rfl rfl rfl rfl rfl (fun _=>rfl) (fun _=>rfl) (by decide) trivial rfl rfl) (OkOps.y (.c (.tl 3 (List.map (eInt .i64) x14))) (OkOps.nil (Ok.region (OkOps.y (aI (IntKind.i64.wrap (s5.2 + 1))) (OkOps.y (aI (IntKind.i64.wrap (s5.2 + 1))) (OkOps.nil ?_))))))
 exact ⟨(x14,IntKind.i64.wrap (s5.2 + 1)),hr,(Conv.mk (tau [(1008,3)]) ⟨⟨_,rfl,.inl rfl⟩,⟨_,rfl,.inl rfl⟩,⟨_,rfl,.inl rfl⟩,⟨_,rfl,.inl rfl⟩,⟨_,rfl,.inl rfl⟩,trivial⟩ ⟨rfl,trivial⟩ rfl rfl rfl rfl)⟩
 clear hk13
 refine Ok.seq (Ok.region (OkOps.y (.c (.loc 0 2)) (OkOps.y (aI x8.Header) (OkOps.y (.c (.loc 0 1)) (OkOps.y (aI x8.Height) (OkOps.y (aB (decide (x8.Header ≤ x8.Height))) (OkOps.nil ?_)))))))
 refine Ok.cond (b:=decide (x8.Header ≤ x8.Height)) rfl (fun h15=>?_) (fun h15=>?_)
 have hr:=selT h15 hr
 refine Ok.region (OkOps.y (.c (.loc 0 0)) (OkOps.y (aI x8.Top) (OkOps.y (aI offset) (OkOps.y (.c (.loc 0 0)) (OkOps.y (aI x8.Top) (OkOps.y (.c (.loc 0 1)) (OkOps.y (aI x8.Height) (OkOps.y (aI (IntKind.i64.wrap (x8.Top + x8.Height))) (OkOps.y (.c (.loc 0 2)) (OkOps.y (aI x8.Header) (OkOps.y (aI (IntKind.i64.wrap ((IntKind.i64.wrap (x8.Top + x8.Height)) - x8.Header))) (OkOps.y (aI (mnI offset (IntKind.i64.wrap ((IntKind.i64.wrap (x8.Top + x8.Height)) - x8.Header)))) (OkOps.y (aI (mxI x8.Top (mnI offset (IntKind.i64.wrap ((IntKind.i64.wrap (x8.Top + x8.Height)) - x8.Header))))) (OkOps.y (aI (mxI x8.Top (mnI offset (IntKind.i64.wrap ((IntKind.i64.wrap (x8.Top + x8.Height)) - x8.Header))))) (OkOps.nil ?_)))))))))))))))
 exact ⟨mxI x8.Top (mnI offset (IntKind.i64.wrap ((IntKind.i64.wrap (x8.Top + x8.Height)) - x8.Header))),hr,(Conv.mk (tau []) ⟨⟨_,rfl,.inl rfl⟩,⟨_,rfl,.inl rfl⟩,⟨_,rfl,.inl rfl⟩,⟨_,rfl,.inl rfl⟩,⟨_,rfl,.inl rfl⟩,⟨_,rfl,.inl rfl⟩,trivial⟩ ⟨rfl,trivial⟩ rfl rfl rfl rfl)⟩
 have hr:=selF h15 hr
 refine Ok.skip ?_
 exact ⟨x8.Top,hr,(Conv.mk (tau []) ⟨⟨_,rfl,.inl rfl⟩,⟨_,rfl,.inl rfl⟩,⟨_,rfl,.inl rfl⟩,⟨_,rfl,.inl rfl⟩,⟨_,rfl,.inl rfl⟩,⟨_,rfl,.inl rfl⟩,trivial⟩ ⟨rfl,trivial⟩ rfl rfl rfl rfl)⟩
 have hr:=selF h7 hr
 refine Ok.exit ?_
 exact ⟨s5.1,hr,(Conv.mk (tau [(1005,1008)]) ⟨⟨_,rfl,.inl rfl⟩,trivial⟩ ⟨rfl,trivial⟩ rfl rfl rfl rfl)⟩
theorem ht_scene_turn_c (p_s : hit_scene) (id : Int) (o : hit_origin) {r : Transform × Bool} (hr : ht_scene_turn p_s id o = some r) : Con Tryd.prog 55 [.c (.loc 0 0),aI id,.agg [cI o.x,cI o.y]] [(0,.blk [cI p_s.root,.d (.mp true (encM (kInt .i64) Node.cs p_s.nodes)),.d (.mp true (encM (kInt .i64) (eArr 22 (dInt .i64)) p_s.styles)),.d (.mp true (encM (kInt .i64) Box.cs p_s.boxes)),.d (.mp false (encM (kInt .i64) (eInt .i64) p_s.offsets))] 91)] (.tup [.agg [cI r.1.Turn,cB_ r.1.Mirror,cI r.1.Scale,cI r.1.DX,cI r.1.DY],aB r.2]) [(0,.blk [cI p_s.root,.d (.mp true (encM (kInt .i64) Node.cs p_s.nodes)),.d (.mp true (encM (kInt .i64) (eArr 22 (dInt .i64)) p_s.styles)),.d (.mp true (encM (kInt .i64) Box.cs p_s.boxes)),.d (.mp false (encM (kInt .i64) (eInt .i64) p_s.offsets))] 91)]:=by
 unfold ht_scene_turn at hr
 refine Con.of_ok 52 0 [.cell 6 123,.tmp 7] [(0,.s (.c (.loc 0 0))),(1,.s (aI id)),(2,.s (.agg [cI o.x,cI o.y]))] Tryd.func55 rfl rfl rfl rfl rfl rfl rfl rfl fun w g M ρ _=>(Ok.seq (Ok.region (OkOps.m 0 (triBox (j:=1) (cs:=[cI o.x,cI o.y]) rfl rfl rfl rfl rfl) (OkOps.m 0 (triAlloc (j:=2) (cs:=[cI 0,cB_ false,cI 0,cI 0,cI 0]) rfl rfl rfl rfl) (OkOps.y (aB false) (OkOps.nil (Ok.seq (Ok.region (OkOps.y (.c (.loc 0 0)) (OkOps.y (.c (.loc 0 0)) (OkOps.y (.c (.loc 0 1)) (OkOps.y (.c (.d (.mp true (encM (kInt .i64) Node.cs p_s.nodes)))) (OkOps.y (aI id) ?_)))))))))))))
 obtain ⟨x1,hx1,hr⟩:=bind_some hr
 refine OkOps.q (triLook (agg:=true) (ek:=(kInt .i64)) (ev:=Node.cs) (L:=p_s.nodes) (r:=.agg [cI x1.1.ID,cI x1.1.Parent,cI x1.1.Kind,cS x1.1.Key,.d (.sl (List.map Attr.cs x1.1.Attrs)),.d (.sl (List.map Action.cs x1.1.Actions)),.d (.sl (List.map (eInt .i64) x1.1.Kids))]) hx1 rfl rfl rfl (keyInt Tryd.underlying3) rfl rfl (fun h=>by cases h) rfl trivial rfl) ?_
 refine OkOps.y (.c (.d (.sl (List.map Attr.cs x1.1.Attrs)))) (OkOps.y (.c (.d (.sl (List.map Attr.cs x1.1.Attrs)))) (OkOps.nil (Ok.seq (Ok.region (OkOps.y (.c (.d (.sl (List.map Attr.cs x1.1.Attrs)))) ?_)))))
 obtain ⟨x2,hx2,hr⟩:=bind_some hr
 refine OkOps.q (triCl (tau []) (.s (aI x2)) [] (vw_Number_c _ _ _ hx2) rfl ⟨.inl rfl,.inl rfl,.inl rfl,trivial⟩ trivial entry34 trivial) (OkOps.y (.c (.d (.sl (List.map Attr.cs x1.1.Attrs)))) ?_)
 obtain ⟨x3,hx3,hr⟩:=bind_some hr
 refine OkOps.q (triCl (tau []) (.s (aI x3)) [] (vw_Number_c _ _ _ hx3) rfl ⟨.inl rfl,.inl rfl,.inl rfl,trivial⟩ trivial entry34 trivial) (OkOps.y (aI x2) (OkOps.y (aI x3) (OkOps.nil (Ok.seq (Ok.seq (Ok.region (OkOps.y (aI x2) (OkOps.y (aB (decide (x2 < 0))) (OkOps.y (aB (decide (x2 < 0))) (OkOps.q (triQG (x:=aI x2) rfl rfl trivial rfl) (OkOps.q (triQG (x:=aB (decide (x2 > 3))) rfl rfl ⟨fun h=>h,trivial⟩ rfl) ?_)))))))))))
 refine OkOps.q (triOr rfl rfl (fun h=>by rw [h];rfl) rfl) ?_
 refine OkOps.y (aB ((decide (x2 < 0)) || (decide (x2 > 3)))) (OkOps.q (triQG (x:=aI x3) rfl rfl trivial rfl) (OkOps.q (triQG (x:=aB (decide (x3 < 1))) rfl rfl ⟨fun h=>h,trivial⟩ rfl) ?_))
 refine OkOps.q (triOr rfl rfl (fun h=>by rw [h];rfl) rfl) ?_
 refine OkOps.y (aB (((decide (x2 < 0)) || (decide (x2 > 3))) || (decide (x3 < 1)))) (OkOps.q (triQG (x:=aI x3) rfl rfl trivial rfl) (OkOps.q (triQG (x:=aB (decide (x3 > 16))) rfl rfl ⟨fun h=>h,trivial⟩ rfl) ?_))
 refine OkOps.q (triOr rfl rfl (fun h=>by rw [h];rfl) rfl) ?_
 refine OkOps.y (aB ((((decide (x2 < 0)) || (decide (x2 > 3))) || (decide (x3 < 1))) || (decide (x3 > 16)))) (OkOps.q (triQG (x:=aI x2) rfl rfl trivial rfl) (OkOps.q (triQG (x:=aB (x2 == 0)) rfl rfl ⟨fun h=>h,trivial⟩ rfl) (OkOps.q (triQG (x:=aB (x2 == 0)) rfl rfl ⟨fun h=>h,trivial⟩ rfl) (OkOps.q (triQG (x:=aI x3) rfl rfl trivial rfl) (OkOps.q (triQG (x:=aB (x3 == 1)) rfl rfl ⟨fun h=>h,trivial⟩ rfl) ?_)))))
 refine OkOps.q (triAndG rfl rfl rfl (fun h=>h) (fun h h2=>by rw [h,h2];rfl) rfl) ?_
 refine OkOps.q (triOr rfl rfl (fun h=>by rw [h];rfl) rfl) ?_
 refine OkOps.nil ?_
 refine Ok.cond (b:=((((decide (x2 < 0)) || (decide (x2 > 3))) || (decide (x3 < 1))) || (decide (x3 > 16))) || ((x2 == 0) && (x3 == 1))) rfl (fun h4=>?_) (fun h4=>?_)
 have hr:=selT h4 hr
 refine Ok.seq (Ok.region (OkOps.y (.agg [cI 0,cB_ false,cI 0,cI 0,cI 0]) (OkOps.w (triStore (cs':=[cI 0,cB_ false,cI 0,cI 0,cI 0]) rfl rfl rfl rfl rfl rfl rfl rfl rfl) (OkOps.y (aB false) (OkOps.nil (Ok.ret ?_))))))
 obtain rfl:=Option.some.inj hr
 exact ⟨_,rfl,.inl rfl,⟨rfl,trivial⟩⟩
 have hr:=selF h4 hr
 refine Ok.skip (Ok.seq (Ok.region (OkOps.y (aI x2) (OkOps.y (aI x3) (OkOps.y (.c (.loc 1 0)) (OkOps.y (aI o.x) (OkOps.y (.c (.loc 1 1)) (OkOps.y (aI o.y) (OkOps.y (.agg [cI x2,cB_ false,cI x3,cI o.x,cI o.y]) (OkOps.w (triStore (cs':=[cI x2,cB_ false,cI x3,cI o.x,cI o.y]) rfl rfl rfl rfl rfl rfl rfl rfl rfl) (OkOps.y (aB true) (OkOps.nil (Ok.ret ?_)))))))))))))
 obtain rfl:=Option.some.inj hr
 exact ⟨_,rfl,.inl rfl,⟨rfl,trivial⟩⟩
theorem ht_scene_rect_c (p_s : hit_scene) (id : Int) (o : hit_origin) {r : Rect} (hr : ht_scene_rect p_s id o = some r) : Con Tryd.prog 58 [.c (.loc 0 0),aI id,.agg [cI o.x,cI o.y]] [(0,.blk [cI p_s.root,.d (.mp true (encM (kInt .i64) Node.cs p_s.nodes)),.d (.mp true (encM (kInt .i64) (eArr 22 (dInt .i64)) p_s.styles)),.d (.mp true (encM (kInt .i64) Box.cs p_s.boxes)),.d (.mp false (encM (kInt .i64) (eInt .i64) p_s.offsets))] 91)] (.s (.agg [cI r.X,cI r.Y,cI r.W,cI r.H])) [(0,.blk [cI p_s.root,.d (.mp true (encM (kInt .i64) Node.cs p_s.nodes)),.d (.mp true (encM (kInt .i64) (eArr 22 (dInt .i64)) p_s.styles)),.d (.mp true (encM (kInt .i64) Box.cs p_s.boxes)),.d (.mp false (encM (kInt .i64) (eInt .i64) p_s.offsets))] 91)]:=by
 unfold ht_scene_rect at hr
 refine Con.of_ok 24 0 [.cell 6 32] [(0,.s (.c (.loc 0 0))),(1,.s (aI id)),(2,.s (.agg [cI o.x,cI o.y]))] Tryd.func58 rfl rfl rfl rfl rfl rfl rfl rfl fun w g M ρ _=>(Ok.seq (Ok.region (OkOps.m 0 (triBox (j:=1) (cs:=[cI o.x,cI o.y]) rfl rfl rfl rfl rfl) (OkOps.m 0 (triAlloc (j:=2) (cs:=[cI 0,cI 0,cI 0,cI 0]) rfl rfl rfl rfl) (OkOps.nil (Ok.seq (Ok.region (OkOps.y (.c (.loc 0 0)) (OkOps.y (.c (.loc 0 0)) (OkOps.y (.c (.loc 0 3)) (OkOps.y (.c (.d (.mp true (encM (kInt .i64) Box.cs p_s.boxes)))) (OkOps.y (aI id) ?_))))))))))))
 obtain ⟨x1,hx1,hr⟩:=bind_some hr
 refine OkOps.q (triLook (agg:=true) (ek:=(kInt .i64)) (ev:=Box.cs) (L:=p_s.boxes) (r:=.agg [cI x1.1.ID,cI x1.1.Rect.X,cI x1.1.Rect.Y,cI x1.1.Rect.W,cI x1.1.Rect.H,cI x1.1.Baseline,.d (.sl (List.map Line.cs x1.1.Lines))]) hx1 rfl rfl rfl (keyInt Tryd.underlying3) rfl rfl (fun h=>by cases h) rfl trivial rfl) ?_
 refine OkOps.y (.agg [cI x1.1.Rect.X,cI x1.1.Rect.Y,cI x1.1.Rect.W,cI x1.1.Rect.H]) (OkOps.m 0 (triAlloc (j:=3) (cs:=[cI 0,cI 0,cI 0,cI 0]) rfl rfl rfl rfl) (OkOps.w (triStore (cs':=[cI x1.1.Rect.X,cI x1.1.Rect.Y,cI x1.1.Rect.W,cI x1.1.Rect.H]) rfl rfl rfl rfl rfl rfl rfl rfl rfl) (OkOps.nil (Ok.seq (Ok.region (OkOps.y (.c (.loc 1 0)) (OkOps.y (aI o.x) (OkOps.y (.c (.loc 1 1)) (OkOps.y (aI o.y) (OkOps.y (.c (.loc 3 2)) (OkOps.y (aI x1.1.Rect.W) (OkOps.y (.c (.loc 3 3)) (OkOps.y (aI x1.1.Rect.H) (OkOps.y (.agg [cI o.x,cI o.y,cI x1.1.Rect.W,cI x1.1.Rect.H]) (OkOps.w (triStore (cs':=[cI o.x,cI o.y,cI x1.1.Rect.W,cI x1.1.Rect.H]) rfl rfl rfl rfl rfl rfl rfl rfl rfl) ?_)))))))))))))))
 refine OkOps.nil (Ok.ret ?_)
 obtain rfl:=Option.some.inj hr
 exact ⟨_,rfl,.inl rfl,⟨rfl,trivial⟩⟩
theorem ht_scene_pin_c (p_s : hit_scene) (p_n : Node) (i : Int) {r : Int} (hr : ht_scene_pin p_s p_n i = some r) : Con Tryd.prog 85 [.c (.loc 0 0),.agg [cI p_n.ID,cI p_n.Parent,cI p_n.Kind,cS p_n.Key,.d (.sl (List.map Attr.cs p_n.Attrs)),.d (.sl (List.map Action.cs p_n.Actions)),.d (.sl (List.map (eInt .i64) p_n.Kids))],aI i] [(0,.blk [cI p_s.root,.d (.mp true (encM (kInt .i64) Node.cs p_s.nodes)),.d (.mp true (encM (kInt .i64) (eArr 22 (dInt .i64)) p_s.styles)),.d (.mp true (encM (kInt .i64) Box.cs p_s.boxes)),.d (.mp false (encM (kInt .i64) (eInt .i64) p_s.offsets))] 91)] (.s (aI r)) [(0,.blk [cI p_s.root,.d (.mp true (encM (kInt .i64) Node.cs p_s.nodes)),.d (.mp true (encM (kInt .i64) (eArr 22 (dInt .i64)) p_s.styles)),.d (.mp true (encM (kInt .i64) Box.cs p_s.boxes)),.d (.mp false (encM (kInt .i64) (eInt .i64) p_s.offsets))] 91)]:=by
 unfold ht_scene_pin at hr
 refine Con.of_ok 127 0 [.tmp 6] [(0,.s (.c (.loc 0 0))),(1,.s (.agg [cI p_n.ID,cI p_n.Parent,cI p_n.Kind,cS p_n.Key,.d (.sl (List.map Attr.cs p_n.Attrs)),.d (.sl (List.map Action.cs p_n.Actions)),.d (.sl (List.map (eInt .i64) p_n.Kids))])),(2,.s (aI i))] Tryd.func85 rfl rfl rfl rfl rfl rfl rfl rfl fun w g M ρ _=>(Ok.seq (Ok.region (OkOps.m 0 (triBox (j:=1) (cs:=[cI p_n.ID,cI p_n.Parent,cI p_n.Kind,cS p_n.Key,.d (.sl (List.map Attr.cs p_n.Attrs)),.d (.sl (List.map Action.cs p_n.Actions)),.d (.sl (List.map (eInt .i64) p_n.Kids))]) rfl rfl rfl rfl rfl) (OkOps.y (aI 0) (OkOps.nil (Ok.seq (Ok.regionD (by kernel_rfl) (OkD.x (.c (.loc 0 0)) rfl trivial rfl (OkD.x (.c (.loc 0 0)) rfl trivial rfl (OkD.x (.c (.loc 0 3)) rfl trivial rfl (OkD.x (.c (.d (.mp true (encM (kInt .i64) Box.cs p_s.boxes)))) rfl trivial rfl (OkD.x (.c (.loc 1 6)) rfl trivial rfl (OkD.x (.c (.d (.sl (List.map (eInt .i64) p_n.Kids)))) rfl trivial rfl (OkD.x (aI i) rfl trivial rfl ?_))))))))))))))
 obtain ⟨x1,hx1,hr⟩:=bind_some hr
 refine OkD.q (triIdx (enc:=(eInt .i64)) (L:=p_n.Kids) (row:=[dI x1]) hx1 rfl rfl rfl rfl (fun _=>rfl) trivial rfl) (OkD.x (aI x1) rfl trivial rfl ?_)
 obtain ⟨x2,hx2,hr⟩:=bind_some hr
 refine OkD.q (triLook (agg:=true) (ek:=(kInt .i64)) (ev:=Box.cs) (L:=p_s.boxes) (r:=.agg [cI x2.1.ID,cI x2.1.Rect.X,cI x2.1.Rect.Y,cI x2.1.Rect.W,cI x2.1.Rect.H,cI x2.1.Baseline,.d (.sl (List.map Line.cs x2.1.Lines))]) hx2 rfl rfl rfl (keyInt Tryd.underlying3) rfl rfl (fun h=>by cases h) rfl trivial rfl) ?_
 refine OkD.x (.agg [cI x2.1.Rect.X,cI x2.1.Rect.Y,cI x2.1.Rect.W,cI x2.1.Rect.H]) rfl trivial rfl (OkD.m 0 (triAlloc (j:=2) (cs:=[cI 0,cI 0,cI 0,cI 0]) rfl rfl rfl rfl) (OkD.w (triStore (cs':=[cI x2.1.Rect.X,cI x2.1.Rect.Y,cI x2.1.Rect.W,cI x2.1.Rect.H]) rfl rfl rfl rfl rfl rfl rfl rfl rfl) (OkD.nil (by kernel_rfl) (Ok.seq (Ok.region (OkOps.y (.c (.loc 2 1)) (OkOps.y (aI x2.1.Rect.Y) (OkOps.y (.c (.loc 2 3)) (OkOps.y (aI x2.1.Rect.H) (OkOps.y (aI (IntKind.i64.wrap (x2.1.Rect.Y + x2.1.Rect.H))) (OkOps.y (aI (IntKind.i64.wrap (x2.1.Rect.Y + x2.1.Rect.H))) (OkOps.y (aB false) (OkOps.nil ?_)))))))))))))
 obtain ⟨k4,hk4,hr⟩:=jn_some hr
 refine Ok.join (fun (s3 : Int × Bool)=>⟨[(0,.s (.c (.loc 0 0))),(4,.s (.c (.loc 1 0))),(7,.s (.c (.loc 2 0))),(8,.s (aI s3.1)),(9,.s (aB s3.2))],[(0,.blk [cI p_s.root,.d (.mp true (encM (kInt .i64) Node.cs p_s.nodes)),.d (.mp true (encM (kInt .i64) (eArr 22 (dInt .i64)) p_s.styles)),.d (.mp true (encM (kInt .i64) Box.cs p_s.boxes)),.d (.mp false (encM (kInt .i64) (eInt .i64) p_s.offsets))] 91),(1,.blk [cI p_n.ID,cI p_n.Parent,cI p_n.Kind,cS p_n.Key,.d (.sl (List.map Attr.cs p_n.Attrs)),.d (.sl (List.map Action.cs p_n.Actions)),.d (.sl (List.map (eInt .i64) p_n.Kids))] 96),(2,.blk [cI x2.1.Rect.X,cI x2.1.Rect.Y,cI x2.1.Rect.W,cI x2.1.Rect.H] 32)],0⟩) k4 r (fun s3 hr=>?_) ?_
 rw [hk4] at hr
 obtain ⟨k6,hk6,hr⟩:=jn_some hr
 refine Ok.join (fun (s5 : Int)=>⟨[(0,.s (.c (.loc 0 0))),(4,.s (.c (.loc 1 0))),(7,.s (.c (.loc 2 0))),(8,.s (aI s5))],[(0,.blk [cI p_s.root,.d (.mp true (encM (kInt .i64) Node.cs p_s.nodes)),.d (.mp true (encM (kInt .i64) (eArr 22 (dInt .i64)) p_s.styles)),.d (.mp true (encM (kInt .i64) Box.cs p_s.boxes)),.d (.mp false (encM (kInt .i64) (eInt .i64) p_s.offsets))] 91),(1,.blk [cI p_n.ID,cI p_n.Parent,cI p_n.Kind,cS p_n.Key,.d (.sl (List.map Attr.cs p_n.Attrs)),.d (.sl (List.map Action.cs p_n.Actions)),.d (.sl (List.map (eInt .i64) p_n.Kids))] 96),(2,.blk [cI x2.1.Rect.X,cI x2.1.Rect.Y,cI x2.1.Rect.W,cI x2.1.Rect.H] 32)],0⟩) k6 r (fun s5 hr=>?_) ?_
 rw [hk6] at hr
 refine Ok.seq (Ok.regionD (by kernel_rfl) (OkD.x (.c (.loc 2 1)) rfl trivial rfl (OkD.x (aI x2.1.Rect.Y) rfl trivial rfl (OkD.x (aI s5) rfl trivial rfl (OkD.x (.c (.loc 2 1)) rfl trivial rfl (OkD.x (aI x2.1.Rect.Y) rfl trivial rfl (OkD.x (aI (IntKind.i64.wrap (s5 - x2.1.Rect.Y))) rfl trivial rfl (OkD.x (aI (mxI 0 (IntKind.i64.wrap (s5 - x2.1.Rect.Y)))) rfl trivial rfl (OkD.x (.c (.loc 2 3)) rfl trivial rfl (OkD.x (aI x2.1.Rect.H) rfl trivial rfl (OkD.x (.agg [cI x2.1.Rect.Y,cI (mxI 0 (IntKind.i64.wrap (s5 - x2.1.Rect.Y))),cI x2.1.Rect.H]) rfl trivial rfl (OkD.m 0 (triBST (sz:=3) (enc:=Section.cs) (j:=3) ([(Section.mk x2.1.Rect.Y (mxI 0 (IntKind.i64.wrap (s5 - x2.1.Rect.Y))) x2.1.Rect.H)]) rfl rfl rfl rfl rfl rfl rfl rfl (fun _=>rfl) trivial rfl rfl) (OkD.x (.c (.loc 0 0)) rfl trivial rfl (OkD.x (.c (.loc 0 0)) rfl trivial rfl (OkD.x (.c (.loc 0 4)) rfl trivial rfl ?_)))))))))))))))
 refine OkD.x (.c (.d (.mp false (encM (kInt .i64) (eInt .i64) p_s.offsets)))) rfl trivial rfl (OkD.x (.c (.loc 1 0)) rfl trivial rfl (OkD.x (aI p_n.ID) rfl trivial rfl ?_))
 obtain ⟨x7,hx7,hr⟩:=bind_some hr
 refine OkD.q (triLook (agg:=false) (ek:=(kInt .i64)) (ev:=(eInt .i64)) (L:=p_s.offsets) (r:=aI x7.1) hx7 rfl rfl rfl (keyInt Tryd.underlying3) rfl rfl (fun _ _=>rfl) rfl trivial rfl) ?_
 obtain ⟨x8,hx8,hr⟩:=bind_some hr
 refine OkD.q (triCl (tau []) (.s (.c (.d (.sl (List.map (eInt .i64) x8))))) [] (widgetry_scroll_Pinned_c _ _ hx8) rfl ⟨.inr rfl,.inl rfl,trivial⟩ trivial entry104 trivial) (OkD.x (.c (.d (.sl (List.map (eInt .i64) x8)))) rfl trivial rfl (OkD.nil (by kernel_rfl) (Ok.seq (Ok.seq (Ok.region (OkOps.y (.c (.d (.sl (List.map (eInt .i64) x8)))) (OkOps.q (triLen (enc:=(eInt .i64)) x8 rfl rfl trivial rfl) (OkOps.y (aB ((x8.length : Int) == 0)) (OkOps.nil ?_)))))))))
 refine Ok.cond (b:=(x8.length : Int) == 0) rfl (fun h9=>?_) (fun h9=>?_)
 have hr:=selT h9 hr
 refine Ok.seq (Ok.region (OkOps.y (.c (.loc 2 1)) (OkOps.y (aI x2.1.Rect.Y) (OkOps.y (aI x2.1.Rect.Y) (OkOps.nil (Ok.ret ?_))))))
 obtain rfl:=Option.some.inj hr
 exact ⟨_,rfl,.inl rfl,⟨rfl,trivial⟩⟩
 have hr:=selF h9 hr
 refine Ok.skip (Ok.seq (Ok.region (OkOps.y (.c (.d (.sl (List.map (eInt .i64) x8)))) ?_)))
 obtain ⟨x10,hx10,hr⟩:=bind_some hr
 refine OkOps.q (triIdx (enc:=(eInt .i64)) (L:=x8) (row:=[dI x10]) hx10 rfl rfl rfl rfl (fun _=>rfl) trivial rfl) (OkOps.y (aI x10) (OkOps.y (aI x10) (OkOps.nil (Ok.ret ?_))))
 obtain rfl:=Option.some.inj hr
 exact ⟨_,rfl,.inl rfl,⟨rfl,trivial⟩⟩
 clear hk6
 refine Ok.seq (Ok.region (OkOps.y (aB s3.2) (OkOps.y (aB (!s3.2)) (OkOps.nil ?_))))
 refine Ok.cond (b:=!s3.2) rfl (fun h11=>?_) (fun h11=>?_)
 have hr:=selT h11 hr
 refine Ok.seq (Ok.region (OkOps.y (.c (.loc 1 6)) (OkOps.y (.c (.d (.sl (List.map (eInt .i64) p_n.Kids)))) (OkOps.q (triLen (enc:=(eInt .i64)) p_n.Kids rfl rfl trivial rfl) (OkOps.y (aI 0) (OkOps.nil (Ok.block (Ok.loopK (fun (s12 : Int × Int)=>⟨[(0,.s (.c (.loc 0 0))),(4,.s (.c (.loc 1 0))),(7,.s (.c (.loc 2 0))),(8,.s (aI s12.1)),(74,.s (.c (.d (.sl (List.map (eInt .i64) p_n.Kids))))),(75,.s (aI (p_n.Kids.length : Int))),(76,.s (aI s12.2))],[(0,.blk [cI p_s.root,.d (.mp true (encM (kInt .i64) Node.cs p_s.nodes)),.d (.mp true (encM (kInt .i64) (eArr 22 (dInt .i64)) p_s.styles)),.d (.mp true (encM (kInt .i64) Box.cs p_s.boxes)),.d (.mp false (encM (kInt .i64) (eInt .i64) p_s.offsets))] 91),(1,.blk [cI p_n.ID,cI p_n.Parent,cI p_n.Kind,cS p_n.Key,.d (.sl (List.map Attr.cs p_n.Attrs)),.d (.sl (List.map Action.cs p_n.Actions)),.d (.sl (List.map (eInt .i64) p_n.Kids))] 96),(2,.blk [cI x2.1.Rect.X,cI x2.1.Rect.Y,cI x2.1.Rect.W,cI x2.1.Rect.H] 32)],0⟩) hr (Conv.mk (tau []) ⟨⟨_,rfl,.inl rfl⟩,⟨_,rfl,.inl rfl⟩,⟨_,rfl,.inl rfl⟩,⟨_,rfl,.inl rfl⟩,⟨_,rfl,.inl rfl⟩,⟨_,rfl,.inl rfl⟩,⟨_,rfl,.inl rfl⟩,trivial⟩ ⟨rfl,rfl,rfl,trivial⟩ rfl rfl rfl rfl) ?_))))))))
 clear hr
 intro again13 s12 hr
 unfold ht_scene_pin_L1 at hr
 refine Ok.seq (Ok.region (OkOps.y (aB (decide (s12.2 < (p_n.Kids.length : Int)))) (OkOps.nil (Ok.seq ?_))))
 refine Ok.cond (b:=decide (s12.2 < (p_n.Kids.length : Int))) rfl (fun h14=>?_) (fun h14=>?_)
 have hr:=selT h14 hr
 refine Ok.skip ?_
 obtain ⟨k16,hk16,hr⟩:=jn_some hr
 refine Ok.join (fun (s15 : Int)=>⟨[(0,.s (.c (.loc 0 0))),(4,.s (.c (.loc 1 0))),(7,.s (.c (.loc 2 0))),(8,.s (aI s15)),(74,.s (.c (.d (.sl (List.map (eInt .i64) p_n.Kids))))),(75,.s (aI (p_n.Kids.length : Int))),(76,.s (aI s12.2))],[(0,.blk [cI p_s.root,.d (.mp true (encM (kInt .i64) Node.cs p_s.nodes)),.d (.mp true (encM (kInt .i64) (eArr 22 (dInt .i64)) p_s.styles)),.d (.mp true (encM (kInt .i64) Box.cs p_s.boxes)),.d (.mp false (encM (kInt .i64) (eInt .i64) p_s.offsets))] 91),(1,.blk [cI p_n.ID,cI p_n.Parent,cI p_n.Kind,cS p_n.Key,.d (.sl (List.map Attr.cs p_n.Attrs)),.d (.sl (List.map Action.cs p_n.Actions)),.d (.sl (List.map (eInt .i64) p_n.Kids))] 96),(2,.blk [cI x2.1.Rect.X,cI x2.1.Rect.Y,cI x2.1.Rect.W,cI x2.1.Rect.H] 32)],0⟩) k16 r (fun s15 hr=>?_) ?_
 rw [hk16] at hr
 refine Ok.region (OkOps.y (aI (IntKind.i64.wrap (s12.2 + 1))) (OkOps.y (aI (IntKind.i64.wrap (s12.2 + 1))) (OkOps.nil ?_)))
 exact ⟨(s15,IntKind.i64.wrap (s12.2 + 1)),hr,(Conv.mk (tau []) ⟨⟨_,rfl,.inl rfl⟩,⟨_,rfl,.inl rfl⟩,⟨_,rfl,.inl rfl⟩,⟨_,rfl,.inl rfl⟩,⟨_,rfl,.inl rfl⟩,⟨_,rfl,.inl rfl⟩,⟨_,rfl,.inl rfl⟩,trivial⟩ ⟨rfl,rfl,rfl,trivial⟩ rfl rfl rfl rfl)⟩
 clear hk16
 refine Ok.block (Ok.seq (Ok.region ?_))
 obtain ⟨x17,hx17,hr⟩:=bind_some hr
 refine OkOps.q (triIdx (enc:=(eInt .i64)) (L:=p_n.Kids) (row:=[dI x17]) hx17 rfl rfl rfl rfl (fun _=>rfl) trivial rfl) (OkOps.y (aI x17) (OkOps.y (aI x17) (OkOps.nil (Ok.seq (Ok.region (OkOps.y (.c (.loc 0 0)) (OkOps.y (.c (.loc 0 0)) (OkOps.y (.c (.loc 0 3)) (OkOps.y (.c (.d (.mp true (encM (kInt .i64) Box.cs p_s.boxes)))) (OkOps.y (aI x17) ?_))))))))))
 obtain ⟨x18,hx18,hr⟩:=bind_some hr
 refine OkOps.q (triLookT (agg:=true) (ek:=(kInt .i64)) (ev:=Box.cs) (L:=p_s.boxes) (r:=.agg [cI x18.1.ID,cI x18.1.Rect.X,cI x18.1.Rect.Y,cI x18.1.Rect.W,cI x18.1.Rect.H,cI x18.1.Baseline,.d (.sl (List.map Line.cs x18.1.Lines))]) hx18 rfl rfl rfl (keyInt Tryd.underlying3) rfl rfl (fun h=>by cases h) rfl trivial rfl) ?_
 refine OkOps.q (triMv (v:=.tup [.agg [cI x18.1.ID,cI x18.1.Rect.X,cI x18.1.Rect.Y,cI x18.1.Rect.W,cI x18.1.Rect.H,cI x18.1.Baseline,.d (.sl (List.map Line.cs x18.1.Lines))],aB x18.2]) rfl rfl) (OkOps.y (.agg [cI x18.1.ID,cI x18.1.Rect.X,cI x18.1.Rect.Y,cI x18.1.Rect.W,cI x18.1.Rect.H,cI x18.1.Baseline,.d (.sl (List.map Line.cs x18.1.Lines))]) (OkOps.y (aB x18.2) (OkOps.m 0 (triAlloc (j:=4) (cs:=[cI 0,cI 0,cI 0,cI 0,cI 0,cI 0,.d (.v (.slice none 0 0))]) rfl rfl rfl rfl) (OkOps.w (triStore (cs':=[cI x18.1.ID,cI x18.1.Rect.X,cI x18.1.Rect.Y,cI x18.1.Rect.W,cI x18.1.Rect.H,cI x18.1.Baseline,.d (.sl (List.map Line.cs x18.1.Lines))]) rfl rfl rfl rfl rfl rfl rfl rfl rfl) (OkOps.y (aB x18.2) (OkOps.nil (Ok.seq (Ok.region (OkOps.y (aB x18.2) (OkOps.nil ?_))))))))))
 refine Ok.cond (b:=x18.2) rfl (fun h19=>?_) (fun h19=>?_)
 have hr:=selT h19 hr
 refine Ok.region (OkOps.y (aI s12.1) (OkOps.y (.c (.loc 4 1)) (OkOps.y (.c (.loc 4 2)) (OkOps.y (aI x18.1.Rect.Y) (OkOps.y (.c (.loc 4 1)) (OkOps.y (.c (.loc 4 4)) (OkOps.y (aI x18.1.Rect.H) (OkOps.y (aI (IntKind.i64.wrap (x18.1.Rect.Y + x18.1.Rect.H))) (OkOps.y (aI (mxI s12.1 (IntKind.i64.wrap (x18.1.Rect.Y + x18.1.Rect.H)))) (OkOps.y (aI (mxI s12.1 (IntKind.i64.wrap (x18.1.Rect.Y + x18.1.Rect.H)))) (OkOps.nil ?_)))))))))))
 exact ⟨mxI s12.1 (IntKind.i64.wrap (x18.1.Rect.Y + x18.1.Rect.H)),hr,(Conv.mk (tau []) ⟨⟨_,rfl,.inl rfl⟩,⟨_,rfl,.inl rfl⟩,⟨_,rfl,.inl rfl⟩,⟨_,rfl,.inl rfl⟩,⟨_,rfl,.inl rfl⟩,⟨_,rfl,.inl rfl⟩,⟨_,rfl,.inl rfl⟩,trivial⟩ ⟨rfl,rfl,rfl,trivial⟩ rfl rfl rfl rfl)⟩
 have hr:=selF h19 hr
 refine Ok.skip ?_
 exact ⟨s12.1,hr,(Conv.mk (tau []) ⟨⟨_,rfl,.inl rfl⟩,⟨_,rfl,.inl rfl⟩,⟨_,rfl,.inl rfl⟩,⟨_,rfl,.inl rfl⟩,⟨_,rfl,.inl rfl⟩,⟨_,rfl,.inl rfl⟩,⟨_,rfl,.inl rfl⟩,trivial⟩ ⟨rfl,rfl,rfl,trivial⟩ rfl rfl rfl rfl)⟩
 have hr:=selF h14 hr
 refine Ok.exit ?_
 exact ⟨s12.1,hr,(Conv.mk (tau []) ⟨⟨_,rfl,.inl rfl⟩,⟨_,rfl,.inl rfl⟩,⟨_,rfl,.inl rfl⟩,⟨_,rfl,.inl rfl⟩,trivial⟩ ⟨rfl,rfl,rfl,trivial⟩ rfl rfl rfl rfl)⟩
 have hr:=selF h11 hr
 refine Ok.skip ?_
 exact ⟨s3.1,hr,(Conv.mk (tau []) ⟨⟨_,rfl,.inl rfl⟩,⟨_,rfl,.inl rfl⟩,⟨_,rfl,.inl rfl⟩,⟨_,rfl,.inl rfl⟩,trivial⟩ ⟨rfl,rfl,rfl,trivial⟩ rfl rfl rfl rfl)⟩
 clear hk4
 refine Ok.seq (Ok.region (OkOps.y (.c (.loc 1 6)) (OkOps.y (.c (.d (.sl (List.map (eInt .i64) p_n.Kids)))) (OkOps.q (triLen (enc:=(eInt .i64)) p_n.Kids rfl rfl trivial rfl) (OkOps.y (aI 0) (OkOps.nil (Ok.block (Ok.loopK (fun (s20 : Int)=>⟨[(0,.s (.c (.loc 0 0))),(2,.s (aI i)),(4,.s (.c (.loc 1 0))),(7,.s (.c (.loc 2 0))),(8,.s (aI (IntKind.i64.wrap (x2.1.Rect.Y + x2.1.Rect.H)))),(9,.s (aB false)),(36,.s (.c (.d (.sl (List.map (eInt .i64) p_n.Kids))))),(37,.s (aI (p_n.Kids.length : Int))),(38,.s (aI s20))],[(0,.blk [cI p_s.root,.d (.mp true (encM (kInt .i64) Node.cs p_s.nodes)),.d (.mp true (encM (kInt .i64) (eArr 22 (dInt .i64)) p_s.styles)),.d (.mp true (encM (kInt .i64) Box.cs p_s.boxes)),.d (.mp false (encM (kInt .i64) (eInt .i64) p_s.offsets))] 91),(1,.blk [cI p_n.ID,cI p_n.Parent,cI p_n.Kind,cS p_n.Key,.d (.sl (List.map Attr.cs p_n.Attrs)),.d (.sl (List.map Action.cs p_n.Actions)),.d (.sl (List.map (eInt .i64) p_n.Kids))] 96),(2,.blk [cI x2.1.Rect.X,cI x2.1.Rect.Y,cI x2.1.Rect.W,cI x2.1.Rect.H] 32)],0⟩) hr (Conv.mk (tau []) ⟨⟨_,rfl,.inl rfl⟩,⟨_,rfl,.inl rfl⟩,⟨_,rfl,.inl rfl⟩,⟨_,rfl,.inl rfl⟩,⟨_,rfl,.inl rfl⟩,⟨_,rfl,.inl rfl⟩,⟨_,rfl,.inl rfl⟩,⟨_,rfl,.inl rfl⟩,⟨_,rfl,.inl rfl⟩,trivial⟩ ⟨rfl,rfl,rfl,trivial⟩ rfl rfl rfl rfl) ?_))))))))
 clear hr
 intro again21 s20 hr
 unfold ht_scene_pin_L2 at hr
 refine Ok.seq (Ok.region (OkOps.y (aB (decide (s20 < (p_n.Kids.length : Int)))) (OkOps.nil (Ok.seq ?_))))
 refine Ok.cond (b:=decide (s20 < (p_n.Kids.length : Int))) rfl (fun h22=>?_) (fun h22=>?_)
 have hr:=selT h22 hr
 refine Ok.skip ?_
 obtain ⟨k24,hk24,hr⟩:=jn_some hr
 refine Ok.join (fun (s23 : Unit)=>⟨[(0,.s (.c (.loc 0 0))),(2,.s (aI i)),(4,.s (.c (.loc 1 0))),(7,.s (.c (.loc 2 0))),(8,.s (aI (IntKind.i64.wrap (x2.1.Rect.Y + x2.1.Rect.H)))),(9,.s (aB false)),(36,.s (.c (.d (.sl (List.map (eInt .i64) p_n.Kids))))),(37,.s (aI (p_n.Kids.length : Int))),(38,.s (aI s20))],[(0,.blk [cI p_s.root,.d (.mp true (encM (kInt .i64) Node.cs p_s.nodes)),.d (.mp true (encM (kInt .i64) (eArr 22 (dInt .i64)) p_s.styles)),.d (.mp true (encM (kInt .i64) Box.cs p_s.boxes)),.d (.mp false (encM (kInt .i64) (eInt .i64) p_s.offsets))] 91),(1,.blk [cI p_n.ID,cI p_n.Parent,cI p_n.Kind,cS p_n.Key,.d (.sl (List.map Attr.cs p_n.Attrs)),.d (.sl (List.map Action.cs p_n.Actions)),.d (.sl (List.map (eInt .i64) p_n.Kids))] 96),(2,.blk [cI x2.1.Rect.X,cI x2.1.Rect.Y,cI x2.1.Rect.W,cI x2.1.Rect.H] 32)],0⟩) k24 r (fun s23 hr=>?_) ?_
 rw [hk24] at hr
 refine Ok.region (OkOps.y (aI (IntKind.i64.wrap (s20 + 1))) (OkOps.y (aI (IntKind.i64.wrap (s20 + 1))) (OkOps.nil ?_)))
 exact ⟨IntKind.i64.wrap (s20 + 1),hr,(Conv.mk (tau []) ⟨⟨_,rfl,.inl rfl⟩,⟨_,rfl,.inl rfl⟩,⟨_,rfl,.inl rfl⟩,⟨_,rfl,.inl rfl⟩,⟨_,rfl,.inl rfl⟩,⟨_,rfl,.inl rfl⟩,⟨_,rfl,.inl rfl⟩,⟨_,rfl,.inl rfl⟩,⟨_,rfl,.inl rfl⟩,trivial⟩ ⟨rfl,rfl,rfl,trivial⟩ rfl rfl rfl rfl)⟩
 clear hk24
 refine Ok.block (Ok.seq (Ok.region (OkOps.y (aI s20) ?_)))
 obtain ⟨x25,hx25,hr⟩:=bind_some hr
 refine OkOps.q (triIdx (enc:=(eInt .i64)) (L:=p_n.Kids) (row:=[dI x25]) hx25 rfl rfl rfl rfl (fun _=>rfl) trivial rfl) (OkOps.y (aI x25) (OkOps.y (aI s20) (OkOps.y (aI x25) (OkOps.nil (Ok.seq (Ok.region (OkOps.y (.c (.loc 0 0)) (OkOps.y (.c (.loc 0 0)) (OkOps.y (.c (.loc 0 3)) (OkOps.y (.c (.d (.mp true (encM (kInt .i64) Box.cs p_s.boxes)))) (OkOps.y (aI x25) ?_)))))))))))
 obtain ⟨x26,hx26,hr⟩:=bind_some hr
 refine OkOps.q (triLookT (agg:=true) (ek:=(kInt .i64)) (ev:=Box.cs) (L:=p_s.boxes) (r:=.agg [cI x26.1.ID,cI x26.1.Rect.X,cI x26.1.Rect.Y,cI x26.1.Rect.W,cI x26.1.Rect.H,cI x26.1.Baseline,.d (.sl (List.map Line.cs x26.1.Lines))]) hx26 rfl rfl rfl (keyInt Tryd.underlying3) rfl rfl (fun h=>by cases h) rfl trivial rfl) ?_
 refine OkOps.q (triMv (v:=.tup [.agg [cI x26.1.ID,cI x26.1.Rect.X,cI x26.1.Rect.Y,cI x26.1.Rect.W,cI x26.1.Rect.H,cI x26.1.Baseline,.d (.sl (List.map Line.cs x26.1.Lines))],aB x26.2]) rfl rfl) (OkOps.y (.agg [cI x26.1.ID,cI x26.1.Rect.X,cI x26.1.Rect.Y,cI x26.1.Rect.W,cI x26.1.Rect.H,cI x26.1.Baseline,.d (.sl (List.map Line.cs x26.1.Lines))]) (OkOps.y (aB x26.2) (OkOps.m 0 (triAlloc (j:=5) (cs:=[cI 0,cI 0,cI 0,cI 0,cI 0,cI 0,.d (.v (.slice none 0 0))]) rfl rfl rfl rfl) (OkOps.w (triStore (cs':=[cI x26.1.ID,cI x26.1.Rect.X,cI x26.1.Rect.Y,cI x26.1.Rect.W,cI x26.1.Rect.H,cI x26.1.Baseline,.d (.sl (List.map Line.cs x26.1.Lines))]) rfl rfl rfl rfl rfl rfl rfl rfl rfl) (OkOps.y (aB x26.2) (OkOps.nil (Ok.seq (Ok.seq (Ok.region (OkOps.y (aB x26.2) (OkOps.y (aB (!x26.2)) (OkOps.nil ?_))))))))))))
 refine Ok.cond (b:=!x26.2) rfl (fun h27=>?_) (fun h27=>?_)
 have hr:=selT h27 hr
 refine Ok.exit ?_
 exact ⟨(),hr,(Conv.mk (tau []) ⟨⟨_,rfl,.inl rfl⟩,⟨_,rfl,.inl rfl⟩,⟨_,rfl,.inl rfl⟩,⟨_,rfl,.inl rfl⟩,⟨_,rfl,.inl rfl⟩,⟨_,rfl,.inl rfl⟩,⟨_,rfl,.inl rfl⟩,⟨_,rfl,.inl rfl⟩,⟨_,rfl,.inl rfl⟩,trivial⟩ ⟨rfl,rfl,rfl,trivial⟩ rfl rfl rfl rfl)⟩
 have hr:=selF h27 hr
 refine Ok.skip (Ok.seq (Ok.region (OkOps.y (aI s20) (OkOps.y (aI i) (OkOps.y (aB (decide (s20 > i))) (OkOps.y (aB (decide (s20 > i))) (OkOps.q (triQG (x:=.c (.loc 0 0)) rfl rfl trivial rfl) (OkOps.q (triQG (x:=.c (.loc 0 0)) rfl rfl ⟨fun h=>h,trivial⟩ rfl) (OkOps.q (triQG (x:=.c (.loc 0 1)) rfl rfl ⟨fun h=>h,trivial⟩ rfl) (OkOps.q (triQG (x:=.c (.d (.mp true (encM (kInt .i64) Node.cs p_s.nodes)))) rfl rfl ⟨fun h=>h,trivial⟩ rfl) (OkOps.q (triQG (x:=aI x25) rfl rfl trivial rfl) ?_)))))))))))
 obtain ⟨x28,hx28,hr⟩:=bind_some hr
 refine OkOps.q (triLookG (agg:=true) (ek:=(kInt .i64)) (ev:=Node.cs) (L:=p_s.nodes) (r:=.agg [cI x28.1.ID,cI x28.1.Parent,cI x28.1.Kind,cS x28.1.Key,.d (.sl (List.map Attr.cs x28.1.Attrs)),.d (.sl (List.map Action.cs x28.1.Actions)),.d (.sl (List.map (eInt .i64) x28.1.Kids))]) (gO_t hx28) rfl rfl rfl rfl (keyInt Tryd.underlying3) rfl rfl (fun h=>by cases h) rfl ⟨fun h=>h,⟨fun h=>h,trivial⟩⟩ rfl) ?_
 refine OkOps.q (triQG (x:=.c (.d (.sl (List.map Attr.cs x28.1.Attrs)))) rfl rfl ⟨fun h=>h,trivial⟩ rfl) ?_
 obtain ⟨x29,hx29,hr⟩:=bind_some hr
 refine OkOps.q (triCallG (x:=aB x29) (fun hg=>vw_Flag_c _ _ (gO_t hx29 hg)) rfl rfl ⟨.inl rfl,.inl rfl,trivial⟩ ⟨fun h=>h,trivial⟩ entry62 rfl rfl rfl) (OkOps.q (triAnd rfl rfl (fun h=>h) rfl) (OkOps.nil ?_))
 refine Ok.cond (b:=(decide (s20 > i)) && x29) rfl (fun h30=>?_) (fun h30=>?_)
 have hr:=selT h30 hr
 refine Ok.seq (Ok.region (OkOps.y (.c (.loc 5 1)) (OkOps.y (.c (.loc 5 2)) (OkOps.y (aI x26.1.Rect.Y) (OkOps.y (aI x26.1.Rect.Y) (OkOps.y (aB true) (OkOps.nil (Ok.exit ?_))))))))
 exact ⟨(x26.1.Rect.Y,true),hr,(Conv.mk (tau []) ⟨⟨_,rfl,.inl rfl⟩,⟨_,rfl,.inl rfl⟩,⟨_,rfl,.inl rfl⟩,⟨_,rfl,.inl rfl⟩,⟨_,rfl,.inl rfl⟩,trivial⟩ ⟨rfl,rfl,rfl,trivial⟩ rfl rfl rfl rfl)⟩
 have hr:=selF h30 hr
 refine Ok.skip ?_
 exact ⟨(),hr,(Conv.mk (tau []) ⟨⟨_,rfl,.inl rfl⟩,⟨_,rfl,.inl rfl⟩,⟨_,rfl,.inl rfl⟩,⟨_,rfl,.inl rfl⟩,⟨_,rfl,.inl rfl⟩,⟨_,rfl,.inl rfl⟩,⟨_,rfl,.inl rfl⟩,⟨_,rfl,.inl rfl⟩,⟨_,rfl,.inl rfl⟩,trivial⟩ ⟨rfl,rfl,rfl,trivial⟩ rfl rfl rfl rfl)⟩
 have hr:=selF h22 hr
 refine Ok.exit ?_
 exact ⟨(IntKind.i64.wrap (x2.1.Rect.Y + x2.1.Rect.H),false),hr,(Conv.mk (tau []) ⟨⟨_,rfl,.inl rfl⟩,⟨_,rfl,.inl rfl⟩,⟨_,rfl,.inl rfl⟩,⟨_,rfl,.inl rfl⟩,⟨_,rfl,.inl rfl⟩,trivial⟩ ⟨rfl,rfl,rfl,trivial⟩ rfl rfl rfl rfl)⟩
theorem ht_meets_c (p_r : Rect) (frame : Rect) {r : Bool} (hr : ht_meets p_r frame = some r) : Con Tryd.prog 86 [.agg [cI p_r.X,cI p_r.Y,cI p_r.W,cI p_r.H],.agg [cI frame.X,cI frame.Y,cI frame.W,cI frame.H]] [] (.s (aB r)) []:=by
 unfold ht_meets at hr
 refine Con.of_ok 38 0 [.tmp 4] [(0,.s (.agg [cI p_r.X,cI p_r.Y,cI p_r.W,cI p_r.H])),(1,.s (.agg [cI frame.X,cI frame.Y,cI frame.W,cI frame.H]))] Tryd.func86 rfl rfl rfl rfl rfl rfl rfl rfl fun w g M ρ _=>(Ok.seq (Ok.region (OkOps.m 0 (triBox (j:=0) (cs:=[cI p_r.X,cI p_r.Y,cI p_r.W,cI p_r.H]) rfl rfl rfl rfl rfl) (OkOps.m 0 (triBox (j:=1) (cs:=[cI frame.X,cI frame.Y,cI frame.W,cI frame.H]) rfl rfl rfl rfl rfl) (OkOps.y (aB false) (OkOps.nil (Ok.seq (Ok.region (OkOps.y (.c (.loc 0 2)) (OkOps.y (aI p_r.W) (OkOps.y (aB (decide (p_r.W > 0))) (OkOps.y (aB (decide (p_r.W > 0))) (OkOps.q (triQG (x:=.c (.loc 0 3)) rfl rfl trivial rfl) (OkOps.q (triQG (x:=aI p_r.H) rfl rfl ⟨fun h=>h,trivial⟩ rfl) (OkOps.q (triQG (x:=aB (decide (p_r.H > 0))) rfl rfl ⟨fun h=>h,trivial⟩ rfl) ?_)))))))))))))))
 refine OkOps.q (triAnd rfl rfl (fun h=>h) rfl) (OkOps.y (aB ((decide (p_r.W > 0)) && (decide (p_r.H > 0)))) (OkOps.q (triQG (x:=.c (.loc 1 3)) rfl rfl trivial rfl) (OkOps.q (triQG (x:=aI frame.H) rfl rfl ⟨fun h=>h,trivial⟩ rfl) (OkOps.q (triQG (x:=aB (decide (frame.H > 0))) rfl rfl ⟨fun h=>h,trivial⟩ rfl) (OkOps.q (triAnd rfl rfl (fun h=>h) rfl) (OkOps.y (aB (((decide (p_r.W > 0)) && (decide (p_r.H > 0))) && (decide (frame.H > 0)))) (OkOps.q (triQG (x:=.c (.loc 0 1)) rfl rfl trivial rfl) (OkOps.q (triQG (x:=aI p_r.Y) rfl rfl ⟨fun h=>h,trivial⟩ rfl) (OkOps.q (triQG (x:=.c (.loc 1 1)) rfl rfl trivial rfl) (OkOps.q (triQG (x:=aI frame.Y) rfl rfl ⟨fun h=>h,trivial⟩ rfl) (OkOps.q (triQG (x:=.c (.loc 1 3)) rfl rfl trivial rfl) (OkOps.q (triQG (x:=aI frame.H) rfl rfl ⟨fun h=>h,trivial⟩ rfl) (OkOps.q (triQG (x:=aI (IntKind.i64.wrap (frame.Y + frame.H))) rfl rfl ⟨fun h=>h,⟨fun h=>h,trivial⟩⟩ rfl) (OkOps.q (triQG (x:=aB (decide (p_r.Y < (IntKind.i64.wrap (frame.Y + frame.H))))) rfl rfl ⟨fun h=>h,⟨fun h=>h,trivial⟩⟩ rfl) (OkOps.q (triAnd rfl rfl (fun h=>h) rfl) ?_)))))))))))))))
 refine OkOps.y (aB ((((decide (p_r.W > 0)) && (decide (p_r.H > 0))) && (decide (frame.H > 0))) && (decide (p_r.Y < (IntKind.i64.wrap (frame.Y + frame.H)))))) (OkOps.q (triQG (x:=.c (.loc 1 1)) rfl rfl trivial rfl) (OkOps.q (triQG (x:=aI frame.Y) rfl rfl ⟨fun h=>h,trivial⟩ rfl) (OkOps.q (triQG (x:=.c (.loc 0 1)) rfl rfl trivial rfl) (OkOps.q (triQG (x:=aI p_r.Y) rfl rfl ⟨fun h=>h,trivial⟩ rfl) (OkOps.q (triQG (x:=.c (.loc 0 3)) rfl rfl trivial rfl) (OkOps.q (triQG (x:=aI p_r.H) rfl rfl ⟨fun h=>h,trivial⟩ rfl) (OkOps.q (triQG (x:=aI (IntKind.i64.wrap (p_r.Y + p_r.H))) rfl rfl ⟨fun h=>h,⟨fun h=>h,trivial⟩⟩ rfl) (OkOps.q (triQG (x:=aB (decide (frame.Y < (IntKind.i64.wrap (p_r.Y + p_r.H))))) rfl rfl ⟨fun h=>h,⟨fun h=>h,trivial⟩⟩ rfl) (OkOps.q (triAnd rfl rfl (fun h=>h) rfl) (OkOps.y (aB (((((decide (p_r.W > 0)) && (decide (p_r.H > 0))) && (decide (frame.H > 0))) && (decide (p_r.Y < (IntKind.i64.wrap (frame.Y + frame.H))))) && (decide (frame.Y < (IntKind.i64.wrap (p_r.Y + p_r.H)))))) (OkOps.nil (Ok.ret ?_))))))))))))
 obtain rfl:=Option.some.inj hr
 exact ⟨_,rfl,.inl rfl,trivial⟩
theorem ht_scene_children_c (p_s : hit_scene) (id : Int) (o : hit_origin) {r : (List hit_child)} (hr : ht_scene_children p_s id o = some r) : Con Tryd.prog 61 [.c (.loc 0 0),aI id,.agg [cI o.x,cI o.y]] [(0,.blk [cI p_s.root,.d (.mp true (encM (kInt .i64) Node.cs p_s.nodes)),.d (.mp true (encM (kInt .i64) (eArr 22 (dInt .i64)) p_s.styles)),.d (.mp true (encM (kInt .i64) Box.cs p_s.boxes)),.d (.mp false (encM (kInt .i64) (eInt .i64) p_s.offsets))] 91)] (.s (.c (.d (.sl (List.map hit_child.cs r))))) [(0,.blk [cI p_s.root,.d (.mp true (encM (kInt .i64) Node.cs p_s.nodes)),.d (.mp true (encM (kInt .i64) (eArr 22 (dInt .i64)) p_s.styles)),.d (.mp true (encM (kInt .i64) Box.cs p_s.boxes)),.d (.mp false (encM (kInt .i64) (eInt .i64) p_s.offsets))] 91)]:=by
 unfold ht_scene_children at hr
 refine Con.of_ok 129 0 [.tmp 6] [(0,.s (.c (.loc 0 0))),(1,.s (aI id)),(2,.s (.agg [cI o.x,cI o.y]))] Tryd.func61 rfl rfl rfl rfl rfl rfl rfl rfl fun w g M ρ _=>(Ok.seq (Ok.region (OkOps.m 0 (triBox (j:=1) (cs:=[cI o.x,cI o.y]) rfl rfl rfl rfl rfl) (OkOps.y (.c (.d (.v (.slice none 0 0)))) (OkOps.nil (Ok.seq (Ok.region (OkOps.y (.c (.d (.v (.slice none 0 0)))) (OkOps.y (.c (.d (.v (.slice none 0 0)))) (OkOps.nil (Ok.seq (Ok.region (OkOps.y (.c (.loc 0 0)) (OkOps.y (.c (.loc 0 0)) (OkOps.y (.c (.loc 0 1)) ?_)))))))))))))))
 refine OkOps.y (.c (.d (.mp true (encM (kInt .i64) Node.cs p_s.nodes)))) (OkOps.y (aI id) ?_)
 obtain ⟨x1,hx1,hr⟩:=bind_some hr
 refine OkOps.q (triLook (agg:=true) (ek:=(kInt .i64)) (ev:=Node.cs) (L:=p_s.nodes) (r:=.agg [cI x1.1.ID,cI x1.1.Parent,cI x1.1.Kind,cS x1.1.Key,.d (.sl (List.map Attr.cs x1.1.Attrs)),.d (.sl (List.map Action.cs x1.1.Actions)),.d (.sl (List.map (eInt .i64) x1.1.Kids))]) hx1 rfl rfl rfl (keyInt Tryd.underlying3) rfl rfl (fun h=>by cases h) rfl trivial rfl) ?_
 refine OkOps.m 0 (triAlloc (j:=2) (cs:=[cI 0,cI 0,cI 0,cS ByteArray.empty,.d (.v (.slice none 0 0)),.d (.v (.slice none 0 0)),.d (.v (.slice none 0 0))]) rfl rfl rfl rfl) (OkOps.w (triStore (cs':=[cI x1.1.ID,cI x1.1.Parent,cI x1.1.Kind,cS x1.1.Key,.d (.sl (List.map Attr.cs x1.1.Attrs)),.d (.sl (List.map Action.cs x1.1.Actions)),.d (.sl (List.map (eInt .i64) x1.1.Kids))]) rfl rfl rfl rfl rfl rfl rfl rfl rfl) (OkOps.nil (Ok.seq (Ok.region (OkOps.y (.c (.loc 2 2)) (OkOps.y (aI x1.1.Kind) (OkOps.y (aB (x1.1.Kind == 8)) (OkOps.y (aB (x1.1.Kind == 8)) (OkOps.nil (Ok.seq (Ok.region (OkOps.y (.c (.loc 0 0)) (OkOps.y (aI id) (OkOps.y (.agg [cI o.x,cI o.y]) ?_))))))))))))))
 obtain ⟨x2,hx2,hr⟩:=bind_some hr
 refine OkOps.q (TriL.keep (triCall (tau [(0,0)]) (.s (.agg [cI x2.X,cI x2.Y,cI x2.W,cI x2.H])) [(0,.blk [cI p_s.root,.d (.mp true (encM (kInt .i64) Node.cs p_s.nodes)),.d (.mp true (encM (kInt .i64) (eArr 22 (dInt .i64)) p_s.styles)),.d (.mp true (encM (kInt .i64) Box.cs p_s.boxes)),.d (.mp false (encM (kInt .i64) (eInt .i64) p_s.offsets))] 91)] (ht_scene_rect_c _ _ _ hx2) rfl ⟨.inl rfl,.inl rfl,.inl rfl,trivial⟩ trivial entry58 ⟨rfl,trivial⟩ rfl rfl rfl rfl trivial rfl rfl rfl) ⟨rfl,trivial⟩) (OkOps.m 0 (triAlloc (j:=3) (cs:=[cI 0,cI 0,cI 0,cI 0]) rfl rfl rfl rfl) (OkOps.w (triStore (cs':=[cI x2.X,cI x2.Y,cI x2.W,cI x2.H]) rfl rfl rfl rfl rfl rfl rfl rfl rfl) (OkOps.nil ?_)))
 obtain ⟨k4,hk4,hr⟩:=jn_some hr
 refine Ok.join (fun (s3 : (List hit_child) × (List hit_child))=>⟨[(7,.s (.c (.tl 1021 (List.map hit_child.cs s3.1)))),(8,.s (.c (.tl 1022 (List.map hit_child.cs s3.2))))],[(0,.blk [cI p_s.root,.d (.mp true (encM (kInt .i64) Node.cs p_s.nodes)),.d (.mp true (encM (kInt .i64) (eArr 22 (dInt .i64)) p_s.styles)),.d (.mp true (encM (kInt .i64) Box.cs p_s.boxes)),.d (.mp false (encM (kInt .i64) (eInt .i64) p_s.offsets))] 91),(1021,.tail 3),(1022,.tail 3)],0⟩) k4 r (fun s3 hr=>?_) ?_
 rw [hk4] at hr
 refine Ok.seq (Ok.region (OkOps.y (.c (.tl 1021 (List.map hit_child.cs s3.1))) (OkOps.y (.c (.tl 1022 (List.map hit_child.cs s3.2))) ?_)))
 obtain ⟨x5,hx5,hr⟩:=bind_some hr
 refine OkOps.m2 0 (triApp (enc:=hit_child.cs) (L:=s3.1) (X:=s3.2) (j:=1021) (j':=4) hx5 rfl rfl rfl rfl rfl rfl (fun _=>rfl) (fun _=>rfl) (by decide) trivial rfl rfl) (OkOps.y (.c (.tl 4 (List.map hit_child.cs x5))) (OkOps.nil (Ok.ret ?_)))
 obtain rfl:=Option.some.inj hr
 exact ⟨_,rfl,.inr rfl,⟨rfl,trivial⟩⟩
 clear hk4
 refine Ok.seq (Ok.region (OkOps.y (.c (.loc 2 6)) (OkOps.y (.c (.d (.sl (List.map (eInt .i64) x1.1.Kids)))) (OkOps.q (triLen (enc:=(eInt .i64)) x1.1.Kids rfl rfl trivial rfl) (OkOps.y (aI 0) (OkOps.nil (Ok.block (Ok.loopK (fun (s6 : (List hit_child) × (List hit_child) × Int)=>⟨[(0,.s (.c (.loc 0 0))),(1,.s (aI id)),(5,.s (.c (.loc 1 0))),(7,.s (.c (.tl 1036 (List.map hit_child.cs s6.1)))),(8,.s (.c (.tl 1037 (List.map hit_child.cs s6.2.1)))),(9,.s (.c (.loc 2 0))),(10,.s (aB (x1.1.Kind == 8))),(11,.s (.c (.loc 3 0))),(31,.s (.c (.d (.sl (List.map (eInt .i64) x1.1.Kids))))),(32,.s (aI (x1.1.Kids.length : Int))),(33,.s (aI s6.2.2))],[(0,.blk [cI p_s.root,.d (.mp true (encM (kInt .i64) Node.cs p_s.nodes)),.d (.mp true (encM (kInt .i64) (eArr 22 (dInt .i64)) p_s.styles)),.d (.mp true (encM (kInt .i64) Box.cs p_s.boxes)),.d (.mp false (encM (kInt .i64) (eInt .i64) p_s.offsets))] 91),(1,.blk [cI o.x,cI o.y] 94),(2,.blk [cI x1.1.ID,cI x1.1.Parent,cI x1.1.Kind,cS x1.1.Key,.d (.sl (List.map Attr.cs x1.1.Attrs)),.d (.sl (List.map Action.cs x1.1.Actions)),.d (.sl (List.map (eInt .i64) x1.1.Kids))] 96),(3,.blk [cI x2.X,cI x2.Y,cI x2.W,cI x2.H] 32),(1036,.tail 3),(1037,.tail 3)],0⟩) hr (Conv.trans (Conv.nil 7 1042 3 0 rfl rfl) (Conv.trans (Conv.nil 8 1043 3 0 rfl rfl) (Conv.mk (tau [(1036,1042),(1037,1043)]) ⟨⟨_,rfl,.inl rfl⟩,⟨_,rfl,.inl rfl⟩,⟨_,rfl,.inl rfl⟩,⟨_,rfl,.inl rfl⟩,⟨_,rfl,.inl rfl⟩,⟨_,rfl,.inl rfl⟩,⟨_,rfl,.inl rfl⟩,⟨_,rfl,.inl rfl⟩,⟨_,rfl,.inl rfl⟩,⟨_,rfl,.inl rfl⟩,⟨_,rfl,.inl rfl⟩,trivial⟩ ⟨rfl,rfl,rfl,rfl,rfl,rfl,trivial⟩ rfl rfl rfl rfl))) ?_))))))))
 clear hr
 intro again7 s6 hr
 unfold ht_scene_children_L1 at hr
 refine Ok.seq (Ok.region (OkOps.y (aB (decide (s6.2.2 < (x1.1.Kids.length : Int)))) (OkOps.nil (Ok.seq ?_))))
 refine Ok.cond (b:=decide (s6.2.2 < (x1.1.Kids.length : Int))) rfl (fun h8=>?_) (fun h8=>?_)
 have hr:=selT h8 hr
 refine Ok.skip ?_
 obtain ⟨k10,hk10,hr⟩:=jn_some hr
 refine Ok.join (fun (s9 : (List hit_child) × (List hit_child))=>⟨[(0,.s (.c (.loc 0 0))),(1,.s (aI id)),(5,.s (.c (.loc 1 0))),(7,.s (.c (.tl 1044 (List.map hit_child.cs s9.1)))),(8,.s (.c (.tl 1045 (List.map hit_child.cs s9.2)))),(9,.s (.c (.loc 2 0))),(10,.s (aB (x1.1.Kind == 8))),(11,.s (.c (.loc 3 0))),(31,.s (.c (.d (.sl (List.map (eInt .i64) x1.1.Kids))))),(32,.s (aI (x1.1.Kids.length : Int))),(33,.s (aI s6.2.2))],[(0,.blk [cI p_s.root,.d (.mp true (encM (kInt .i64) Node.cs p_s.nodes)),.d (.mp true (encM (kInt .i64) (eArr 22 (dInt .i64)) p_s.styles)),.d (.mp true (encM (kInt .i64) Box.cs p_s.boxes)),.d (.mp false (encM (kInt .i64) (eInt .i64) p_s.offsets))] 91),(1,.blk [cI o.x,cI o.y] 94),(2,.blk [cI x1.1.ID,cI x1.1.Parent,cI x1.1.Kind,cS x1.1.Key,.d (.sl (List.map Attr.cs x1.1.Attrs)),.d (.sl (List.map Action.cs x1.1.Actions)),.d (.sl (List.map (eInt .i64) x1.1.Kids))] 96),(3,.blk [cI x2.X,cI x2.Y,cI x2.W,cI x2.H] 32),(1044,.tail 3),(1045,.tail 3)],0⟩) k10 r (fun s9 hr=>?_) ?_
 rw [hk10] at hr
 refine Ok.region (OkOps.y (aI (IntKind.i64.wrap (s6.2.2 + 1))) (OkOps.y (aI (IntKind.i64.wrap (s6.2.2 + 1))) (OkOps.nil ?_)))
 exact ⟨(s9.1,s9.2,IntKind.i64.wrap (s6.2.2 + 1)),hr,(Conv.mk (tau [(1036,1044),(1037,1045)]) ⟨⟨_,rfl,.inl rfl⟩,⟨_,rfl,.inl rfl⟩,⟨_,rfl,.inl rfl⟩,⟨_,rfl,.inl rfl⟩,⟨_,rfl,.inl rfl⟩,⟨_,rfl,.inl rfl⟩,⟨_,rfl,.inl rfl⟩,⟨_,rfl,.inl rfl⟩,⟨_,rfl,.inl rfl⟩,⟨_,rfl,.inl rfl⟩,⟨_,rfl,.inl rfl⟩,trivial⟩ ⟨rfl,rfl,rfl,rfl,rfl,rfl,trivial⟩ rfl rfl rfl rfl)⟩
 clear hk10
 refine Ok.block (Ok.seq (Ok.region (OkOps.y (aI s6.2.2) ?_)))
 obtain ⟨x11,hx11,hr⟩:=bind_some hr
 refine OkOps.q (triIdx (enc:=(eInt .i64)) (L:=x1.1.Kids) (row:=[dI x11]) hx11 rfl rfl rfl rfl (fun _=>rfl) trivial rfl) (OkOps.y (aI x11) (OkOps.y (aI s6.2.2) (OkOps.y (aI x11) (OkOps.nil (Ok.seq (Ok.region (OkOps.y (.c (.loc 0 0)) (OkOps.y (.c (.loc 0 0)) (OkOps.y (.c (.loc 0 3)) (OkOps.y (.c (.d (.mp true (encM (kInt .i64) Box.cs p_s.boxes)))) (OkOps.y (aI x11) ?_)))))))))))
 obtain ⟨x12,hx12,hr⟩:=bind_some hr
 refine OkOps.q (triLookT (agg:=true) (ek:=(kInt .i64)) (ev:=Box.cs) (L:=p_s.boxes) (r:=.agg [cI x12.1.ID,cI x12.1.Rect.X,cI x12.1.Rect.Y,cI x12.1.Rect.W,cI x12.1.Rect.H,cI x12.1.Baseline,.d (.sl (List.map Line.cs x12.1.Lines))]) hx12 rfl rfl rfl (keyInt Tryd.underlying3) rfl rfl (fun h=>by cases h) rfl trivial rfl) ?_
 refine OkOps.q (triMv (v:=.tup [.agg [cI x12.1.ID,cI x12.1.Rect.X,cI x12.1.Rect.Y,cI x12.1.Rect.W,cI x12.1.Rect.H,cI x12.1.Baseline,.d (.sl (List.map Line.cs x12.1.Lines))],aB x12.2]) rfl rfl) (OkOps.y (.agg [cI x12.1.ID,cI x12.1.Rect.X,cI x12.1.Rect.Y,cI x12.1.Rect.W,cI x12.1.Rect.H,cI x12.1.Baseline,.d (.sl (List.map Line.cs x12.1.Lines))]) (OkOps.y (aB x12.2) (OkOps.m 0 (triAlloc (j:=5) (cs:=[cI 0,cI 0,cI 0,cI 0,cI 0,cI 0,.d (.v (.slice none 0 0))]) rfl rfl rfl rfl) (OkOps.w (triStore (cs':=[cI x12.1.ID,cI x12.1.Rect.X,cI x12.1.Rect.Y,cI x12.1.Rect.W,cI x12.1.Rect.H,cI x12.1.Baseline,.d (.sl (List.map Line.cs x12.1.Lines))]) rfl rfl rfl rfl rfl rfl rfl rfl rfl) (OkOps.y (aB x12.2) (OkOps.nil (Ok.seq (Ok.seq (Ok.region (OkOps.y (aB x12.2) (OkOps.y (aB (!x12.2)) (OkOps.nil ?_))))))))))))
 refine Ok.cond (b:=!x12.2) rfl (fun h13=>?_) (fun h13=>?_)
 have hr:=selT h13 hr
 refine Ok.exit ?_
 exact ⟨(s6.1,s6.2.1),hr,(Conv.mk (tau [(1044,1036),(1045,1037)]) ⟨⟨_,rfl,.inl rfl⟩,⟨_,rfl,.inl rfl⟩,⟨_,rfl,.inl rfl⟩,⟨_,rfl,.inl rfl⟩,⟨_,rfl,.inl rfl⟩,⟨_,rfl,.inl rfl⟩,⟨_,rfl,.inl rfl⟩,⟨_,rfl,.inl rfl⟩,⟨_,rfl,.inl rfl⟩,⟨_,rfl,.inl rfl⟩,⟨_,rfl,.inl rfl⟩,trivial⟩ ⟨rfl,rfl,rfl,rfl,rfl,rfl,trivial⟩ rfl rfl rfl rfl)⟩
 have hr:=selF h13 hr
 refine Ok.skip (Ok.seq (Ok.region (OkOps.y (aI x11) (OkOps.y (.c (.loc 1 0)) (OkOps.y (aI o.x) (OkOps.y (.c (.loc 5 1)) (OkOps.y (.c (.loc 5 1)) (OkOps.y (aI x12.1.Rect.X) (OkOps.y (aI (IntKind.i64.wrap (o.x + x12.1.Rect.X))) (OkOps.y (.c (.loc 1 1)) (OkOps.y (aI o.y) (OkOps.y (.c (.loc 5 1)) (OkOps.y (.c (.loc 5 2)) (OkOps.y (aI x12.1.Rect.Y) (OkOps.y (aI (IntKind.i64.wrap (o.y + x12.1.Rect.Y))) ?_)))))))))))))))
 refine OkOps.y (.agg [cI x11,cI (IntKind.i64.wrap (o.x + x12.1.Rect.X)),cI (IntKind.i64.wrap (o.y + x12.1.Rect.Y))]) (OkOps.m 0 (triAlloc (j:=6) (cs:=[cI 0,cI 0,cI 0]) rfl rfl rfl rfl) (OkOps.w (triStore (cs':=[cI x11,cI (IntKind.i64.wrap (o.x + x12.1.Rect.X)),cI (IntKind.i64.wrap (o.y + x12.1.Rect.Y))]) rfl rfl rfl rfl rfl rfl rfl rfl rfl) (OkOps.nil (Ok.block (Ok.seq (Ok.region (OkOps.y (aB (x1.1.Kind == 8)) (OkOps.y (aB (!(x1.1.Kind == 8))) (OkOps.y (aB (!(x1.1.Kind == 8))) (OkOps.nil ?_))))))))))
 refine Ok.cond (b:=!(x1.1.Kind == 8)) rfl (fun h14=>?_) (fun h14=>?_)
 have hr:=selT h14 hr
 refine Ok.region (OkOps.y (.c (.tl 1036 (List.map hit_child.cs s6.1))) (OkOps.y (.agg [cI x11,cI (IntKind.i64.wrap (o.x + x12.1.Rect.X)),cI (IntKind.i64.wrap (o.y + x12.1.Rect.Y))]) (OkOps.m 0 (triBST (sz:=3) (enc:=hit_child.cs) (j:=7) ([(hit_child.mk x11 (IntKind.i64.wrap (o.x + x12.1.Rect.X)) (IntKind.i64.wrap (o.y + x12.1.Rect.Y)))]) rfl rfl rfl rfl rfl rfl rfl rfl (fun _=>rfl) trivial rfl rfl) ?_)))
 obtain ⟨x15,hx15,hr⟩:=bind_some hr
 refine OkOps.m2 0 (triApp (enc:=hit_child.cs) (L:=s6.1) (X:=[(hit_child.mk x11 (IntKind.i64.wrap (o.x + x12.1.Rect.X)) (IntKind.i64.wrap (o.y + x12.1.Rect.Y)))]) (j:=1036) (j':=8) hx15 rfl rfl rfl rfl rfl rfl (fun _=>rfl) (fun _=>rfl) (by decide) trivial rfl rfl) (OkOps.y (.c (.tl 8 (List.map hit_child.cs x15))) (OkOps.nil ?_))
 exact ⟨(x15,s6.2.1),hr,(Conv.mk (tau [(1044,8),(1045,1037)]) ⟨⟨_,rfl,.inl rfl⟩,⟨_,rfl,.inl rfl⟩,⟨_,rfl,.inl rfl⟩,⟨_,rfl,.inl rfl⟩,⟨_,rfl,.inl rfl⟩,⟨_,rfl,.inl rfl⟩,⟨_,rfl,.inl rfl⟩,⟨_,rfl,.inl rfl⟩,⟨_,rfl,.inl rfl⟩,⟨_,rfl,.inl rfl⟩,⟨_,rfl,.inl rfl⟩,trivial⟩ ⟨rfl,rfl,rfl,rfl,rfl,rfl,trivial⟩ rfl rfl rfl rfl)⟩
 have hr:=selF h14 hr
 refine Ok.seq (Ok.region (OkOps.y (.c (.loc 0 0)) (OkOps.y (.c (.loc 0 0)) (OkOps.y (.c (.loc 0 1)) (OkOps.y (.c (.d (.mp true (encM (kInt .i64) Node.cs p_s.nodes)))) (OkOps.y (aI x11) ?_))))))
 obtain ⟨x16,hx16,hr⟩:=bind_some hr
 refine OkOps.q (triLook (agg:=true) (ek:=(kInt .i64)) (ev:=Node.cs) (L:=p_s.nodes) (r:=.agg [cI x16.1.ID,cI x16.1.Parent,cI x16.1.Kind,cS x16.1.Key,.d (.sl (List.map Attr.cs x16.1.Attrs)),.d (.sl (List.map Action.cs x16.1.Actions)),.d (.sl (List.map (eInt .i64) x16.1.Kids))]) hx16 rfl rfl rfl (keyInt Tryd.underlying3) rfl rfl (fun h=>by cases h) rfl trivial rfl) ?_
 refine OkOps.y (.c (.d (.sl (List.map Attr.cs x16.1.Attrs)))) ?_
 obtain ⟨x17,hx17,hr⟩:=bind_some hr
 refine OkOps.q (triCl (tau []) (.s (aB x17)) [] (vw_Flag_c _ _ hx17) rfl ⟨.inl rfl,.inl rfl,trivial⟩ trivial entry62 trivial) (OkOps.y (aB x17) (OkOps.nil ?_))
 refine Ok.cond (b:=x17) rfl (fun h18=>?_) (fun h18=>?_)
 have hr:=selT h18 hr
 refine Ok.seq (Ok.regionD (by kernel_rfl) (OkD.x (.c (.loc 1 1)) rfl trivial rfl (OkD.x (aI o.y) rfl trivial rfl (OkD.x (.c (.loc 0 0)) rfl trivial rfl (OkD.x (.agg [cI x1.1.ID,cI x1.1.Parent,cI x1.1.Kind,cS x1.1.Key,.d (.sl (List.map Attr.cs x1.1.Attrs)),.d (.sl (List.map Action.cs x1.1.Actions)),.d (.sl (List.map (eInt .i64) x1.1.Kids))]) rfl trivial rfl (OkD.x (aI s6.2.2) rfl trivial rfl ?_))))))
 obtain ⟨x19,hx19,hr⟩:=bind_some hr
 refine OkD.q (TriL.keep (triCall (tau [(0,0)]) (.s (aI x19)) [(0,.blk [cI p_s.root,.d (.mp true (encM (kInt .i64) Node.cs p_s.nodes)),.d (.mp true (encM (kInt .i64) (eArr 22 (dInt .i64)) p_s.styles)),.d (.mp true (encM (kInt .i64) Box.cs p_s.boxes)),.d (.mp false (encM (kInt .i64) (eInt .i64) p_s.offsets))] 91)] (ht_scene_pin_c _ _ _ hx19) rfl ⟨.inl rfl,.inl rfl,.inl rfl,trivial⟩ trivial entry85 ⟨rfl,trivial⟩ rfl rfl rfl rfl trivial rfl rfl rfl) ⟨rfl,trivial⟩) (OkD.x (aI (IntKind.i64.wrap (o.y + x19))) rfl trivial rfl (OkD.x (.c (.loc 0 0)) rfl trivial rfl (OkD.x (.c (.loc 0 0)) rfl trivial rfl (OkD.x (.c (.loc 0 4)) rfl trivial rfl (OkD.x (.c (.d (.mp false (encM (kInt .i64) (eInt .i64) p_s.offsets)))) rfl trivial rfl (OkD.x (aI id) rfl trivial rfl ?_))))))
 obtain ⟨x20,hx20,hr⟩:=bind_some hr
 refine OkD.q (triLook (agg:=false) (ek:=(kInt .i64)) (ev:=(eInt .i64)) (L:=p_s.offsets) (r:=aI x20.1) hx20 rfl rfl rfl (keyInt Tryd.underlying3) rfl rfl (fun _ _=>rfl) rfl trivial rfl) (OkD.x (aI (IntKind.i64.wrap ((IntKind.i64.wrap (o.y + x19)) - x20.1))) rfl trivial rfl (OkD.x (.c (.loc 6 2)) rfl trivial rfl (OkD.w (triStore (cs':=[cI x11,cI (IntKind.i64.wrap (o.x + x12.1.Rect.X)),cI (IntKind.i64.wrap ((IntKind.i64.wrap (o.y + x19)) - x20.1))]) rfl rfl rfl rfl rfl rfl rfl rfl rfl) (OkD.nil (by kernel_rfl) (Ok.region (OkOps.y (.c (.tl 1037 (List.map hit_child.cs s6.2.1))) (OkOps.y (.agg [cI x11,cI (IntKind.i64.wrap (o.x + x12.1.Rect.X)),cI (IntKind.i64.wrap ((IntKind.i64.wrap (o.y + x19)) - x20.1))]) (OkOps.m 0 (triBST (sz:=3) (enc:=hit_child.cs) (j:=9) ([(hit_child.mk x11 (IntKind.i64.wrap (o.x + x12.1.Rect.X)) (IntKind.i64.wrap ((IntKind.i64.wrap (o.y + x19)) - x20.1)))]) rfl rfl rfl rfl rfl rfl rfl rfl (fun _=>rfl) trivial rfl rfl) ?_))))))))
 obtain ⟨x21,hx21,hr⟩:=bind_some hr
 refine OkOps.m2 0 (triApp (enc:=hit_child.cs) (L:=s6.2.1) (X:=[(hit_child.mk x11 (IntKind.i64.wrap (o.x + x12.1.Rect.X)) (IntKind.i64.wrap ((IntKind.i64.wrap (o.y + x19)) - x20.1)))]) (j:=1037) (j':=10) hx21 rfl rfl rfl rfl rfl rfl (fun _=>rfl) (fun _=>rfl) (by decide) trivial rfl rfl) (OkOps.y (.c (.tl 10 (List.map hit_child.cs x21))) (OkOps.nil ?_))
 exact ⟨(s6.1,x21),hr,(Conv.mk (tau [(1044,1036),(1045,10)]) ⟨⟨_,rfl,.inl rfl⟩,⟨_,rfl,.inl rfl⟩,⟨_,rfl,.inl rfl⟩,⟨_,rfl,.inl rfl⟩,⟨_,rfl,.inl rfl⟩,⟨_,rfl,.inl rfl⟩,⟨_,rfl,.inl rfl⟩,⟨_,rfl,.inl rfl⟩,⟨_,rfl,.inl rfl⟩,⟨_,rfl,.inl rfl⟩,⟨_,rfl,.inl rfl⟩,trivial⟩ ⟨rfl,rfl,rfl,rfl,rfl,rfl,trivial⟩ rfl rfl rfl rfl)⟩
 have hr:=selF h18 hr
 refine Ok.seq (Ok.regionD (by kernel_rfl) (OkD.x (.c (.loc 6 2)) rfl trivial rfl (OkD.x (aI (IntKind.i64.wrap (o.y + x12.1.Rect.Y))) rfl trivial rfl (OkD.x (.c (.loc 0 0)) rfl trivial rfl (OkD.x (.c (.loc 0 0)) rfl trivial rfl (OkD.x (.c (.loc 0 4)) rfl trivial rfl (OkD.x (.c (.d (.mp false (encM (kInt .i64) (eInt .i64) p_s.offsets)))) rfl trivial rfl (OkD.x (aI id) rfl trivial rfl ?_))))))))
 obtain ⟨x22,hx22,hr⟩:=bind_some hr
 refine OkD.q (triLook (agg:=false) (ek:=(kInt .i64)) (ev:=(eInt .i64)) (L:=p_s.offsets) (r:=aI x22.1) hx22 rfl rfl rfl (keyInt Tryd.underlying3) rfl rfl (fun _ _=>rfl) rfl trivial rfl) (OkD.x (aI (IntKind.i64.wrap ((IntKind.i64.wrap (o.y + x12.1.Rect.Y)) - x22.1))) rfl trivial rfl (OkD.x (.c (.loc 6 2)) rfl trivial rfl (OkD.w (triStore (cs':=[cI x11,cI (IntKind.i64.wrap (o.x + x12.1.Rect.X)),cI (IntKind.i64.wrap ((IntKind.i64.wrap (o.y + x12.1.Rect.Y)) - x22.1))]) rfl rfl rfl rfl rfl rfl rfl rfl rfl) (OkD.nil (by kernel_rfl) (Ok.seq (Ok.region (OkOps.y (.c (.loc 6 1)) (OkOps.y (aI (IntKind.i64.wrap (o.x + x12.1.Rect.X))) (OkOps.y (.c (.loc 6 2)) (OkOps.y (aI (IntKind.i64.wrap ((IntKind.i64.wrap (o.y + x12.1.Rect.Y)) - x22.1))) (OkOps.y (.c (.loc 5 1)) (OkOps.y (.c (.loc 5 3)) (OkOps.y (aI x12.1.Rect.W) (OkOps.y (.c (.loc 5 1)) (OkOps.y (.c (.loc 5 4)) ?_)))))))))))))))
 refine OkOps.y (aI x12.1.Rect.H) (OkOps.y (.agg [cI (IntKind.i64.wrap (o.x + x12.1.Rect.X)),cI (IntKind.i64.wrap ((IntKind.i64.wrap (o.y + x12.1.Rect.Y)) - x22.1)),cI x12.1.Rect.W,cI x12.1.Rect.H]) (OkOps.y (.agg [cI x2.X,cI x2.Y,cI x2.W,cI x2.H]) ?_))
 obtain ⟨x23,hx23,hr⟩:=bind_some hr
 refine OkOps.q (triCl (tau []) (.s (aB x23)) [] (ht_meets_c _ _ hx23) rfl ⟨.inl rfl,.inl rfl,trivial⟩ trivial entry86 trivial) (OkOps.nil ?_)
 refine Ok.cond (b:=x23) rfl (fun h24=>?_) (fun h24=>?_)
 have hr:=selT h24 hr
 refine Ok.region (OkOps.y (.c (.tl 1036 (List.map hit_child.cs s6.1))) (OkOps.y (.agg [cI x11,cI (IntKind.i64.wrap (o.x + x12.1.Rect.X)),cI (IntKind.i64.wrap ((IntKind.i64.wrap (o.y + x12.1.Rect.Y)) - x22.1))]) (OkOps.m 0 (triBST (sz:=3) (enc:=hit_child.cs) (j:=11) ([(hit_child.mk x11 (IntKind.i64.wrap (o.x + x12.1.Rect.X)) (IntKind.i64.wrap ((IntKind.i64.wrap (o.y + x12.1.Rect.Y)) - x22.1)))]) rfl rfl rfl rfl rfl rfl rfl rfl (fun _=>rfl) trivial rfl rfl) ?_)))
 obtain ⟨x25,hx25,hr⟩:=bind_some hr
 refine OkOps.m2 0 (triApp (enc:=hit_child.cs) (L:=s6.1) (X:=[(hit_child.mk x11 (IntKind.i64.wrap (o.x + x12.1.Rect.X)) (IntKind.i64.wrap ((IntKind.i64.wrap (o.y + x12.1.Rect.Y)) - x22.1)))]) (j:=1036) (j':=12) hx25 rfl rfl rfl rfl rfl rfl (fun _=>rfl) (fun _=>rfl) (by decide) trivial rfl rfl) (OkOps.y (.c (.tl 12 (List.map hit_child.cs x25))) (OkOps.nil ?_))
 exact ⟨(x25,s6.2.1),hr,(Conv.mk (tau [(1044,12),(1045,1037)]) ⟨⟨_,rfl,.inl rfl⟩,⟨_,rfl,.inl rfl⟩,⟨_,rfl,.inl rfl⟩,⟨_,rfl,.inl rfl⟩,⟨_,rfl,.inl rfl⟩,⟨_,rfl,.inl rfl⟩,⟨_,rfl,.inl rfl⟩,⟨_,rfl,.inl rfl⟩,⟨_,rfl,.inl rfl⟩,⟨_,rfl,.inl rfl⟩,⟨_,rfl,.inl rfl⟩,trivial⟩ ⟨rfl,rfl,rfl,rfl,rfl,rfl,trivial⟩ rfl rfl rfl rfl)⟩
 have hr:=selF h24 hr
 refine Ok.skip ?_
 exact ⟨(s6.1,s6.2.1),hr,(Conv.mk (tau [(1044,1036),(1045,1037)]) ⟨⟨_,rfl,.inl rfl⟩,⟨_,rfl,.inl rfl⟩,⟨_,rfl,.inl rfl⟩,⟨_,rfl,.inl rfl⟩,⟨_,rfl,.inl rfl⟩,⟨_,rfl,.inl rfl⟩,⟨_,rfl,.inl rfl⟩,⟨_,rfl,.inl rfl⟩,⟨_,rfl,.inl rfl⟩,⟨_,rfl,.inl rfl⟩,⟨_,rfl,.inl rfl⟩,trivial⟩ ⟨rfl,rfl,rfl,rfl,rfl,rfl,trivial⟩ rfl rfl rfl rfl)⟩
 have hr:=selF h8 hr
 refine Ok.exit ?_
 exact ⟨(s6.1,s6.2.1),hr,(Conv.mk (tau [(1021,1036),(1022,1037)]) ⟨⟨_,rfl,.inl rfl⟩,⟨_,rfl,.inl rfl⟩,trivial⟩ ⟨rfl,rfl,rfl,trivial⟩ rfl rfl rfl rfl)⟩
theorem ht_scene_hits_B_c (self0 : hit_scene → Int → hit_origin → Point → Option (List Int)) (hself0 : ∀ (p_s : hit_scene) (id : Int) (o : hit_origin) (p : Point) {r : (List Int)},self0 p_s id o p = some r → Con Tryd.prog 30 [.c (.loc 0 0),aI id,.agg [cI o.x,cI o.y],.agg [cI p.X,cI p.Y]] [(0,.blk [cI p_s.root,.d (.mp true (encM (kInt .i64) Node.cs p_s.nodes)),.d (.mp true (encM (kInt .i64) (eArr 22 (dInt .i64)) p_s.styles)),.d (.mp true (encM (kInt .i64) Box.cs p_s.boxes)),.d (.mp false (encM (kInt .i64) (eInt .i64) p_s.offsets))] 91)] (.s (.c (.d (.sl (List.map (eInt .i64) r))))) [(0,.blk [cI p_s.root,.d (.mp true (encM (kInt .i64) Node.cs p_s.nodes)),.d (.mp true (encM (kInt .i64) (eArr 22 (dInt .i64)) p_s.styles)),.d (.mp true (encM (kInt .i64) Box.cs p_s.boxes)),.d (.mp false (encM (kInt .i64) (eInt .i64) p_s.offsets))] 91)]) (p_s : hit_scene) (id : Int) (o : hit_origin) (p : Point) {r : (List Int)} (hr : ht_scene_hits_B self0 p_s id o p = some r) : Con Tryd.prog 30 [.c (.loc 0 0),aI id,.agg [cI o.x,cI o.y],.agg [cI p.X,cI p.Y]] [(0,.blk [cI p_s.root,.d (.mp true (encM (kInt .i64) Node.cs p_s.nodes)),.d (.mp true (encM (kInt .i64) (eArr 22 (dInt .i64)) p_s.styles)),.d (.mp true (encM (kInt .i64) Box.cs p_s.boxes)),.d (.mp false (encM (kInt .i64) (eInt .i64) p_s.offsets))] 91)] (.s (.c (.d (.sl (List.map (eInt .i64) r))))) [(0,.blk [cI p_s.root,.d (.mp true (encM (kInt .i64) Node.cs p_s.nodes)),.d (.mp true (encM (kInt .i64) (eArr 22 (dInt .i64)) p_s.styles)),.d (.mp true (encM (kInt .i64) Box.cs p_s.boxes)),.d (.mp false (encM (kInt .i64) (eInt .i64) p_s.offsets))] 91)]:=by
 unfold ht_scene_hits_B at hr
 refine Con.of_ok 100 0 [.cell 8 22] [(0,.s (.c (.loc 0 0))),(1,.s (aI id)),(2,.s (.agg [cI o.x,cI o.y])),(3,.s (.agg [cI p.X,cI p.Y]))] Tryd.func30 rfl rfl rfl rfl rfl rfl rfl rfl fun w g M ρ _=>(Ok.seq (Ok.region (OkOps.m 0 (triBox (j:=1) (cs:=[.loc 0 0]) rfl rfl rfl rfl rfl) (OkOps.m 0 (triBox (j:=2) (cs:=[cI id]) rfl rfl rfl rfl rfl) (OkOps.m 0 (triBox (j:=3) (cs:=[cI o.x,cI o.y]) rfl rfl rfl rfl rfl) (OkOps.m 0 (triBox (j:=4) (cs:=[cI p.X,cI p.Y]) rfl rfl rfl rfl rfl) (OkOps.m 0 (triAlloc (j:=5) (cs:=[.d (.v (.slice none 0 0))]) rfl rfl rfl rfl) (OkOps.nil ?_))))))))
 obtain ⟨k2,hk2,hr⟩:=jn_some hr
 refine Ok.join (fun (s1 : Int × Int × Int × Int)=>⟨[(4,.s (.c (.loc 1 0))),(5,.s (.c (.loc 2 0))),(6,.s (.c (.loc 3 0))),(7,.s (.c (.loc 4 0))),(8,.s (.c (.loc 5 0)))],[(0,.blk [cI p_s.root,.d (.mp true (encM (kInt .i64) Node.cs p_s.nodes)),.d (.mp true (encM (kInt .i64) (eArr 22 (dInt .i64)) p_s.styles)),.d (.mp true (encM (kInt .i64) Box.cs p_s.boxes)),.d (.mp false (encM (kInt .i64) (eInt .i64) p_s.offsets))] 91),(1,.blk [.loc 0 0] 82),(2,.blk [cI id] 3),(3,.blk [cI s1.1,cI s1.2.1] 94),(4,.blk [cI s1.2.2.1,cI s1.2.2.2] 51),(5,.blk [.d (.v (.slice none 0 0))] 22)],0⟩) k2 r (fun s1 hr=>?_) ?_
 rw [hk2] at hr
 refine Ok.seq (Ok.region (OkOps.y (.c (.loc 0 0)) (OkOps.y (aI id) (OkOps.y (.agg [cI s1.1,cI s1.2.1]) ?_))))
 obtain ⟨x3,hx3,hr⟩:=bind_some hr
 refine OkOps.q (TriL.keep (triCall (tau [(0,0)]) (.s (.agg [cI x3.X,cI x3.Y,cI x3.W,cI x3.H])) [(0,.blk [cI p_s.root,.d (.mp true (encM (kInt .i64) Node.cs p_s.nodes)),.d (.mp true (encM (kInt .i64) (eArr 22 (dInt .i64)) p_s.styles)),.d (.mp true (encM (kInt .i64) Box.cs p_s.boxes)),.d (.mp false (encM (kInt .i64) (eInt .i64) p_s.offsets))] 91)] (ht_scene_rect_c _ _ _ hx3) rfl ⟨.inl rfl,.inl rfl,.inl rfl,trivial⟩ trivial entry58 ⟨rfl,trivial⟩ rfl rfl rfl rfl trivial rfl rfl rfl) ⟨rfl,trivial⟩) (OkOps.m 0 (triAlloc (j:=6) (cs:=[cI 0,cI 0,cI 0,cI 0]) rfl rfl rfl rfl) (OkOps.w (triStore (cs':=[cI x3.X,cI x3.Y,cI x3.W,cI x3.H]) rfl rfl rfl rfl rfl rfl rfl rfl rfl) (OkOps.nil ?_)))
 obtain ⟨k5,hk5,hr⟩:=jn_some hr
 refine Ok.join (fun (s4 : Unit)=>⟨[(4,.s (.c (.loc 1 0))),(5,.s (.c (.loc 2 0))),(7,.s (.c (.loc 4 0))),(8,.s (.c (.loc 5 0))),(11,.s (.c (.loc 6 0)))],[(0,.blk [cI p_s.root,.d (.mp true (encM (kInt .i64) Node.cs p_s.nodes)),.d (.mp true (encM (kInt .i64) (eArr 22 (dInt .i64)) p_s.styles)),.d (.mp true (encM (kInt .i64) Box.cs p_s.boxes)),.d (.mp false (encM (kInt .i64) (eInt .i64) p_s.offsets))] 91),(1,.blk [.loc 0 0] 82),(2,.blk [cI id] 3),(4,.blk [cI s1.2.2.1,cI s1.2.2.2] 51),(5,.blk [.d (.v (.slice none 0 0))] 22),(6,.blk [cI x3.X,cI x3.Y,cI x3.W,cI x3.H] 32)],0⟩) k5 r (fun s4 hr=>?_) ?_
 rw [hk5] at hr
 refine Ok.seq (Ok.seq (Ok.regionD (by kernel_rfl) (OkD.x (.c (.loc 0 0)) rfl trivial rfl (OkD.x (.c (.loc 0 0)) rfl trivial rfl (OkD.x (.c (.loc 0 2)) rfl trivial rfl (OkD.x (.c (.d (.mp true (encM (kInt .i64) (eArr 22 (dInt .i64)) p_s.styles)))) rfl trivial rfl (OkD.x (aI id) rfl trivial rfl ?_)))))))
 obtain ⟨x6,hx6,hr⟩:=bind_some hr
 refine OkD.q (triLook (agg:=true) (ek:=(kInt .i64)) (ev:=(eArr 22 (dInt .i64))) (L:=p_s.styles) (r:=.agg [cI (x6.1 0),cI (x6.1 1),cI (x6.1 2),cI (x6.1 3),cI (x6.1 4),cI (x6.1 5),cI (x6.1 6),cI (x6.1 7),cI (x6.1 8),cI (x6.1 9),cI (x6.1 10),cI (x6.1 11),cI (x6.1 12),cI (x6.1 13),cI (x6.1 14),cI (x6.1 15),cI (x6.1 16),cI (x6.1 17),cI (x6.1 18),cI (x6.1 19),cI (x6.1 20),cI (x6.1 21)]) hx6 rfl rfl rfl (keyInt Tryd.underlying3) rfl rfl (fun h=>by cases h) rfl trivial rfl) ?_
 refine OkD.q (triIxA (k:=21) (c:=cI (x6.1 21)) rfl rfl rfl rfl rfl rfl trivial rfl) (OkD.x (aB ((x6.1 21) == 0)) rfl trivial rfl (OkD.x (aB ((x6.1 21) == 0)) rfl trivial rfl (OkD.q (triQG (x:=.c (.loc 0 0)) rfl rfl trivial rfl) (OkD.q (triQG (x:=.c (.loc 0 0)) rfl rfl ⟨fun h=>h,trivial⟩ rfl) (OkD.q (triQG (x:=.c (.loc 0 1)) rfl rfl ⟨fun h=>h,trivial⟩ rfl) (OkD.q (triQG (x:=.c (.d (.mp true (encM (kInt .i64) Node.cs p_s.nodes)))) rfl rfl ⟨fun h=>h,trivial⟩ rfl) (OkD.q (triQG (x:=aI id) rfl rfl trivial rfl) ?_)))))))
 obtain ⟨x7,hx7,hr⟩:=bind_some hr
 refine OkD.q (triLookG (agg:=true) (ek:=(kInt .i64)) (ev:=Node.cs) (L:=p_s.nodes) (r:=.agg [cI x7.1.ID,cI x7.1.Parent,cI x7.1.Kind,cS x7.1.Key,.d (.sl (List.map Attr.cs x7.1.Attrs)),.d (.sl (List.map Action.cs x7.1.Actions)),.d (.sl (List.map (eInt .i64) x7.1.Kids))]) (gO_t hx7) rfl rfl rfl rfl (keyInt Tryd.underlying3) rfl rfl (fun h=>by cases h) rfl ⟨fun h=>h,⟨fun h=>h,trivial⟩⟩ rfl) ?_
 refine OkD.q (triQG (x:=.c (.d (.sl (List.map Attr.cs x7.1.Attrs)))) rfl rfl ⟨fun h=>h,trivial⟩ rfl) ?_
 obtain ⟨x8,hx8,hr⟩:=bind_some hr
 refine OkD.q (triCallG (x:=aB x8) (fun hg=>vw_Flag_c _ _ (gO_t hx8 hg)) rfl rfl ⟨.inl rfl,.inl rfl,trivial⟩ ⟨fun h=>h,trivial⟩ entry62 rfl rfl rfl) (OkD.q (triQG (x:=aB (!x8)) rfl rfl ⟨fun h=>h,trivial⟩ rfl) (OkD.q (triAnd rfl rfl (fun h=>h) rfl) (OkD.x (aB (((x6.1 21) == 0) && (!x8))) rfl trivial rfl (OkD.q (triQG (x:=.agg [cI x3.X,cI x3.Y,cI x3.W,cI x3.H]) rfl rfl trivial rfl) (OkD.q (triQG (x:=.agg [cI s1.2.2.1,cI s1.2.2.2]) rfl rfl trivial rfl) ?_)))))
 obtain ⟨x9,hx9,hr⟩:=bind_some hr
 refine OkD.q (triCallG (x:=aB x9) (fun hg=>ge_Contains_c _ _ (gO_t hx9 hg)) rfl rfl ⟨.inl rfl,.inl rfl,trivial⟩ ⟨fun h=>h,⟨fun h=>h,trivial⟩⟩ entry59 rfl rfl rfl) (OkD.q (triAnd rfl rfl (fun h=>h) rfl) (OkD.nil (by kernel_rfl) ?_))
 refine Ok.cond (b:=(((x6.1 21) == 0) && (!x8)) && x9) rfl (fun h10=>?_) (fun h10=>?_)
 have hr:=selT h10 hr
 refine Ok.seq (Ok.region (OkOps.y (aI id) (OkOps.m 0 (triBST (sz:=1) (enc:=(eInt .i64)) (j:=7) ([id]) rfl rfl rfl rfl rfl rfl rfl rfl (fun _=>rfl) trivial rfl rfl) (OkOps.w (triStore (cs':=[.tl 7 (List.map (eInt .i64) ([id]))]) rfl rfl rfl rfl rfl rfl rfl rfl rfl) (OkOps.nil (Ok.ret ?_))))))
 obtain rfl:=Option.some.inj hr
 exact ⟨_,rfl,.inr rfl,⟨rfl,trivial⟩⟩
 have hr:=selF h10 hr
 refine Ok.skip (Ok.seq (Ok.region (OkOps.w (triStore (cs':=[.d (.v (.slice none 0 0))]) rfl rfl rfl rfl rfl rfl rfl rfl rfl) (OkOps.nil (Ok.ret ?_)))))
 obtain rfl:=Option.some.inj hr
 exact ⟨_,rfl,.inr rfl,⟨rfl,trivial⟩⟩
 clear hk5
 refine Ok.seq (Ok.regionD (by kernel_rfl) (OkD.x (.c (.loc 0 0)) rfl trivial rfl (OkD.x (.c (.loc 0 0)) rfl trivial rfl (OkD.x (.c (.loc 0 1)) rfl trivial rfl (OkD.x (.c (.d (.mp true (encM (kInt .i64) Node.cs p_s.nodes)))) rfl trivial rfl (OkD.x (aI id) rfl trivial rfl ?_))))))
 obtain ⟨x11,hx11,hr⟩:=bind_some hr
 refine OkD.q (triLook (agg:=true) (ek:=(kInt .i64)) (ev:=Node.cs) (L:=p_s.nodes) (r:=.agg [cI x11.1.ID,cI x11.1.Parent,cI x11.1.Kind,cS x11.1.Key,.d (.sl (List.map Attr.cs x11.1.Attrs)),.d (.sl (List.map Action.cs x11.1.Actions)),.d (.sl (List.map (eInt .i64) x11.1.Kids))]) hx11 rfl rfl rfl (keyInt Tryd.underlying3) rfl rfl (fun h=>by cases h) rfl trivial rfl) ?_
 refine OkD.x (aI x11.1.Kind) rfl trivial rfl (OkD.x (aB (x11.1.Kind != 8)) rfl trivial rfl (OkD.x (aB (x11.1.Kind != 8)) rfl trivial rfl (OkD.q (triQG (x:=.agg [cI x3.X,cI x3.Y,cI x3.W,cI x3.H]) rfl rfl trivial rfl) (OkD.q (triQG (x:=.agg [cI s1.2.2.1,cI s1.2.2.2]) rfl rfl trivial rfl) ?_))))
 obtain ⟨x12,hx12,hr⟩:=bind_some hr
 refine OkD.q (triCallG (x:=aB x12) (fun hg=>ge_Contains_c _ _ (gO_t hx12 hg)) rfl rfl ⟨.inl rfl,.inl rfl,trivial⟩ ⟨fun h=>h,⟨fun h=>h,trivial⟩⟩ entry59 rfl rfl rfl) ?_
 refine OkD.q (triOr rfl rfl (fun h=>by rw [h];rfl) rfl) ?_
 refine OkD.nil (by kernel_rfl) ?_
 refine Ok.cond (b:=(x11.1.Kind != 8) || x12) rfl (fun h13=>?_) (fun h13=>?_)
 have hr:=selT h13 hr
 refine Ok.seq (Ok.region (OkOps.y (.c (.loc 0 0)) (OkOps.y (aI id) (OkOps.y (.agg [cI s1.1,cI s1.2.1]) ?_))))
 obtain ⟨x14,hx14,hr⟩:=bind_some hr
 refine OkOps.q (TriL.keep (triCall (tau [(0,0)]) (.s (.c (.d (.sl (List.map hit_child.cs x14))))) [(0,.blk [cI p_s.root,.d (.mp true (encM (kInt .i64) Node.cs p_s.nodes)),.d (.mp true (encM (kInt .i64) (eArr 22 (dInt .i64)) p_s.styles)),.d (.mp true (encM (kInt .i64) Box.cs p_s.boxes)),.d (.mp false (encM (kInt .i64) (eInt .i64) p_s.offsets))] 91)] (ht_scene_children_c _ _ _ hx14) rfl ⟨.inl rfl,.inl rfl,.inl rfl,trivial⟩ trivial entry61 ⟨rfl,trivial⟩ rfl rfl rfl rfl trivial rfl rfl rfl) ⟨rfl,trivial⟩) (OkOps.m 0 (triCall (tau [(0,8)]) (.s (.c (.fn 84 [(8,0)]))) [(8,.blk [.d (.sl (List.map hit_child.cs x14))] 132)] (slices_Backward_Sl_child_child_c x14) rfl ⟨.inl rfl,trivial⟩ trivial entry60 trivial rfl rfl rfl rfl ⟨rfl,trivial⟩ rfl rfl rfl) (OkOps.nil (Ok.block ?_)))
 refine Ok.rangeB (jl:=9) (nx:=0) (nx1:=0) (caps:=[(8,0)]) rfl rfl trivial Tryd.func84 rfl rfl rfl rfl rfl rfl (fun l ρ1 M1 ob hT1 E=>?_)
 refine Ok.seq (Ok.region (OkOps.y (.c (.d (.sl (List.map hit_child.cs x14)))) (OkOps.q (triLen (enc:=hit_child.cs) x14 rfl rfl trivial rfl) (OkOps.y (aI (IntKind.i64.wrap ((x14.length : Int) - 1))) (OkOps.y (aI (IntKind.i64.wrap ((x14.length : Int) - 1))) (OkOps.nil ?_))))))
 obtain ⟨k16,hk16,hr⟩:=jn_some hr
 refine Ok.joinEnd (fun (s15 : Unit)=>⟨[],[(0,.blk [cI p_s.root,.d (.mp true (encM (kInt .i64) Node.cs p_s.nodes)),.d (.mp true (encM (kInt .i64) (eArr 22 (dInt .i64)) p_s.styles)),.d (.mp true (encM (kInt .i64) Box.cs p_s.boxes)),.d (.mp false (encM (kInt .i64) (eInt .i64) p_s.offsets))] 91),(1,.blk [.loc 0 0] 82),(2,.blk [cI id] 3),(3,.blk [cI s1.1,cI s1.2.1] 94),(4,.blk [cI s1.2.2.1,cI s1.2.2.2] 51),(5,.blk [.d (.v (.slice none 0 0))] 22),(6,.blk [cI x3.X,cI x3.Y,cI x3.W,cI x3.H] 32),(8,.blk [.d (.sl (List.map hit_child.cs x14))] 132),(9,.obj (ob .ready none))],0⟩) k16 r (fun s15 hr=>?_) ?_
 rw [hk16] at hr
 refine ⟨.inr rfl,.inl ⟨rfl,?_⟩⟩
 exact ⟨(),hr,(Conv.mk (tau []) ⟨⟨_,rfl,.inl rfl⟩,⟨_,rfl,.inl rfl⟩,⟨_,rfl,.inl rfl⟩,⟨_,rfl,.inl rfl⟩,⟨_,rfl,.inl rfl⟩,trivial⟩ ⟨rfl,rfl,rfl,rfl,rfl,rfl,trivial⟩ rfl rfl rfl rfl)⟩
 clear hk16
 refine Ok.block (Ok.loopK (fun (s17 : Int)=>⟨[(0,.s (.c (.d (.v (yl l))))),(1,.s (.c (.loc 8 0))),(3,.s (aI s17))],[(0,.blk [cI p_s.root,.d (.mp true (encM (kInt .i64) Node.cs p_s.nodes)),.d (.mp true (encM (kInt .i64) (eArr 22 (dInt .i64)) p_s.styles)),.d (.mp true (encM (kInt .i64) Box.cs p_s.boxes)),.d (.mp false (encM (kInt .i64) (eInt .i64) p_s.offsets))] 91),(1,.blk [.loc 0 0] 82),(2,.blk [cI id] 3),(3,.blk [cI s1.1,cI s1.2.1] 94),(4,.blk [cI s1.2.2.1,cI s1.2.2.2] 51),(5,.blk [.d (.v (.slice none 0 0))] 22),(6,.blk [cI x3.X,cI x3.Y,cI x3.W,cI x3.H] 32),(8,.blk [.d (.sl (List.map hit_child.cs x14))] 132),(9,.obj (ob .ready none))],0⟩) hr (Conv.mk (tau []) ⟨⟨_,rfl,.inl rfl⟩,⟨_,rfl,.inl rfl⟩,⟨_,rfl,.inl rfl⟩,trivial⟩ ⟨rfl,rfl,rfl,rfl,rfl,rfl,rfl,rfl,rfl,trivial⟩ rfl rfl rfl rfl) ?_)
 clear hr
 intro again18 s17 hr
 unfold ht_scene_hits_L1 at hr
 refine Ok.seq (Ok.seq (Ok.region (OkOps.y (aI s17) (OkOps.y (aB (decide (s17 ≥ 0))) (OkOps.nil ?_)))))
 refine Ok.cond (b:=decide (s17 ≥ 0)) rfl (fun h19=>?_) (fun h19=>?_)
 have hr:=selT h19 hr
 refine Ok.skip (Ok.seq (Ok.block (Ok.seq (Ok.region (OkOps.y (.c (.d (.v (yl l)))) (OkOps.y (aI s17) (OkOps.y (.c (.d (.sl (List.map hit_child.cs x14)))) (OkOps.y (aI s17) ?_))))))))
 obtain ⟨x20,hx20,hr⟩:=bind_some hr
 refine OkOps.q (triIdx (enc:=hit_child.cs) (L:=x14) (row:=[dI x20.id,dI x20.x,dI x20.y]) hx20 rfl rfl rfl rfl (fun _=>rfl) trivial rfl) (OkOps.y (.agg [cI x20.id,cI x20.x,cI x20.y]) ?_)
 refine OkOps.yield (jl:=9) (v1:=aI s17) (v2:=.agg [cI x20.id,cI x20.x,cI x20.y]) (nx:=0) E (by decide) rfl rfl rfl rfl trivial rfl rfl dom_cons dom_self (fun ρc Mc hT2=>?_)
 refine Ok.region (OkOps.m 0 (triAlloc (j:=10) (cs:=[cI 0,cI 0,cI 0]) rfl rfl rfl rfl) (OkOps.w (triStore (cs':=[cI x20.id,cI x20.x,cI x20.y]) rfl rfl rfl rfl rfl rfl rfl rfl rfl) (OkOps.nil ?_)))
 refine ⟨rfl,rfl,?_⟩
 refine Ok.block (Ok.seq (Ok.region (OkOps.y (.c (.loc 0 0)) (OkOps.y (.c (.loc 10 0)) (OkOps.y (aI x20.id) (OkOps.y (.c (.loc 10 1)) (OkOps.y (aI x20.x) (OkOps.y (.c (.loc 10 2)) (OkOps.y (aI x20.y) (OkOps.y (.agg [cI x20.x,cI x20.y]) (OkOps.y (.agg [cI s1.2.2.1,cI s1.2.2.2]) ?_)))))))))))
 obtain ⟨x21,hx21,hr⟩:=bind_some hr
 refine OkOps.q (TriL.keep (triCall (tau [(0,0)]) (.s (.c (.d (.sl (List.map (eInt .i64) x21))))) [(0,.blk [cI p_s.root,.d (.mp true (encM (kInt .i64) Node.cs p_s.nodes)),.d (.mp true (encM (kInt .i64) (eArr 22 (dInt .i64)) p_s.styles)),.d (.mp true (encM (kInt .i64) Box.cs p_s.boxes)),.d (.mp false (encM (kInt .i64) (eInt .i64) p_s.offsets))] 91)] (hself0 _ _ _ _ hx21) rfl ⟨.inl rfl,.inl rfl,.inl rfl,.inl rfl,trivial⟩ trivial entry30 ⟨rfl,trivial⟩ rfl rfl rfl rfl trivial rfl rfl rfl) ⟨rfl,trivial⟩) (OkOps.y (.c (.d (.sl (List.map (eInt .i64) x21)))) (OkOps.nil (Ok.seq (Ok.region (OkOps.y (.c (.d (.sl (List.map (eInt .i64) x21)))) (OkOps.q (triLen (enc:=(eInt .i64)) x21 rfl rfl trivial rfl) (OkOps.y (aB (decide ((x21.length : Int) > 0))) (OkOps.nil ?_))))))))
 refine Ok.cond (b:=decide ((x21.length : Int) > 0)) rfl (fun h22=>?_) (fun h22=>?_)
 have hr:=selT h22 hr
 refine Ok.seq (Ok.region (OkOps.y (aI id) (OkOps.m 0 (triBST (sz:=1) (enc:=(eInt .i64)) (j:=11) ([id]) rfl rfl rfl rfl rfl rfl rfl rfl (fun _=>rfl) trivial rfl rfl) (OkOps.y (.c (.d (.sl (List.map (eInt .i64) x21)))) ?_))))
 obtain ⟨x23,hx23,hr⟩:=bind_some hr
 refine OkOps.m2 0 (triApp (enc:=(eInt .i64)) (L:=[id]) (X:=x21) (j:=11) (j':=12) hx23 rfl rfl rfl rfl rfl rfl (fun _=>rfl) (fun _=>rfl) (by decide) trivial rfl rfl) (OkOps.w (triStore (cs':=[.tl 12 (List.map (eInt .i64) x23)]) rfl rfl rfl rfl rfl rfl rfl rfl rfl) (OkOps.nil (Ok.ret ?_)))
 refine ⟨rfl,?_⟩
 refine OkOps.y (aB (!false)) (OkOps.nil ?_)
 refine Ok.cond (b:=!false) rfl (fun _=>?_) (fun h=>by cases h)
 refine Ok.ret ?_
 refine ⟨.inl rfl,.inr ⟨.ret,_,rfl,rfl,?_⟩⟩
 obtain rfl:=Option.some.inj hr
 exact ⟨_,rfl,.inr rfl,⟨rfl,trivial⟩⟩
 have hr:=selF h22 hr
 refine Ok.skip ?_
 refine ⟨rfl,?_⟩
 refine OkOps.y (aB (!true)) (OkOps.nil ?_)
 refine Ok.cond (b:=!true) rfl (fun h=>by cases h) (fun _=>?_)
 refine Ok.skip (Ok.region (OkOps.y (aI s17) (OkOps.y (aI (IntKind.i64.wrap (s17 - 1))) (OkOps.y (aI (IntKind.i64.wrap (s17 - 1))) (OkOps.nil ?_)))))
 exact ⟨IntKind.i64.wrap (s17 - 1),hr,(Conv.mk (tau []) ⟨⟨_,rfl,.inl rfl⟩,⟨_,rfl,.inl rfl⟩,⟨_,rfl,.inl rfl⟩,trivial⟩ ⟨rfl,rfl,rfl,rfl,rfl,rfl,rfl,rfl,rfl,trivial⟩ rfl rfl rfl rfl)⟩
 have hr:=selF h19 hr
 refine Ok.exit ?_
 exact ⟨(),hr,(Conv.mk (tau []) trivial ⟨rfl,rfl,rfl,rfl,rfl,rfl,rfl,rfl,rfl,trivial⟩ rfl rfl rfl rfl)⟩
 have hr:=selF h13 hr
 refine Ok.skip ?_
 exact ⟨(),hr,(Conv.mk (tau []) ⟨⟨_,rfl,.inl rfl⟩,⟨_,rfl,.inl rfl⟩,⟨_,rfl,.inl rfl⟩,⟨_,rfl,.inl rfl⟩,⟨_,rfl,.inl rfl⟩,trivial⟩ ⟨rfl,rfl,rfl,rfl,rfl,rfl,trivial⟩ rfl rfl rfl rfl)⟩
 clear hk2
 refine Ok.seq (Ok.region (OkOps.y (.c (.loc 0 0)) (OkOps.y (aI id) (OkOps.y (.agg [cI o.x,cI o.y]) ?_))))
 obtain ⟨x26,hx26,hr⟩:=bind_some hr
 refine OkOps.q (TriL.keep (triCall (tau [(0,0)]) (.tup [.agg [cI x26.1.Turn,cB_ x26.1.Mirror,cI x26.1.Scale,cI x26.1.DX,cI x26.1.DY],aB x26.2]) [(0,.blk [cI p_s.root,.d (.mp true (encM (kInt .i64) Node.cs p_s.nodes)),.d (.mp true (encM (kInt .i64) (eArr 22 (dInt .i64)) p_s.styles)),.d (.mp true (encM (kInt .i64) Box.cs p_s.boxes)),.d (.mp false (encM (kInt .i64) (eInt .i64) p_s.offsets))] 91)] (ht_scene_turn_c _ _ _ hx26) rfl ⟨.inl rfl,.inl rfl,.inl rfl,trivial⟩ trivial entry55 ⟨rfl,trivial⟩ rfl rfl rfl rfl trivial rfl rfl rfl) ⟨rfl,trivial⟩) (OkOps.q (triMv (v:=.tup [.agg [cI x26.1.Turn,cB_ x26.1.Mirror,cI x26.1.Scale,cI x26.1.DX,cI x26.1.DY],aB x26.2]) rfl rfl) (OkOps.y (.agg [cI x26.1.Turn,cB_ x26.1.Mirror,cI x26.1.Scale,cI x26.1.DX,cI x26.1.DY]) (OkOps.y (aB x26.2) (OkOps.m 0 (triAlloc (j:=13) (cs:=[cI 0,cB_ false,cI 0,cI 0,cI 0]) rfl rfl rfl rfl) (OkOps.w (triStore (cs':=[cI x26.1.Turn,cB_ x26.1.Mirror,cI x26.1.Scale,cI x26.1.DX,cI x26.1.DY]) rfl rfl rfl rfl rfl rfl rfl rfl rfl) (OkOps.y (aB x26.2) (OkOps.nil (Ok.seq (Ok.region (OkOps.y (aB x26.2) (OkOps.nil ?_)))))))))))
 refine Ok.cond (b:=x26.2) rfl (fun h27=>?_) (fun h27=>?_)
 have hr:=selT h27 hr
 refine Ok.seq (Ok.seq (Ok.region (OkOps.y (.agg [cI x26.1.Turn,cB_ x26.1.Mirror,cI x26.1.Scale,cI x26.1.DX,cI x26.1.DY]) ?_)))
 obtain ⟨x28,hx28,hr⟩:=bind_some hr
 refine OkOps.q (triCl (tau []) (.s (aI x28)) [] (ge_Check_c _ hx28) rfl ⟨.inl rfl,trivial⟩ trivial entry56 trivial) (OkOps.y (aB (x28 != 0)) (OkOps.nil ?_))
 refine Ok.cond (b:=x28 != 0) rfl (fun h29=>?_) (fun h29=>?_)
 have hr:=selT h29 hr
 refine Ok.seq (Ok.region (OkOps.w (triStore (cs':=[.d (.v (.slice none 0 0))]) rfl rfl rfl rfl rfl rfl rfl rfl rfl) (OkOps.nil (Ok.ret ?_))))
 obtain rfl:=Option.some.inj hr
 exact ⟨_,rfl,.inr rfl,⟨rfl,trivial⟩⟩
 have hr:=selF h29 hr
 refine Ok.skip (Ok.seq (Ok.region (OkOps.y (.agg [cI x26.1.Turn,cB_ x26.1.Mirror,cI x26.1.Scale,cI x26.1.DX,cI x26.1.DY]) (OkOps.y (.agg [cI p.X,cI p.Y]) ?_))))
 obtain ⟨x30,hx30,hr⟩:=bind_some hr
 refine OkOps.q (triCl (tau []) (.s (.agg [cI x30.X,cI x30.Y])) [] (ge_Back_c _ _ hx30) rfl ⟨.inl rfl,.inl rfl,trivial⟩ trivial entry57 trivial) (OkOps.y (.agg [cI 0,cI 0]) (OkOps.w (triStore (cs':=[cI x30.X,cI x30.Y]) rfl rfl rfl rfl rfl rfl rfl rfl rfl) (OkOps.w (triStore (cs':=[cI 0,cI 0]) rfl rfl rfl rfl rfl rfl rfl rfl rfl) (OkOps.nil (Ok.seq (Ok.region (OkOps.y (.agg [cI x30.X,cI x30.Y]) ?_)))))))
 obtain ⟨x31,hx31,hr⟩:=bind_some hr
 refine OkOps.q (triCl (tau []) (.s (aB x31)) [] (ht_valid_c _ hx31) rfl ⟨.inl rfl,trivial⟩ trivial entry29 trivial) (OkOps.y (aB (!x31)) (OkOps.nil ?_))
 refine Ok.cond (b:=!x31) rfl (fun h32=>?_) (fun h32=>?_)
 have hr:=selT h32 hr
 refine Ok.seq (Ok.region (OkOps.w (triStore (cs':=[.d (.v (.slice none 0 0))]) rfl rfl rfl rfl rfl rfl rfl rfl rfl) (OkOps.nil (Ok.ret ?_))))
 obtain rfl:=Option.some.inj hr
 exact ⟨_,rfl,.inr rfl,⟨rfl,trivial⟩⟩
 have hr:=selF h32 hr
 refine Ok.skip ?_
 exact ⟨(0,0,x30.X,x30.Y),hr,(Conv.mk (tau []) ⟨⟨_,rfl,.inl rfl⟩,⟨_,rfl,.inl rfl⟩,⟨_,rfl,.inl rfl⟩,⟨_,rfl,.inl rfl⟩,⟨_,rfl,.inl rfl⟩,trivial⟩ ⟨rfl,rfl,rfl,rfl,rfl,rfl,trivial⟩ rfl rfl rfl rfl)⟩
 have hr:=selF h27 hr
 refine Ok.skip ?_
 exact ⟨(o.x,o.y,p.X,p.Y),hr,(Conv.mk (tau []) ⟨⟨_,rfl,.inl rfl⟩,⟨_,rfl,.inl rfl⟩,⟨_,rfl,.inl rfl⟩,⟨_,rfl,.inl rfl⟩,⟨_,rfl,.inl rfl⟩,trivial⟩ ⟨rfl,rfl,rfl,rfl,rfl,rfl,trivial⟩ rfl rfl rfl rfl)⟩
theorem ht_scene_hits_all : ∀ n : Nat,(∀ (p_s : hit_scene) (id : Int) (o : hit_origin) (p : Point) {r : (List Int)},ht_scene_hits n p_s id o p = some r → Con Tryd.prog 30 [.c (.loc 0 0),aI id,.agg [cI o.x,cI o.y],.agg [cI p.X,cI p.Y]] [(0,.blk [cI p_s.root,.d (.mp true (encM (kInt .i64) Node.cs p_s.nodes)),.d (.mp true (encM (kInt .i64) (eArr 22 (dInt .i64)) p_s.styles)),.d (.mp true (encM (kInt .i64) Box.cs p_s.boxes)),.d (.mp false (encM (kInt .i64) (eInt .i64) p_s.offsets))] 91)] (.s (.c (.d (.sl (List.map (eInt .i64) r))))) [(0,.blk [cI p_s.root,.d (.mp true (encM (kInt .i64) Node.cs p_s.nodes)),.d (.mp true (encM (kInt .i64) (eArr 22 (dInt .i64)) p_s.styles)),.d (.mp true (encM (kInt .i64) Box.cs p_s.boxes)),.d (.mp false (encM (kInt .i64) (eInt .i64) p_s.offsets))] 91)]) ∧ True:=by
 intro n
 induction n with
 | zero=>exact ⟨(by intros;rename_i hr;cases hr),trivial⟩
 | succ n ih=>exact ⟨(by intros;rename_i hr;exact ht_scene_hits_B_c _ ih.1 _ _ _ _ hr),trivial⟩
theorem ht_scene_hits_c (n : Nat) (p_s : hit_scene) (id : Int) (o : hit_origin) (p : Point) {r : (List Int)} (hr : ht_scene_hits n p_s id o p = some r) : Con Tryd.prog 30 [.c (.loc 0 0),aI id,.agg [cI o.x,cI o.y],.agg [cI p.X,cI p.Y]] [(0,.blk [cI p_s.root,.d (.mp true (encM (kInt .i64) Node.cs p_s.nodes)),.d (.mp true (encM (kInt .i64) (eArr 22 (dInt .i64)) p_s.styles)),.d (.mp true (encM (kInt .i64) Box.cs p_s.boxes)),.d (.mp false (encM (kInt .i64) (eInt .i64) p_s.offsets))] 91)] (.s (.c (.d (.sl (List.map (eInt .i64) r))))) [(0,.blk [cI p_s.root,.d (.mp true (encM (kInt .i64) Node.cs p_s.nodes)),.d (.mp true (encM (kInt .i64) (eArr 22 (dInt .i64)) p_s.styles)),.d (.mp true (encM (kInt .i64) Box.cs p_s.boxes)),.d (.mp false (encM (kInt .i64) (eInt .i64) p_s.offsets))] 91)]:=(ht_scene_hits_all n).1 p_s id o p hr
theorem ht_Test_c (t : Tree) (st : (List Styled)) (boxes : (List Box)) (offsets : (List Offset)) (p : Point) {r : (List Int)} (hr : ht_Test t st boxes offsets p = some r) : Con Tryd.prog 13 [.agg [cI t.Root,cI t.Next,.d (.sl (List.map Node.cs t.Nodes))],.c (.d (.sl (List.map Styled.cs st))),.c (.d (.sl (List.map Box.cs boxes))),.c (.d (.sl (List.map Offset.cs offsets))),.agg [cI p.X,cI p.Y]] [] (.s (.c (.d (.sl (List.map (eInt .i64) r))))) []:=by
 unfold ht_Test at hr
 refine Con.of_ok 57 0 [.tmp 10] [(0,.s (.agg [cI t.Root,cI t.Next,.d (.sl (List.map Node.cs t.Nodes))])),(1,.s (.c (.d (.sl (List.map Styled.cs st))))),(2,.s (.c (.d (.sl (List.map Box.cs boxes))))),(3,.s (.c (.d (.sl (List.map Offset.cs offsets))))),(4,.s (.agg [cI p.X,cI p.Y]))] Tryd.func13 rfl rfl rfl rfl rfl rfl rfl rfl fun w g M ρ _=>(Ok.seq (Ok.region (OkOps.m 0 (triBox (j:=0) (cs:=[cI t.Root,cI t.Next,.d (.sl (List.map Node.cs t.Nodes))]) rfl rfl rfl rfl rfl) (OkOps.m 0 (triBox (j:=1) (cs:=[cI p.X,cI p.Y]) rfl rfl rfl rfl rfl) (OkOps.y (.c (.d (.v (.slice none 0 0)))) (OkOps.nil (Ok.seq (Ok.region (OkOps.y (.agg [cI t.Root,cI t.Next,.d (.sl (List.map Node.cs t.Nodes))]) (OkOps.y (.c (.d (.sl (List.map Styled.cs st)))) (OkOps.y (.c (.d (.sl (List.map Box.cs boxes)))) (OkOps.y (.c (.d (.sl (List.map Offset.cs offsets)))) ?_))))))))))))
 obtain ⟨x1,hx1,hr⟩:=bind_some hr
 rcases Bool.eq_false_or_eq_true x1.2 with hbx1 | hbx1
 have hr:=selT hbx1 hr
 refine OkOps.m 0 (triCall (tau [(7,3)]) (.tup [.c (.loc 3 0),aB true]) [(3,.blk [cI x1.1.root,.d (.mp true (encM (kInt .i64) Node.cs x1.1.nodes)),.d (.mp true (encM (kInt .i64) (eArr 22 (dInt .i64)) x1.1.styles)),.d (.mp true (encM (kInt .i64) Box.cs x1.1.boxes)),.d (.mp false (encM (kInt .i64) (eInt .i64) x1.1.offsets))] 91)] (ht_look_ct _ _ _ _ hx1 hbx1) rfl ⟨.inl rfl,.inl rfl,.inl rfl,.inl rfl,trivial⟩ trivial entry28 trivial rfl rfl rfl rfl ⟨rfl,trivial⟩ rfl rfl rfl) (OkOps.q (triMv (v:=.tup [.c (.loc 3 0),aB true]) rfl rfl) (OkOps.y (.c (.loc 3 0)) (OkOps.y (aB true) (OkOps.y (.c (.loc 3 0)) (OkOps.y (aB true) (OkOps.nil (Ok.seq (Ok.seq (Ok.region (OkOps.y (aB true) (OkOps.y (aB (!true)) (OkOps.y (aB (!true)) (OkOps.q (triQG (x:=.agg [cI p.X,cI p.Y]) rfl rfl trivial rfl) ?_)))))))))))))
 obtain ⟨x2,hx2,hr⟩:=bind_some hr
 refine OkOps.q (triCallG (x:=aB x2) (fun hg=>ht_valid_c _ (gO_t hx2 hg)) rfl rfl ⟨.inl rfl,trivial⟩ ⟨fun h=>h,trivial⟩ entry29 rfl rfl rfl) (OkOps.q (triQG (x:=aB (!x2)) rfl rfl ⟨fun h=>h,trivial⟩ rfl) ?_)
 refine OkOps.q (triOr rfl rfl (fun h=>by rw [h];rfl) rfl) ?_
 refine OkOps.nil ?_
 refine Ok.cond (b:=(!true) || (!x2)) rfl (fun h3=>?_) (fun h3=>?_)
 have hr:=selT h3 hr
 refine Ok.seq (Ok.region (OkOps.y (.c (.d (.v (.slice none 0 0)))) (OkOps.nil (Ok.ret ?_))))
 obtain rfl:=Option.some.inj hr
 exact ⟨_,rfl,.inr rfl,trivial⟩
 have hr:=selF h3 hr
 refine Ok.skip (Ok.seq (Ok.regionD (by kernel_rfl) (OkD.x (.c (.loc 3 0)) rfl trivial rfl (OkD.x (.c (.loc 3 0)) rfl trivial rfl (OkD.x (.c (.loc 3 3)) rfl trivial rfl (OkD.x (.c (.d (.mp true (encM (kInt .i64) Box.cs x1.1.boxes)))) rfl trivial rfl (OkD.x (.c (.loc 3 0)) rfl trivial rfl (OkD.x (.c (.loc 3 0)) rfl trivial rfl (OkD.x (.c (.loc 3 0)) rfl trivial rfl (OkD.x (aI x1.1.root) rfl trivial rfl ?_))))))))))
 obtain ⟨x4,hx4,hr⟩:=bind_some hr
 refine OkD.q (triLookT (agg:=true) (ek:=(kInt .i64)) (ev:=Box.cs) (L:=x1.1.boxes) (r:=.agg [cI x4.1.ID,cI x4.1.Rect.X,cI x4.1.Rect.Y,cI x4.1.Rect.W,cI x4.1.Rect.H,cI x4.1.Baseline,.d (.sl (List.map Line.cs x4.1.Lines))]) hx4 rfl rfl rfl (keyInt Tryd.underlying3) rfl rfl (fun h=>by cases h) rfl trivial rfl) ?_
 refine OkD.q (triMv (v:=.tup [.agg [cI x4.1.ID,cI x4.1.Rect.X,cI x4.1.Rect.Y,cI x4.1.Rect.W,cI x4.1.Rect.H,cI x4.1.Baseline,.d (.sl (List.map Line.cs x4.1.Lines))],aB x4.2]) rfl rfl) (OkD.x (.agg [cI x4.1.ID,cI x4.1.Rect.X,cI x4.1.Rect.Y,cI x4.1.Rect.W,cI x4.1.Rect.H,cI x4.1.Baseline,.d (.sl (List.map Line.cs x4.1.Lines))]) rfl trivial rfl (OkD.x (aB x4.2) rfl trivial rfl (OkD.m 0 (triAlloc (j:=4) (cs:=[cI 0,cI 0,cI 0,cI 0,cI 0,cI 0,.d (.v (.slice none 0 0))]) rfl rfl rfl rfl) (OkD.w (triStore (cs':=[cI x4.1.ID,cI x4.1.Rect.X,cI x4.1.Rect.Y,cI x4.1.Rect.W,cI x4.1.Rect.H,cI x4.1.Baseline,.d (.sl (List.map Line.cs x4.1.Lines))]) rfl rfl rfl rfl rfl rfl rfl rfl rfl) (OkD.x (aB x4.2) rfl trivial rfl (OkD.nil (by kernel_rfl) (Ok.seq (Ok.seq (Ok.region (OkOps.y (aB x4.2) (OkOps.y (aB (!x4.2)) (OkOps.nil ?_))))))))))))
 refine Ok.cond (b:=!x4.2) rfl (fun h5=>?_) (fun h5=>?_)
 have hr:=selT h5 hr
 refine Ok.seq (Ok.region (OkOps.y (.c (.d (.v (.slice none 0 0)))) (OkOps.nil (Ok.ret ?_))))
 obtain rfl:=Option.some.inj hr
 exact ⟨_,rfl,.inr rfl,trivial⟩
 have hr:=selF h5 hr
 refine Ok.skip (Ok.seq (Ok.regionD (by kernel_rfl) (OkD.x (.c (.loc 3 0)) rfl trivial rfl (OkD.x (.c (.loc 3 0)) rfl trivial rfl (OkD.x (.c (.loc 3 0)) rfl trivial rfl (OkD.x (.c (.loc 3 0)) rfl trivial rfl (OkD.x (aI x1.1.root) rfl trivial rfl (OkD.x (.c (.loc 4 1)) rfl trivial rfl (OkD.x (.c (.loc 4 1)) rfl trivial rfl (OkD.x (aI x4.1.Rect.X) rfl trivial rfl (OkD.x (.c (.loc 4 1)) rfl trivial rfl (OkD.x (.c (.loc 4 2)) rfl trivial rfl (OkD.x (aI x4.1.Rect.Y) rfl trivial rfl (OkD.x (.agg [cI x4.1.Rect.X,cI x4.1.Rect.Y]) rfl trivial rfl (OkD.x (.agg [cI p.X,cI p.Y]) rfl trivial rfl ?_)))))))))))))))
 obtain ⟨x6,hx6,hr⟩:=bind_some hr
 refine OkD.q (TriL.keep (triCall (tau [(0,3)]) (.s (.c (.d (.sl (List.map (eInt .i64) x6))))) [(3,.blk [cI x1.1.root,.d (.mp true (encM (kInt .i64) Node.cs x1.1.nodes)),.d (.mp true (encM (kInt .i64) (eArr 22 (dInt .i64)) x1.1.styles)),.d (.mp true (encM (kInt .i64) Box.cs x1.1.boxes)),.d (.mp false (encM (kInt .i64) (eInt .i64) x1.1.offsets))] 91)] (ht_scene_hits_c _ _ _ _ _ hx6) rfl ⟨.inl rfl,.inl rfl,.inl rfl,.inl rfl,trivial⟩ trivial entry30 ⟨rfl,trivial⟩ rfl rfl rfl rfl trivial rfl rfl rfl) ⟨rfl,trivial⟩) (OkD.x (.c (.d (.sl (List.map (eInt .i64) x6)))) rfl trivial rfl (OkD.nil (by kernel_rfl) (Ok.ret ?_)))
 obtain rfl:=Option.some.inj hr
 exact ⟨_,rfl,.inl rfl,trivial⟩
 have hr:=selF hbx1 hr
 refine OkOps.q (triCl (tau []) (.tup [.c (.d (.v (.pointer none))),aB false]) [] (ht_look_cf _ _ _ _ hx1 hbx1) rfl ⟨.inl rfl,.inl rfl,.inl rfl,.inl rfl,trivial⟩ trivial entry28 trivial) (OkOps.q (triMv (v:=.tup [.c (.d (.v (.pointer none))),aB false]) rfl rfl) (OkOps.y (.c (.d (.v (.pointer none)))) (OkOps.y (aB false) (OkOps.y (.c (.d (.v (.pointer none)))) (OkOps.y (aB false) (OkOps.nil (Ok.seq (Ok.seq (Ok.region (OkOps.y (aB false) (OkOps.y (aB (!false)) (OkOps.y (aB (!false)) (OkOps.q (triQG (x:=.agg [cI p.X,cI p.Y]) rfl rfl trivial rfl) ?_)))))))))))))
 obtain ⟨x2,hx2,hr⟩:=bind_some hr
 refine OkOps.q (triCallG (x:=aB x2) (fun hg=>ht_valid_c _ (gO_t hx2 hg)) rfl rfl ⟨.inl rfl,trivial⟩ ⟨fun h=>h,trivial⟩ entry29 rfl rfl rfl) (OkOps.q (triQG (x:=aB (!x2)) rfl rfl ⟨fun h=>h,trivial⟩ rfl) ?_)
 refine OkOps.q (triOr rfl rfl (fun h=>by rw [h];rfl) rfl) ?_
 refine OkOps.nil ?_
 refine Ok.cond (b:=(!false) || (!x2)) rfl (fun _=>?_) (fun h=>by cases h)
 refine Ok.seq (Ok.region (OkOps.y (.c (.d (.v (.slice none 0 0)))) (OkOps.nil (Ok.ret ?_))))
 obtain rfl:=Option.some.inj hr
 exact ⟨_,rfl,.inr rfl,trivial⟩
end Go.Proofs.YtfoigppmcelgfaaDoor
end
section
set_option maxRecDepth 100000
namespace Go.Proofs.YtfoigppmcelgfaaDoor
open Go Go.E2
theorem r11_join_B_c (self0 : AType → AType → Option (AType × Bool)) (hself0 : ∀ (a : AType) (b : AType) {r : AType × Bool},self0 a b = some r → Con Tryd.prog 121 [.agg [cI a.Kind,.d (.sl (List.map AType.cs a.Of))],.agg [cI b.Kind,.d (.sl (List.map AType.cs b.Of))]] [] (.tup [.agg [cI r.1.Kind,.d (.sl (List.map AType.cs r.1.Of))],aB r.2]) []) (a : AType) (b : AType) {r : AType × Bool} (hr : r11_join_B self0 a b = some r) : Con Tryd.prog 121 [.agg [cI a.Kind,.d (.sl (List.map AType.cs a.Of))],.agg [cI b.Kind,.d (.sl (List.map AType.cs b.Of))]] [] (.tup [.agg [cI r.1.Kind,.d (.sl (List.map AType.cs r.1.Of))],aB r.2]) []:=by
 unfold r11_join_B at hr
 refine Con.of_ok 44 0 [.cell 4 182,.tmp 5] [(0,.s (.agg [cI a.Kind,.d (.sl (List.map AType.cs a.Of))])),(1,.s (.agg [cI b.Kind,.d (.sl (List.map AType.cs b.Of))]))] Tryd.func121 rfl rfl rfl rfl rfl rfl rfl rfl fun w g M ρ _=>(Ok.seq (Ok.region (OkOps.m 0 (triBox (j:=0) (cs:=[cI a.Kind,.d (.sl (List.map AType.cs a.Of))]) rfl rfl rfl rfl rfl) (OkOps.m 0 (triBox (j:=1) (cs:=[cI b.Kind,.d (.sl (List.map AType.cs b.Of))]) rfl rfl rfl rfl rfl) (OkOps.m 0 (triAlloc (j:=2) (cs:=[cI 0,.d (.v (.slice none 0 0))]) rfl rfl rfl rfl) (OkOps.y (aB false) (OkOps.nil (Ok.seq (Ok.seq (Ok.region (OkOps.y (.c (.loc 0 0)) (OkOps.y (aI a.Kind) (OkOps.y (.c (.loc 1 0)) (OkOps.y (aI b.Kind) (OkOps.y (aB (a.Kind != b.Kind)) ?_)))))))))))))))
 refine OkOps.nil ?_
 refine Ok.cond (b:=a.Kind != b.Kind) rfl (fun h1=>?_) (fun h1=>?_)
 have hr:=selT h1 hr
 refine Ok.seq (Ok.region (OkOps.y (.agg [cI 0,.d (.v (.slice none 0 0))]) (OkOps.w (triStore (cs':=[cI 0,.d (.v (.slice none 0 0))]) rfl rfl rfl rfl rfl rfl rfl rfl rfl) (OkOps.y (aB false) (OkOps.nil (Ok.ret ?_))))))
 obtain rfl:=Option.some.inj hr
 exact ⟨_,rfl,.inr rfl,trivial⟩
 have hr:=selF h1 hr
 refine Ok.skip (Ok.seq (Ok.seq (Ok.region (OkOps.y (.c (.loc 0 1)) (OkOps.y (.c (.d (.sl (List.map AType.cs a.Of)))) (OkOps.q (triLen (enc:=AType.cs) a.Of rfl rfl trivial rfl) (OkOps.y (aB ((a.Of.length : Int) == 0)) (OkOps.nil ?_))))))))
 refine Ok.cond (b:=(a.Of.length : Int) == 0) rfl (fun h2=>?_) (fun h2=>?_)
 have hr:=selT h2 hr
 refine Ok.seq (Ok.region (OkOps.y (.agg [cI b.Kind,.d (.sl (List.map AType.cs b.Of))]) (OkOps.w (triStore (cs':=[cI b.Kind,.d (.sl (List.map AType.cs b.Of))]) rfl rfl rfl rfl rfl rfl rfl rfl rfl) (OkOps.y (aB true) (OkOps.nil (Ok.ret ?_))))))
 obtain rfl:=Option.some.inj hr
 exact ⟨_,rfl,.inl rfl,trivial⟩
 have hr:=selF h2 hr
 refine Ok.skip (Ok.seq (Ok.seq (Ok.region (OkOps.y (.c (.loc 1 1)) (OkOps.y (.c (.d (.sl (List.map AType.cs b.Of)))) (OkOps.q (triLen (enc:=AType.cs) b.Of rfl rfl trivial rfl) (OkOps.y (aB ((b.Of.length : Int) == 0)) (OkOps.nil ?_))))))))
 refine Ok.cond (b:=(b.Of.length : Int) == 0) rfl (fun h3=>?_) (fun h3=>?_)
 have hr:=selT h3 hr
 refine Ok.seq (Ok.region (OkOps.y (.agg [cI a.Kind,.d (.sl (List.map AType.cs a.Of))]) (OkOps.w (triStore (cs':=[cI a.Kind,.d (.sl (List.map AType.cs a.Of))]) rfl rfl rfl rfl rfl rfl rfl rfl rfl) (OkOps.y (aB true) (OkOps.nil (Ok.ret ?_))))))
 obtain rfl:=Option.some.inj hr
 exact ⟨_,rfl,.inl rfl,trivial⟩
 have hr:=selF h3 hr
 refine Ok.skip (Ok.seq (Ok.regionD (by kernel_rfl) (OkD.x (.c (.loc 0 1)) rfl trivial rfl (OkD.x (.c (.d (.sl (List.map AType.cs a.Of)))) rfl trivial rfl ?_))))
 obtain ⟨x4,hx4,hr⟩:=bind_some hr
 refine OkD.q (triIdx (enc:=AType.cs) (L:=a.Of) (row:=[dI x4.Kind,.sl (List.map AType.cs x4.Of)]) hx4 (AType.cs_eq _) rfl rfl rfl (fun x=>by rw [AType.cs_eq];rfl) trivial rfl) ?_
 refine OkD.x (.agg [cI x4.Kind,.d (.sl (List.map AType.cs x4.Of))]) rfl trivial rfl (OkD.x (.c (.loc 1 1)) rfl trivial rfl (OkD.x (.c (.d (.sl (List.map AType.cs b.Of)))) rfl trivial rfl ?_))
 obtain ⟨x5,hx5,hr⟩:=bind_some hr
 refine OkD.q (triIdx (enc:=AType.cs) (L:=b.Of) (row:=[dI x5.Kind,.sl (List.map AType.cs x5.Of)]) hx5 (AType.cs_eq _) rfl rfl rfl (fun x=>by rw [AType.cs_eq];rfl) trivial rfl) ?_
 refine OkD.x (.agg [cI x5.Kind,.d (.sl (List.map AType.cs x5.Of))]) rfl trivial rfl ?_
 obtain ⟨x6,hx6,hr⟩:=bind_some hr
 refine OkD.q (triCl (tau []) (.tup [.agg [cI x6.1.Kind,.d (.sl (List.map AType.cs x6.1.Of))],aB x6.2]) [] (hself0 _ _ hx6) rfl ⟨.inl rfl,.inl rfl,trivial⟩ trivial entry121 trivial) (OkD.q (triMv (v:=.tup [.agg [cI x6.1.Kind,.d (.sl (List.map AType.cs x6.1.Of))],aB x6.2]) rfl rfl) (OkD.x (.agg [cI x6.1.Kind,.d (.sl (List.map AType.cs x6.1.Of))]) rfl trivial rfl (OkD.x (aB x6.2) rfl trivial rfl (OkD.m 0 (triAlloc (j:=3) (cs:=[cI 0,.d (.v (.slice none 0 0))]) rfl rfl rfl rfl) (OkD.w (triStore (cs':=[cI x6.1.Kind,.d (.sl (List.map AType.cs x6.1.Of))]) rfl rfl rfl rfl rfl rfl rfl rfl rfl) (OkD.x (aB x6.2) rfl trivial rfl (OkD.nil (by kernel_rfl) (Ok.seq (Ok.seq (Ok.region (OkOps.y (aB x6.2) (OkOps.y (aB (!x6.2)) (OkOps.nil ?_)))))))))))))
 refine Ok.cond (b:=!x6.2) rfl (fun h7=>?_) (fun h7=>?_)
 have hr:=selT h7 hr
 refine Ok.seq (Ok.region (OkOps.y (.agg [cI 0,.d (.v (.slice none 0 0))]) (OkOps.w (triStore (cs':=[cI 0,.d (.v (.slice none 0 0))]) rfl rfl rfl rfl rfl rfl rfl rfl rfl) (OkOps.y (aB false) (OkOps.nil (Ok.ret ?_))))))
 obtain rfl:=Option.some.inj hr
 exact ⟨_,rfl,.inr rfl,trivial⟩
 have hr:=selF h7 hr
 refine Ok.skip (Ok.seq (Ok.region (OkOps.y (.c (.loc 0 0)) (OkOps.y (aI a.Kind) (OkOps.y (.agg [cI x6.1.Kind,.d (.sl (List.map AType.cs x6.1.Of))]) ?_)))))
 refine OkOps.m 0 (triBST (sz:=2) (enc:=AType.cs) (j:=4) ([x6.1]) rfl rfl rfl rfl rfl (rows:=[[dI x6.1.Kind,.sl (List.map AType.cs x6.1.Of)]]) (by simp only [List.map,AType.cs_eq]) rfl rfl (fun x=>by rw [AType.cs_eq];rfl) trivial rfl rfl) ?_
 refine OkOps.y (.agg [cI a.Kind,.tl 4 (List.map AType.cs ([x6.1]))]) (OkOps.w (triStore (cs':=[cI a.Kind,.tl 4 (List.map AType.cs ([x6.1]))]) rfl rfl rfl rfl rfl rfl rfl rfl rfl) (OkOps.y (aB true) (OkOps.nil (Ok.ret ?_))))
 obtain rfl:=Option.some.inj hr
 exact ⟨_,rfl,.inr rfl,trivial⟩
theorem r11_join_all : ∀ n : Nat,(∀ (a : AType) (b : AType) {r : AType × Bool},r11_join n a b = some r → Con Tryd.prog 121 [.agg [cI a.Kind,.d (.sl (List.map AType.cs a.Of))],.agg [cI b.Kind,.d (.sl (List.map AType.cs b.Of))]] [] (.tup [.agg [cI r.1.Kind,.d (.sl (List.map AType.cs r.1.Of))],aB r.2]) []) ∧ True:=by
 intro n
 induction n with
 | zero=>exact ⟨(by intros;rename_i hr;cases hr),trivial⟩
 | succ n ih=>exact ⟨(by intros;rename_i hr;exact r11_join_B_c _ ih.1 _ _ hr),trivial⟩
theorem r11_join_c (n : Nat) (a : AType) (b : AType) {r : AType × Bool} (hr : r11_join n a b = some r) : Con Tryd.prog 121 [.agg [cI a.Kind,.d (.sl (List.map AType.cs a.Of))],.agg [cI b.Kind,.d (.sl (List.map AType.cs b.Of))]] [] (.tup [.agg [cI r.1.Kind,.d (.sl (List.map AType.cs r.1.Of))],aB r.2]) []:=(r11_join_all n).1 a b hr
theorem r11_check_B_c (self0 : AValue → Int → Int → Option (AType × Int × Int)) (hself0 : ∀ (v : AValue) (depth : Int) (met : Int) {r : AType × Int × Int},self0 v depth met = some r → Con Tryd.prog 112 [.agg [cI v.Kind,cI v.N,cS v.S,.d (.sl (List.map AValue.cs v.L))],aI depth,aI met] [] (.tup [.agg [cI r.1.Kind,.d (.sl (List.map AType.cs r.1.Of))],aI r.2.1,aI r.2.2]) []) (v : AValue) (depth : Int) (met : Int) {r : AType × Int × Int} (hr : r11_check_B self0 v depth met = some r) : Con Tryd.prog 112 [.agg [cI v.Kind,cI v.N,cS v.S,.d (.sl (List.map AValue.cs v.L))],aI depth,aI met] [] (.tup [.agg [cI r.1.Kind,.d (.sl (List.map AType.cs r.1.Of))],aI r.2.1,aI r.2.2]) []:=by
 unfold r11_check_B at hr
 refine Con.of_ok 184 0 [.cell 6 182,.tmp 7,.tmp 8] [(0,.s (.agg [cI v.Kind,cI v.N,cS v.S,.d (.sl (List.map AValue.cs v.L))])),(1,.s (aI depth)),(2,.s (aI met))] Tryd.func112 rfl rfl rfl rfl rfl rfl rfl rfl fun w g M ρ _=>(Ok.seq (Ok.region (OkOps.m 0 (triBox (j:=0) (cs:=[cI v.Kind,cI v.N,cS v.S,.d (.sl (List.map AValue.cs v.L))]) rfl rfl rfl rfl rfl) (OkOps.m 0 (triAlloc (j:=1) (cs:=[cI 0,.d (.v (.slice none 0 0))]) rfl rfl rfl rfl) (OkOps.y (aI 0) (OkOps.y (aI 0) (OkOps.nil (Ok.seq (Ok.region (OkOps.y (aI met) (OkOps.y (aI (IntKind.i64.wrap (met + 1))) (OkOps.y (aI (IntKind.i64.wrap (met + 1))) (OkOps.nil (Ok.seq (Ok.region ?_)))))))))))))))
 refine OkOps.y (.c (.loc 0 0)) (OkOps.y (aI v.Kind) (OkOps.y (aB (v.Kind == 4)) (OkOps.y (aB (v.Kind == 4)) (OkOps.nil (Ok.seq (Ok.seq (Ok.region (OkOps.y (aB (v.Kind == 4)) (OkOps.y (aB (v.Kind == 4)) (OkOps.q (triQG (x:=aI depth) rfl rfl trivial rfl) (OkOps.q (triQG (x:=aB (decide (depth > 16))) rfl rfl ⟨fun h=>h,trivial⟩ rfl) (OkOps.q (triAnd rfl rfl (fun h=>h) rfl) (OkOps.nil ?_)))))))))))))
 refine Ok.cond (b:=(v.Kind == 4) && (decide (depth > 16))) rfl (fun h1=>?_) (fun h1=>?_)
 have hr:=selT h1 hr
 refine Ok.seq (Ok.region (OkOps.y (.agg [cI 0,.d (.v (.slice none 0 0))]) (OkOps.y (aI (IntKind.i64.wrap (met + 1))) (OkOps.w (triStore (cs':=[cI 0,.d (.v (.slice none 0 0))]) rfl rfl rfl rfl rfl rfl rfl rfl rfl) (OkOps.y (aI (IntKind.i64.wrap (met + 1))) (OkOps.y (aI 8) (OkOps.nil (Ok.ret ?_))))))))
 obtain rfl:=Option.some.inj hr
 exact ⟨_,rfl,.inr rfl,trivial⟩
 have hr:=selF h1 hr
 refine Ok.skip (Ok.seq (Ok.seq (Ok.region (OkOps.y (.c (.loc 0 0)) (OkOps.y (aI v.Kind) (OkOps.y (aB (decide (v.Kind < 1))) (OkOps.y (aB (decide (v.Kind < 1))) (OkOps.q (triQG (x:=.c (.loc 0 0)) rfl rfl trivial rfl) (OkOps.q (triQG (x:=aI v.Kind) rfl rfl ⟨fun h=>h,trivial⟩ rfl) (OkOps.q (triQG (x:=aB (decide (v.Kind > 4))) rfl rfl ⟨fun h=>h,trivial⟩ rfl) ?_))))))))))
 refine OkOps.q (triOr rfl rfl (fun h=>by rw [h];rfl) rfl) ?_
 refine OkOps.y (aB ((decide (v.Kind < 1)) || (decide (v.Kind > 4)))) (OkOps.q (triQG (x:=.c (.loc 0 1)) rfl rfl trivial rfl) (OkOps.q (triQG (x:=aI v.N) rfl rfl ⟨fun h=>h,trivial⟩ rfl) (OkOps.q (triQG (x:=aB (v.N != 0)) rfl rfl ⟨fun h=>h,trivial⟩ rfl) (OkOps.q (triQG (x:=aB (v.N != 0)) rfl rfl ⟨fun h=>h,trivial⟩ rfl) (OkOps.q (triQG (x:=.c (.loc 0 0)) rfl rfl trivial rfl) (OkOps.q (triQG (x:=aI v.Kind) rfl rfl ⟨fun h=>h,trivial⟩ rfl) (OkOps.q (triQG (x:=aB (v.Kind != 1)) rfl rfl ⟨fun h=>h,trivial⟩ rfl) ?_)))))))
 refine OkOps.q (triAndG rfl rfl rfl (fun h=>h) (fun h h2=>by rw [h,h2];rfl) rfl) ?_
 refine OkOps.q (triQG (x:=aB ((v.N != 0) && (v.Kind != 1))) rfl rfl ⟨fun h=>h,trivial⟩ rfl) (OkOps.q (triQG (x:=.c (.loc 0 0)) rfl rfl trivial rfl) (OkOps.q (triQG (x:=aI v.Kind) rfl rfl ⟨fun h=>h,trivial⟩ rfl) (OkOps.q (triQG (x:=aB (v.Kind != 2)) rfl rfl ⟨fun h=>h,trivial⟩ rfl) ?_)))
 refine OkOps.q (triAndG rfl rfl rfl (fun h=>h) (fun h h2=>by rw [h,h2];rfl) rfl) ?_
 refine OkOps.q (triOr rfl rfl (fun h=>by rw [h];rfl) rfl) ?_
 refine OkOps.y (aB (((decide (v.Kind < 1)) || (decide (v.Kind > 4))) || (((v.N != 0) && (v.Kind != 1)) && (v.Kind != 2)))) (OkOps.q (triQG (x:=.c (.loc 0 2)) rfl rfl trivial rfl) (OkOps.q (triQG (x:=aS v.S) rfl rfl ⟨fun h=>h,trivial⟩ rfl) (OkOps.q (triQG (x:=aB (!(v.S.toList == (ByteArray.mk #[]).toList))) rfl rfl ⟨fun h=>h,trivial⟩ rfl) (OkOps.q (triQG (x:=aB (!(v.S.toList == (ByteArray.mk #[]).toList))) rfl rfl ⟨fun h=>h,trivial⟩ rfl) (OkOps.q (triQG (x:=.c (.loc 0 0)) rfl rfl trivial rfl) (OkOps.q (triQG (x:=aI v.Kind) rfl rfl ⟨fun h=>h,trivial⟩ rfl) (OkOps.q (triQG (x:=aB (v.Kind != 3)) rfl rfl ⟨fun h=>h,trivial⟩ rfl) ?_)))))))
 refine OkOps.q (triAndG rfl rfl rfl (fun h=>h) (fun h h2=>by rw [h,h2];rfl) rfl) ?_
 refine OkOps.q (triOr rfl rfl (fun h=>by rw [h];rfl) rfl) ?_
 refine OkOps.y (aB ((((decide (v.Kind < 1)) || (decide (v.Kind > 4))) || (((v.N != 0) && (v.Kind != 1)) && (v.Kind != 2))) || ((!(v.S.toList == (ByteArray.mk #[]).toList)) && (v.Kind != 3)))) (OkOps.q (triQG (x:=.c (.loc 0 3)) rfl rfl trivial rfl) (OkOps.q (triQG (x:=.c (.d (.sl (List.map AValue.cs v.L)))) rfl rfl ⟨fun h=>h,trivial⟩ rfl) (OkOps.q (triLenG (enc:=AValue.cs) v.L rfl rfl rfl ⟨fun h=>h,trivial⟩ rfl) (OkOps.q (triQG (x:=aB (decide ((v.L.length : Int) > 0))) rfl rfl ⟨fun h=>h,trivial⟩ rfl) (OkOps.q (triQG (x:=aB (decide ((v.L.length : Int) > 0))) rfl rfl ⟨fun h=>h,trivial⟩ rfl) (OkOps.q (triQG (x:=aB (v.Kind == 4)) rfl rfl trivial rfl) (OkOps.q (triQG (x:=aB (!(v.Kind == 4))) rfl rfl ⟨fun h=>h,trivial⟩ rfl) ?_)))))))
 refine OkOps.q (triAndG rfl rfl rfl (fun h=>h) (fun h h2=>by rw [h,h2];rfl) rfl) ?_
 refine OkOps.q (triOr rfl rfl (fun h=>by rw [h];rfl) rfl) ?_
 refine OkOps.nil ?_
 refine Ok.cond (b:=((((decide (v.Kind < 1)) || (decide (v.Kind > 4))) || (((v.N != 0) && (v.Kind != 1)) && (v.Kind != 2))) || ((!(v.S.toList == (ByteArray.mk #[]).toList)) && (v.Kind != 3))) || ((decide ((v.L.length : Int) > 0)) && (!(v.Kind == 4)))) rfl (fun h2=>?_) (fun h2=>?_)
 have hr:=selT h2 hr
 refine Ok.seq (Ok.region (OkOps.y (.agg [cI 0,.d (.v (.slice none 0 0))]) (OkOps.y (aI (IntKind.i64.wrap (met + 1))) (OkOps.w (triStore (cs':=[cI 0,.d (.v (.slice none 0 0))]) rfl rfl rfl rfl rfl rfl rfl rfl rfl) (OkOps.y (aI (IntKind.i64.wrap (met + 1))) (OkOps.y (aI 9) (OkOps.nil (Ok.ret ?_))))))))
 obtain rfl:=Option.some.inj hr
 exact ⟨_,rfl,.inr rfl,trivial⟩
 have hr:=selF h2 hr
 refine Ok.skip (Ok.seq (Ok.seq (Ok.region (OkOps.y (.c (.loc 0 0)) (OkOps.y (aI v.Kind) (OkOps.y (aB (v.Kind == 1)) (OkOps.y (aB (v.Kind == 1)) (OkOps.q (triQG (x:=.c (.loc 0 1)) rfl rfl trivial rfl) (OkOps.q (triQG (x:=aI v.N) rfl rfl ⟨fun h=>h,trivial⟩ rfl) (OkOps.q (triQG (x:=aB (decide (v.N < (-1099511627776)))) rfl rfl ⟨fun h=>h,trivial⟩ rfl) (OkOps.q (triQG (x:=aB (decide (v.N < (-1099511627776)))) rfl rfl ⟨fun h=>h,trivial⟩ rfl) (OkOps.q (triQG (x:=.c (.loc 0 1)) rfl rfl trivial rfl) (OkOps.q (triQG (x:=aI v.N) rfl rfl ⟨fun h=>h,trivial⟩ rfl) (OkOps.q (triQG (x:=aB (decide (v.N > 1099511627776))) rfl rfl ⟨fun h=>h,trivial⟩ rfl) ?_))))))))))))))
 refine OkOps.q (triOrG rfl rfl rfl (fun h=>h) (fun h h2=>by rw [h,h2];rfl) rfl) ?_
 refine OkOps.q (triAnd rfl rfl (fun h=>h) rfl) (OkOps.y (aB ((v.Kind == 1) && ((decide (v.N < (-1099511627776))) || (decide (v.N > 1099511627776))))) (OkOps.q (triQG (x:=.c (.loc 0 0)) rfl rfl trivial rfl) (OkOps.q (triQG (x:=aI v.Kind) rfl rfl ⟨fun h=>h,trivial⟩ rfl) (OkOps.q (triQG (x:=aB (v.Kind == 2)) rfl rfl ⟨fun h=>h,trivial⟩ rfl) (OkOps.q (triQG (x:=aB (v.Kind == 2)) rfl rfl ⟨fun h=>h,trivial⟩ rfl) (OkOps.q (triQG (x:=.c (.loc 0 1)) rfl rfl trivial rfl) (OkOps.q (triQG (x:=aI v.N) rfl rfl ⟨fun h=>h,trivial⟩ rfl) (OkOps.q (triQG (x:=aB (v.N != 0)) rfl rfl ⟨fun h=>h,trivial⟩ rfl) ?_))))))))
 refine OkOps.q (triAndG rfl rfl rfl (fun h=>h) (fun h h2=>by rw [h,h2];rfl) rfl) ?_
 refine OkOps.q (triQG (x:=aB ((v.Kind == 2) && (v.N != 0))) rfl rfl ⟨fun h=>h,trivial⟩ rfl) (OkOps.q (triQG (x:=.c (.loc 0 1)) rfl rfl trivial rfl) (OkOps.q (triQG (x:=aI v.N) rfl rfl ⟨fun h=>h,trivial⟩ rfl) (OkOps.q (triQG (x:=aB (v.N != 1)) rfl rfl ⟨fun h=>h,trivial⟩ rfl) ?_)))
 refine OkOps.q (triAndG rfl rfl rfl (fun h=>h) (fun h h2=>by rw [h,h2];rfl) rfl) ?_
 refine OkOps.q (triOr rfl rfl (fun h=>by rw [h];rfl) rfl) ?_
 refine OkOps.nil ?_
 refine Ok.cond (b:=((v.Kind == 1) && ((decide (v.N < (-1099511627776))) || (decide (v.N > 1099511627776)))) || (((v.Kind == 2) && (v.N != 0)) && (v.N != 1))) rfl (fun h3=>?_) (fun h3=>?_)
 have hr:=selT h3 hr
 refine Ok.seq (Ok.region (OkOps.y (.agg [cI 0,.d (.v (.slice none 0 0))]) (OkOps.y (aI (IntKind.i64.wrap (met + 1))) (OkOps.w (triStore (cs':=[cI 0,.d (.v (.slice none 0 0))]) rfl rfl rfl rfl rfl rfl rfl rfl rfl) (OkOps.y (aI (IntKind.i64.wrap (met + 1))) (OkOps.y (aI 1) (OkOps.nil (Ok.ret ?_))))))))
 obtain rfl:=Option.some.inj hr
 exact ⟨_,rfl,.inr rfl,trivial⟩
 have hr:=selF h3 hr
 refine Ok.skip (Ok.seq (Ok.seq (Ok.region (OkOps.y (.c (.loc 0 2)) (OkOps.y (aS v.S) (OkOps.y (aI (v.S.size : Int)) (OkOps.y (aB (decide ((v.S.size : Int) > 2000))) (OkOps.y (aB (decide ((v.S.size : Int) > 2000))) (OkOps.q (triQG (x:=.c (.loc 0 3)) rfl rfl trivial rfl) (OkOps.q (triQG (x:=.c (.d (.sl (List.map AValue.cs v.L)))) rfl rfl ⟨fun h=>h,trivial⟩ rfl) (OkOps.q (triLenG (enc:=AValue.cs) v.L rfl rfl rfl ⟨fun h=>h,trivial⟩ rfl) (OkOps.q (triQG (x:=aB (decide ((v.L.length : Int) > 100))) rfl rfl ⟨fun h=>h,trivial⟩ rfl) ?_))))))))))))
 refine OkOps.q (triOr rfl rfl (fun h=>by rw [h];rfl) rfl) ?_
 refine OkOps.y (aB ((decide ((v.S.size : Int) > 2000)) || (decide ((v.L.length : Int) > 100)))) (OkOps.q (triQG (x:=aI (IntKind.i64.wrap (met + 1))) rfl rfl trivial rfl) (OkOps.q (triQG (x:=aB (decide ((IntKind.i64.wrap (met + 1)) > 1000))) rfl rfl ⟨fun h=>h,trivial⟩ rfl) ?_))
 refine OkOps.q (triOr rfl rfl (fun h=>by rw [h];rfl) rfl) ?_
 refine OkOps.nil ?_
 refine Ok.cond (b:=((decide ((v.S.size : Int) > 2000)) || (decide ((v.L.length : Int) > 100))) || (decide ((IntKind.i64.wrap (met + 1)) > 1000))) rfl (fun h4=>?_) (fun h4=>?_)
 have hr:=selT h4 hr
 refine Ok.seq (Ok.region (OkOps.y (.agg [cI 0,.d (.v (.slice none 0 0))]) (OkOps.y (aI (IntKind.i64.wrap (met + 1))) (OkOps.w (triStore (cs':=[cI 0,.d (.v (.slice none 0 0))]) rfl rfl rfl rfl rfl rfl rfl rfl rfl) (OkOps.y (aI (IntKind.i64.wrap (met + 1))) (OkOps.y (aI 2) (OkOps.nil (Ok.ret ?_))))))))
 obtain rfl:=Option.some.inj hr
 exact ⟨_,rfl,.inr rfl,trivial⟩
 have hr:=selF h4 hr
 refine Ok.skip (Ok.seq (Ok.seq (Ok.region (OkOps.y (.c (.loc 0 2)) (OkOps.y (aS v.S) ?_)))))
 obtain ⟨x5,hx5,hr⟩:=bind_some hr
 refine OkOps.q (triCl (tau []) (.s (aB x5)) [] (r11_UTF8_c _ hx5) rfl ⟨.inl rfl,trivial⟩ trivial entry120 trivial) (OkOps.y (aB (!x5)) (OkOps.nil ?_))
 refine Ok.cond (b:=!x5) rfl (fun h6=>?_) (fun h6=>?_)
 have hr:=selT h6 hr
 refine Ok.seq (Ok.region (OkOps.y (.agg [cI 0,.d (.v (.slice none 0 0))]) (OkOps.y (aI (IntKind.i64.wrap (met + 1))) (OkOps.w (triStore (cs':=[cI 0,.d (.v (.slice none 0 0))]) rfl rfl rfl rfl rfl rfl rfl rfl rfl) (OkOps.y (aI (IntKind.i64.wrap (met + 1))) (OkOps.y (aI 3) (OkOps.nil (Ok.ret ?_))))))))
 obtain rfl:=Option.some.inj hr
 exact ⟨_,rfl,.inr rfl,trivial⟩
 have hr:=selF h6 hr
 refine Ok.skip (Ok.seq (Ok.region (OkOps.y (.c (.loc 0 0)) (OkOps.y (aI v.Kind) (OkOps.y (.agg [cI v.Kind,.d (.v (.slice none 0 0))]) (OkOps.m 0 (triAlloc (j:=2) (cs:=[cI 0,.d (.v (.slice none 0 0))]) rfl rfl rfl rfl) (OkOps.w (triStore (cs':=[cI v.Kind,.d (.v (.slice none 0 0))]) rfl rfl rfl rfl rfl rfl rfl rfl rfl) (OkOps.nil (Ok.seq (Ok.region (OkOps.y (aB true) (OkOps.nil ?_))))))))))))
 obtain ⟨k8,hk8,hr⟩:=jn_some hr
 refine Ok.join (fun (s7 : Int × Bool × (List AType))=>⟨[(2,.s (aI s7.1)),(6,.s (.c (.loc 1 0))),(10,.s (.c (.loc 2 0))),(11,.s (aB s7.2.1))],[(1,.blk [cI 0,.d (.v (.slice none 0 0))] 182),(2,.blk [cI v.Kind,.tl 1007 (List.map AType.cs s7.2.2)] 182),(1007,.tail 2)],0⟩) k8 r (fun s7 hr=>?_) ?_
 rw [hk8] at hr
 refine Ok.seq (Ok.seq (Ok.region (OkOps.y (aB s7.2.1) (OkOps.y (aB (!s7.2.1)) (OkOps.nil ?_)))))
 refine Ok.cond (b:=!s7.2.1) rfl (fun h9=>?_) (fun h9=>?_)
 have hr:=selT h9 hr
 refine Ok.seq (Ok.region (OkOps.y (.agg [cI 0,.d (.v (.slice none 0 0))]) (OkOps.y (aI s7.1) (OkOps.w (triStore (cs':=[cI 0,.d (.v (.slice none 0 0))]) rfl rfl rfl rfl rfl rfl rfl rfl rfl) (OkOps.y (aI s7.1) (OkOps.y (aI 5) (OkOps.nil (Ok.ret ?_))))))))
 obtain rfl:=Option.some.inj hr
 exact ⟨_,rfl,.inr rfl,trivial⟩
 have hr:=selF h9 hr
 refine Ok.skip (Ok.seq (Ok.region (OkOps.y (.agg [cI v.Kind,.tl 1007 (List.map AType.cs s7.2.2)]) (OkOps.y (aI s7.1) (OkOps.w (triStore (cs':=[cI v.Kind,.tl 1007 (List.map AType.cs s7.2.2)]) rfl rfl rfl rfl rfl rfl rfl rfl rfl) (OkOps.y (aI s7.1) (OkOps.y (aI 0) (OkOps.nil (Ok.ret ?_)))))))))
 obtain rfl:=Option.some.inj hr
 exact ⟨_,rfl,.inr rfl,trivial⟩
 clear hk8
 refine Ok.seq (Ok.region (OkOps.y (aI 0) (OkOps.nil (Ok.block (Ok.loopK (fun (s10 : Int × Bool × Int × (List AType))=>⟨[(1,.s (aI depth)),(2,.s (aI s10.1)),(3,.s (.c (.loc 0 0))),(6,.s (.c (.loc 1 0))),(10,.s (.c (.loc 2 0))),(11,.s (aB s10.2.1)),(12,.s (aI s10.2.2.1))],[(0,.blk [cI v.Kind,cI v.N,cS v.S,.d (.sl (List.map AValue.cs v.L))] 62),(1,.blk [cI 0,.d (.v (.slice none 0 0))] 182),(2,.blk [cI v.Kind,.tl 1011 (List.map AType.cs s10.2.2.2)] 182),(1011,.tail 2)],0⟩) hr (Conv.trans (Conv.nilO 2 1 1014 2 [cI v.Kind,.d (.v (.slice none 0 0))] [cI v.Kind,.tl 1014 (List.map AType.cs ([] : (List AType)))] 182 0 rfl rfl rfl rfl) (Conv.mk (tau [(1011,1014)]) ⟨⟨_,rfl,.inl rfl⟩,⟨_,rfl,.inl rfl⟩,⟨_,rfl,.inl rfl⟩,⟨_,rfl,.inl rfl⟩,⟨_,rfl,.inl rfl⟩,⟨_,rfl,.inl rfl⟩,⟨_,rfl,.inl rfl⟩,trivial⟩ ⟨rfl,rfl,rfl,rfl,trivial⟩ rfl rfl rfl rfl)) ?_)))))
 clear hr
 intro again11 s10 hr
 unfold r11_check_L1 at hr
 refine Ok.seq (Ok.seq (Ok.region (OkOps.y (aI s10.2.2.1) (OkOps.y (.c (.loc 0 3)) (OkOps.y (.c (.d (.sl (List.map AValue.cs v.L)))) (OkOps.q (triLen (enc:=AValue.cs) v.L rfl rfl trivial rfl) (OkOps.y (aB (decide (s10.2.2.1 < (v.L.length : Int)))) (OkOps.nil ?_))))))))
 refine Ok.cond (b:=decide (s10.2.2.1 < (v.L.length : Int))) rfl (fun h12=>?_) (fun h12=>?_)
 have hr:=selT h12 hr
 refine Ok.skip ?_
 obtain ⟨k14,hk14,hr⟩:=jn_some hr
 refine Ok.join (fun (s13 : Int × Bool × (List AType))=>⟨[(1,.s (aI depth)),(2,.s (aI s13.1)),(3,.s (.c (.loc 0 0))),(6,.s (.c (.loc 1 0))),(10,.s (.c (.loc 2 0))),(11,.s (aB s13.2.1)),(12,.s (aI s10.2.2.1))],[(0,.blk [cI v.Kind,cI v.N,cS v.S,.d (.sl (List.map AValue.cs v.L))] 62),(1,.blk [cI 0,.d (.v (.slice none 0 0))] 182),(2,.blk [cI v.Kind,.tl 1015 (List.map AType.cs s13.2.2)] 182),(1015,.tail 2)],0⟩) k14 r (fun s13 hr=>?_) ?_
 rw [hk14] at hr
 refine Ok.region (OkOps.y (aI s10.2.2.1) (OkOps.y (aI (IntKind.i64.wrap (s10.2.2.1 + 1))) (OkOps.y (aI (IntKind.i64.wrap (s10.2.2.1 + 1))) (OkOps.nil ?_))))
 exact ⟨(s13.1,s13.2.1,IntKind.i64.wrap (s10.2.2.1 + 1),s13.2.2),hr,(Conv.mk (tau [(1011,1015)]) ⟨⟨_,rfl,.inl rfl⟩,⟨_,rfl,.inl rfl⟩,⟨_,rfl,.inl rfl⟩,⟨_,rfl,.inl rfl⟩,⟨_,rfl,.inl rfl⟩,⟨_,rfl,.inl rfl⟩,⟨_,rfl,.inl rfl⟩,trivial⟩ ⟨rfl,rfl,rfl,rfl,trivial⟩ rfl rfl rfl rfl)⟩
 clear hk14
 refine Ok.block (Ok.seq (Ok.region (OkOps.y (.c (.loc 0 3)) (OkOps.y (.c (.d (.sl (List.map AValue.cs v.L)))) (OkOps.y (aI s10.2.2.1) ?_)))))
 obtain ⟨x15,hx15,hr⟩:=bind_some hr
 refine OkOps.q (triIdx (enc:=AValue.cs) (L:=v.L) (row:=[dI x15.Kind,dI x15.N,dS x15.S,.sl (List.map AValue.cs x15.L)]) hx15 (AValue.cs_eq _) rfl rfl rfl (fun x=>by rw [AValue.cs_eq];rfl) trivial rfl) ?_
 refine OkOps.y (.agg [cI x15.Kind,cI x15.N,cS x15.S,.d (.sl (List.map AValue.cs x15.L))]) (OkOps.y (aI depth) (OkOps.y (aI (IntKind.i64.wrap (depth + 1))) (OkOps.y (aI s10.1) ?_)))
 obtain ⟨x16,hx16,hr⟩:=bind_some hr
 refine OkOps.q (triCl (tau []) (.tup [.agg [cI x16.1.Kind,.d (.sl (List.map AType.cs x16.1.Of))],aI x16.2.1,aI x16.2.2]) [] (hself0 _ _ _ hx16) rfl ⟨.inl rfl,.inl rfl,.inl rfl,trivial⟩ trivial entry112 trivial) (OkOps.q (triMv (v:=.tup [.agg [cI x16.1.Kind,.d (.sl (List.map AType.cs x16.1.Of))],aI x16.2.1,aI x16.2.2]) rfl rfl) (OkOps.y (.agg [cI x16.1.Kind,.d (.sl (List.map AType.cs x16.1.Of))]) (OkOps.y (aI x16.2.1) (OkOps.y (aI x16.2.2) (OkOps.m 0 (triAlloc (j:=3) (cs:=[cI 0,.d (.v (.slice none 0 0))]) rfl rfl rfl rfl) (OkOps.w (triStore (cs':=[cI x16.1.Kind,.d (.sl (List.map AType.cs x16.1.Of))]) rfl rfl rfl rfl rfl rfl rfl rfl rfl) (OkOps.y (aI x16.2.1) (OkOps.y (aI x16.2.2) (OkOps.nil (Ok.seq (Ok.region (OkOps.y (aI x16.2.1) (OkOps.y (aI x16.2.1) (OkOps.nil (Ok.seq ?_)))))))))))))))
 refine Ok.seq (Ok.region (OkOps.y (aI x16.2.2) (OkOps.y (aB (x16.2.2 != 0)) (OkOps.nil ?_))))
 refine Ok.cond (b:=x16.2.2 != 0) rfl (fun h17=>?_) (fun h17=>?_)
 have hr:=selT h17 hr
 refine Ok.seq (Ok.region (OkOps.y (.agg [cI 0,.d (.v (.slice none 0 0))]) (OkOps.y (aI x16.2.1) (OkOps.y (aI x16.2.2) (OkOps.w (triStore (cs':=[cI 0,.d (.v (.slice none 0 0))]) rfl rfl rfl rfl rfl rfl rfl rfl rfl) (OkOps.y (aI x16.2.1) (OkOps.y (aI x16.2.2) (OkOps.nil (Ok.ret ?_)))))))))
 obtain rfl:=Option.some.inj hr
 exact ⟨_,rfl,.inr rfl,trivial⟩
 have hr:=selF h17 hr
 refine Ok.skip (Ok.seq (Ok.seq (Ok.region (OkOps.y (aB s10.2.1) (OkOps.y (aB (!s10.2.1)) (OkOps.nil ?_))))))
 refine Ok.cond (b:=!s10.2.1) rfl (fun h18=>?_) (fun h18=>?_)
 have hr:=selT h18 hr
 refine Ok.exit ?_
 exact ⟨(x16.2.1,s10.2.1,s10.2.2.2),hr,(Conv.mk (tau [(1015,1011)]) ⟨⟨_,rfl,.inl rfl⟩,⟨_,rfl,.inl rfl⟩,⟨_,rfl,.inl rfl⟩,⟨_,rfl,.inl rfl⟩,⟨_,rfl,.inl rfl⟩,⟨_,rfl,.inl rfl⟩,⟨_,rfl,.inl rfl⟩,trivial⟩ ⟨rfl,rfl,rfl,rfl,trivial⟩ rfl rfl rfl rfl)⟩
 have hr:=selF h18 hr
 refine Ok.skip (Ok.seq (Ok.seq (Ok.region (OkOps.y (.c (.loc 2 1)) (OkOps.y (.c (.tl 1011 (List.map AType.cs s10.2.2.2))) (OkOps.q (triLen (enc:=AType.cs) s10.2.2.2 rfl rfl trivial rfl) (OkOps.y (aB ((s10.2.2.2.length : Int) == 0)) (OkOps.nil ?_))))))))
 refine Ok.cond (b:=(s10.2.2.2.length : Int) == 0) rfl (fun h19=>?_) (fun h19=>?_)
 have hr:=selT h19 hr
 refine Ok.seq (Ok.region (OkOps.y (.agg [cI x16.1.Kind,.d (.sl (List.map AType.cs x16.1.Of))]) ?_))
 refine OkOps.m 0 (triBST (sz:=2) (enc:=AType.cs) (j:=4) ([x16.1]) rfl rfl rfl rfl rfl (rows:=[[dI x16.1.Kind,.sl (List.map AType.cs x16.1.Of)]]) (by simp only [List.map,AType.cs_eq]) rfl rfl (fun x=>by rw [AType.cs_eq];rfl) trivial rfl rfl) ?_
 refine OkOps.y (.c (.loc 2 1)) (OkOps.w (triStore (cs':=[cI v.Kind,.tl 4 (List.map AType.cs ([x16.1]))]) rfl rfl rfl rfl rfl rfl rfl rfl rfl) (OkOps.nil (Ok.exit ?_)))
 exact ⟨(x16.2.1,s10.2.1,[x16.1]),hr,(Conv.mk (tau [(1015,4)]) ⟨⟨_,rfl,.inl rfl⟩,⟨_,rfl,.inl rfl⟩,⟨_,rfl,.inl rfl⟩,⟨_,rfl,.inl rfl⟩,⟨_,rfl,.inl rfl⟩,⟨_,rfl,.inl rfl⟩,⟨_,rfl,.inl rfl⟩,trivial⟩ ⟨rfl,rfl,rfl,rfl,trivial⟩ rfl rfl rfl rfl)⟩
 have hr:=selF h19 hr
 refine Ok.skip (Ok.seq (Ok.regionD (by kernel_rfl) (OkD.x (.c (.loc 2 1)) rfl trivial rfl (OkD.x (.c (.tl 1011 (List.map AType.cs s10.2.2.2))) rfl trivial rfl ?_))))
 obtain ⟨x20,hx20,hr⟩:=bind_some hr
 refine OkD.q (triIdx (enc:=AType.cs) (L:=s10.2.2.2) (row:=[dI x20.Kind,.sl (List.map AType.cs x20.Of)]) hx20 (AType.cs_eq _) rfl rfl rfl (fun x=>by rw [AType.cs_eq];rfl) trivial rfl) ?_
 refine OkD.x (.agg [cI x20.Kind,.d (.sl (List.map AType.cs x20.Of))]) rfl trivial rfl (OkD.x (.agg [cI x16.1.Kind,.d (.sl (List.map AType.cs x16.1.Of))]) rfl trivial rfl ?_)
 obtain ⟨x21,hx21,hr⟩:=bind_some hr
 refine OkD.q (triCl (tau []) (.tup [.agg [cI x21.1.Kind,.d (.sl (List.map AType.cs x21.1.Of))],aB x21.2]) [] (r11_join_c _ _ _ hx21) rfl ⟨.inl rfl,.inl rfl,trivial⟩ trivial entry121 trivial) (OkD.q (triMv (v:=.tup [.agg [cI x21.1.Kind,.d (.sl (List.map AType.cs x21.1.Of))],aB x21.2]) rfl rfl) (OkD.x (.agg [cI x21.1.Kind,.d (.sl (List.map AType.cs x21.1.Of))]) rfl trivial rfl (OkD.x (aB x21.2) rfl trivial rfl (OkD.m 0 (triAlloc (j:=5) (cs:=[cI 0,.d (.v (.slice none 0 0))]) rfl rfl rfl rfl) (OkD.w (triStore (cs':=[cI x21.1.Kind,.d (.sl (List.map AType.cs x21.1.Of))]) rfl rfl rfl rfl rfl rfl rfl rfl rfl) (OkD.x (aB x21.2) rfl trivial rfl (OkD.nil (by kernel_rfl) (Ok.seq (Ok.region (OkOps.y (aB x21.2) (OkOps.y (aB x21.2) (OkOps.nil (Ok.region (OkOps.y (.agg [cI x21.1.Kind,.d (.sl (List.map AType.cs x21.1.Of))]) ?_))))))))))))))
 refine OkOps.m 0 (triBST (sz:=2) (enc:=AType.cs) (j:=6) ([x21.1]) rfl rfl rfl rfl rfl (rows:=[[dI x21.1.Kind,.sl (List.map AType.cs x21.1.Of)]]) (by simp only [List.map,AType.cs_eq]) rfl rfl (fun x=>by rw [AType.cs_eq];rfl) trivial rfl rfl) ?_
 refine OkOps.y (.c (.loc 2 1)) (OkOps.w (triStore (cs':=[cI v.Kind,.tl 6 (List.map AType.cs ([x21.1]))]) rfl rfl rfl rfl rfl rfl rfl rfl rfl) (OkOps.nil ?_))
 exact ⟨(x16.2.1,x21.2,[x21.1]),hr,(Conv.mk (tau [(1015,6)]) ⟨⟨_,rfl,.inl rfl⟩,⟨_,rfl,.inl rfl⟩,⟨_,rfl,.inl rfl⟩,⟨_,rfl,.inl rfl⟩,⟨_,rfl,.inl rfl⟩,⟨_,rfl,.inl rfl⟩,⟨_,rfl,.inl rfl⟩,trivial⟩ ⟨rfl,rfl,rfl,rfl,trivial⟩ rfl rfl rfl rfl)⟩
 have hr:=selF h12 hr
 refine Ok.exit ?_
 exact ⟨(s10.1,s10.2.1,s10.2.2.2),hr,(Conv.mk (tau [(1007,1011)]) ⟨⟨_,rfl,.inl rfl⟩,⟨_,rfl,.inl rfl⟩,⟨_,rfl,.inl rfl⟩,⟨_,rfl,.inl rfl⟩,trivial⟩ ⟨rfl,rfl,rfl,trivial⟩ rfl rfl rfl rfl)⟩
theorem r11_check_all : ∀ n : Nat,(∀ (v : AValue) (depth : Int) (met : Int) {r : AType × Int × Int},r11_check n v depth met = some r → Con Tryd.prog 112 [.agg [cI v.Kind,cI v.N,cS v.S,.d (.sl (List.map AValue.cs v.L))],aI depth,aI met] [] (.tup [.agg [cI r.1.Kind,.d (.sl (List.map AType.cs r.1.Of))],aI r.2.1,aI r.2.2]) []) ∧ True:=by
 intro n
 induction n with
 | zero=>exact ⟨(by intros;rename_i hr;cases hr),trivial⟩
 | succ n ih=>exact ⟨(by intros;rename_i hr;exact r11_check_B_c _ ih.1 _ _ _ hr),trivial⟩
theorem r11_check_c (n : Nat) (v : AValue) (depth : Int) (met : Int) {r : AType × Int × Int} (hr : r11_check n v depth met = some r) : Con Tryd.prog 112 [.agg [cI v.Kind,cI v.N,cS v.S,.d (.sl (List.map AValue.cs v.L))],aI depth,aI met] [] (.tup [.agg [cI r.1.Kind,.d (.sl (List.map AType.cs r.1.Of))],aI r.2.1,aI r.2.2]) []:=(r11_check_all n).1 v depth met hr
theorem r11_TypeOf_c (v : AValue) {r : AType × Int} (hr : r11_TypeOf v = some r) : Con Tryd.prog 100 [.agg [cI v.Kind,cI v.N,cS v.S,.d (.sl (List.map AValue.cs v.L))]] [] (.tup [.agg [cI r.1.Kind,.d (.sl (List.map AType.cs r.1.Of))],aI r.2]) []:=by
 unfold r11_TypeOf at hr
 refine Con.of_ok 15 0 [.cell 2 182,.tmp 3] [(0,.s (.agg [cI v.Kind,cI v.N,cS v.S,.d (.sl (List.map AValue.cs v.L))]))] Tryd.func100 rfl rfl rfl rfl rfl rfl rfl rfl fun w g M ρ _=>(Ok.seq (Ok.region (OkOps.m 0 (triBox (j:=0) (cs:=[cI v.Kind,cI v.N,cS v.S,.d (.sl (List.map AValue.cs v.L))]) rfl rfl rfl rfl rfl) (OkOps.m 0 (triAlloc (j:=1) (cs:=[cI 0,.d (.v (.slice none 0 0))]) rfl rfl rfl rfl) (OkOps.y (aI 0) (OkOps.nil (Ok.seq (Ok.region (OkOps.y (.agg [cI v.Kind,cI v.N,cS v.S,.d (.sl (List.map AValue.cs v.L))]) ?_)))))))))
 obtain ⟨x1,hx1,hr⟩:=bind_some hr
 refine OkOps.q (triCl (tau []) (.tup [.agg [cI x1.1.Kind,.d (.sl (List.map AType.cs x1.1.Of))],aI x1.2.1,aI x1.2.2]) [] (r11_check_c _ _ _ _ hx1) rfl ⟨.inl rfl,.inl rfl,.inl rfl,trivial⟩ trivial entry112 trivial) (OkOps.q (triMv (v:=.tup [.agg [cI x1.1.Kind,.d (.sl (List.map AType.cs x1.1.Of))],aI x1.2.1,aI x1.2.2]) rfl rfl) (OkOps.y (.agg [cI x1.1.Kind,.d (.sl (List.map AType.cs x1.1.Of))]) (OkOps.y (aI x1.2.1) (OkOps.y (aI x1.2.2) (OkOps.m 0 (triAlloc (j:=2) (cs:=[cI 0,.d (.v (.slice none 0 0))]) rfl rfl rfl rfl) (OkOps.w (triStore (cs':=[cI x1.1.Kind,.d (.sl (List.map AType.cs x1.1.Of))]) rfl rfl rfl rfl rfl rfl rfl rfl rfl) (OkOps.y (aI x1.2.1) (OkOps.y (aI x1.2.2) (OkOps.nil (Ok.seq (Ok.region (OkOps.y (.agg [cI x1.1.Kind,.d (.sl (List.map AType.cs x1.1.Of))]) (OkOps.y (aI x1.2.2) (OkOps.w (triStore (cs':=[cI x1.1.Kind,.d (.sl (List.map AType.cs x1.1.Of))]) rfl rfl rfl rfl rfl rfl rfl rfl rfl) (OkOps.y (aI x1.2.2) ?_)))))))))))))))
 refine OkOps.nil (Ok.ret ?_)
 obtain rfl:=Option.some.inj hr
 exact ⟨_,rfl,.inl rfl,trivial⟩
theorem r11_Check_c (v : AValue) {r : Int} (hr : r11_Check v = some r) : Con Tryd.prog 77 [.agg [cI v.Kind,cI v.N,cS v.S,.d (.sl (List.map AValue.cs v.L))]] [] (.s (aI r)) []:=by
 unfold r11_Check at hr
 refine Con.of_ok 11 0 [.tmp 2] [(0,.s (.agg [cI v.Kind,cI v.N,cS v.S,.d (.sl (List.map AValue.cs v.L))]))] Tryd.func77 rfl rfl rfl rfl rfl rfl rfl rfl fun w g M ρ _=>(Ok.seq (Ok.region (OkOps.m 0 (triBox (j:=0) (cs:=[cI v.Kind,cI v.N,cS v.S,.d (.sl (List.map AValue.cs v.L))]) rfl rfl rfl rfl rfl) (OkOps.y (aI 0) (OkOps.nil (Ok.seq (Ok.region (OkOps.y (.agg [cI v.Kind,cI v.N,cS v.S,.d (.sl (List.map AValue.cs v.L))]) ?_))))))))
 obtain ⟨x1,hx1,hr⟩:=bind_some hr
 refine OkOps.q (triCl (tau []) (.tup [.agg [cI x1.1.Kind,.d (.sl (List.map AType.cs x1.1.Of))],aI x1.2]) [] (r11_TypeOf_c _ hx1) rfl ⟨.inl rfl,trivial⟩ trivial entry100 trivial) (OkOps.q (triMv (v:=.tup [.agg [cI x1.1.Kind,.d (.sl (List.map AType.cs x1.1.Of))],aI x1.2]) rfl rfl) (OkOps.y (.agg [cI x1.1.Kind,.d (.sl (List.map AType.cs x1.1.Of))]) (OkOps.y (aI x1.2) (OkOps.m 0 (triAlloc (j:=1) (cs:=[cI 0,.d (.v (.slice none 0 0))]) rfl rfl rfl rfl) (OkOps.w (triStore (cs':=[cI x1.1.Kind,.d (.sl (List.map AType.cs x1.1.Of))]) rfl rfl rfl rfl rfl rfl rfl rfl rfl) (OkOps.y (aI x1.2) (OkOps.nil (Ok.seq (Ok.region (OkOps.y (aI x1.2) (OkOps.y (aI x1.2) (OkOps.nil (Ok.ret ?_)))))))))))))
 obtain rfl:=Option.some.inj hr
 exact ⟨_,rfl,.inl rfl,trivial⟩
end Go.Proofs.YtfoigppmcelgfaaDoor
end
section
set_option maxRecDepth 100000
namespace Go.Proofs.YtfoigppmcelgfaaDoor
open Go Go.E2
theorem r14_validate_B_c (self0 : View → Int → Int → Option (Int × Int)) (hself0 : ∀ (v : View) (depth : Int) (met : Int) {r : Int × Int},self0 v depth met = some r → Con Tryd.prog 49 [.agg [cI v.Kind,cS v.Key,.d (.sl (List.map Attr.cs v.Attrs)),.d (.sl (List.map Action.cs v.Actions)),.d (.sl (List.map View.cs v.Kids))],aI depth,aI met] [] (.tup [aI r.1,aI r.2]) []) (v : View) (depth : Int) (met : Int) {r : Int × Int} (hr : r14_validate_B self0 v depth met = some r) : Con Tryd.prog 49 [.agg [cI v.Kind,cS v.Key,.d (.sl (List.map Attr.cs v.Attrs)),.d (.sl (List.map Action.cs v.Actions)),.d (.sl (List.map View.cs v.Kids))],aI depth,aI met] [] (.tup [aI r.1,aI r.2]) []:=by
 unfold r14_validate_B at hr
 refine Con.of_ok 230 0 [.tmp 6,.tmp 7] [(0,.s (.agg [cI v.Kind,cS v.Key,.d (.sl (List.map Attr.cs v.Attrs)),.d (.sl (List.map Action.cs v.Actions)),.d (.sl (List.map View.cs v.Kids))])),(1,.s (aI depth)),(2,.s (aI met))] Tryd.func49 rfl rfl rfl rfl rfl rfl rfl rfl fun w g M ρ _=>(Ok.seq (Ok.region (OkOps.m 0 (triBox (j:=0) (cs:=[cI v.Kind,cS v.Key,.d (.sl (List.map Attr.cs v.Attrs)),.d (.sl (List.map Action.cs v.Actions)),.d (.sl (List.map View.cs v.Kids))]) rfl rfl rfl rfl rfl) (OkOps.y (aI 0) (OkOps.y (aI 0) (OkOps.nil (Ok.seq (Ok.region (OkOps.y (aI met) (OkOps.y (aI (IntKind.i64.wrap (met + 1))) (OkOps.y (aI (IntKind.i64.wrap (met + 1))) (OkOps.nil (Ok.seq (Ok.seq (Ok.region ?_)))))))))))))))
 refine OkOps.y (aI depth) (OkOps.y (aB (decide (depth > 16))) (OkOps.nil ?_))
 refine Ok.cond (b:=decide (depth > 16)) rfl (fun h1=>?_) (fun h1=>?_)
 have hr:=selT h1 hr
 refine Ok.seq (Ok.region (OkOps.y (aI (IntKind.i64.wrap (met + 1))) (OkOps.y (aI (IntKind.i64.wrap (met + 1))) (OkOps.y (aI 8) (OkOps.nil (Ok.ret ?_))))))
 obtain rfl:=Option.some.inj hr
 exact ⟨_,rfl,.inl rfl,trivial⟩
 have hr:=selF h1 hr
 refine Ok.skip (Ok.seq (Ok.seq (Ok.region (OkOps.y (aI (IntKind.i64.wrap (met + 1))) (OkOps.y (aB (decide ((IntKind.i64.wrap (met + 1)) > 400))) (OkOps.nil ?_))))))
 refine Ok.cond (b:=decide ((IntKind.i64.wrap (met + 1)) > 400)) rfl (fun h2=>?_) (fun h2=>?_)
 have hr:=selT h2 hr
 refine Ok.seq (Ok.region (OkOps.y (aI (IntKind.i64.wrap (met + 1))) (OkOps.y (aI (IntKind.i64.wrap (met + 1))) (OkOps.y (aI 2) (OkOps.nil (Ok.ret ?_))))))
 obtain rfl:=Option.some.inj hr
 exact ⟨_,rfl,.inl rfl,trivial⟩
 have hr:=selF h2 hr
 refine Ok.skip (Ok.seq (Ok.seq (Ok.region (OkOps.y (.c (.loc 0 0)) (OkOps.y (aI v.Kind) (OkOps.y (aB (decide (v.Kind < 1))) (OkOps.y (aB (decide (v.Kind < 1))) (OkOps.q (triQG (x:=.c (.loc 0 0)) rfl rfl trivial rfl) (OkOps.q (triQG (x:=aI v.Kind) rfl rfl ⟨fun h=>h,trivial⟩ rfl) (OkOps.q (triQG (x:=aB (decide (v.Kind > 13))) rfl rfl ⟨fun h=>h,trivial⟩ rfl) ?_))))))))))
 refine OkOps.q (triOr rfl rfl (fun h=>by rw [h];rfl) rfl) ?_
 refine OkOps.nil ?_
 refine Ok.cond (b:=(decide (v.Kind < 1)) || (decide (v.Kind > 13))) rfl (fun h3=>?_) (fun h3=>?_)
 have hr:=selT h3 hr
 refine Ok.seq (Ok.region (OkOps.y (aI (IntKind.i64.wrap (met + 1))) (OkOps.y (aI (IntKind.i64.wrap (met + 1))) (OkOps.y (aI 9) (OkOps.nil (Ok.ret ?_))))))
 obtain rfl:=Option.some.inj hr
 exact ⟨_,rfl,.inl rfl,trivial⟩
 have hr:=selF h3 hr
 refine Ok.skip (Ok.seq (Ok.seq (Ok.region (OkOps.y (.c (.loc 0 1)) (OkOps.y (aS v.Key) ?_)))))
 obtain ⟨x4,hx4,hr⟩:=bind_some hr
 refine OkOps.q (triCl (tau []) (.s (aB x4)) [] (r14_Key_c _ hx4) rfl ⟨.inl rfl,trivial⟩ trivial entry75 trivial) (OkOps.y (aB (!x4)) (OkOps.nil ?_))
 refine Ok.cond (b:=!x4) rfl (fun h5=>?_) (fun h5=>?_)
 have hr:=selT h5 hr
 refine Ok.seq (Ok.region (OkOps.y (aI (IntKind.i64.wrap (met + 1))) (OkOps.y (aI (IntKind.i64.wrap (met + 1))) (OkOps.y (aI 4) (OkOps.nil (Ok.ret ?_))))))
 obtain rfl:=Option.some.inj hr
 exact ⟨_,rfl,.inl rfl,trivial⟩
 have hr:=selF h5 hr
 refine Ok.skip (Ok.seq (Ok.seq (Ok.region (OkOps.y (.c (.loc 0 2)) (OkOps.y (.c (.d (.sl (List.map Attr.cs v.Attrs)))) (OkOps.q (triLen (enc:=Attr.cs) v.Attrs rfl rfl trivial rfl) (OkOps.y (aB (decide ((v.Attrs.length : Int) > 24))) (OkOps.y (aB (decide ((v.Attrs.length : Int) > 24))) (OkOps.q (triQG (x:=.c (.loc 0 3)) rfl rfl trivial rfl) (OkOps.q (triQG (x:=.c (.d (.sl (List.map Action.cs v.Actions)))) rfl rfl ⟨fun h=>h,trivial⟩ rfl) (OkOps.q (triLenG (enc:=Action.cs) v.Actions rfl rfl rfl ⟨fun h=>h,trivial⟩ rfl) (OkOps.q (triQG (x:=aB (decide ((v.Actions.length : Int) > 24))) rfl rfl ⟨fun h=>h,trivial⟩ rfl) ?_))))))))))))
 refine OkOps.q (triOr rfl rfl (fun h=>by rw [h];rfl) rfl) ?_
 refine OkOps.y (aB ((decide ((v.Attrs.length : Int) > 24)) || (decide ((v.Actions.length : Int) > 24)))) (OkOps.q (triQG (x:=.c (.loc 0 4)) rfl rfl trivial rfl) (OkOps.q (triQG (x:=.c (.d (.sl (List.map View.cs v.Kids)))) rfl rfl ⟨fun h=>h,trivial⟩ rfl) (OkOps.q (triLenG (enc:=View.cs) v.Kids rfl rfl rfl ⟨fun h=>h,trivial⟩ rfl) (OkOps.q (triQG (x:=aB (decide ((v.Kids.length : Int) > 100))) rfl rfl ⟨fun h=>h,trivial⟩ rfl) ?_))))
 refine OkOps.q (triOr rfl rfl (fun h=>by rw [h];rfl) rfl) ?_
 refine OkOps.nil ?_
 refine Ok.cond (b:=((decide ((v.Attrs.length : Int) > 24)) || (decide ((v.Actions.length : Int) > 24))) || (decide ((v.Kids.length : Int) > 100))) rfl (fun h6=>?_) (fun h6=>?_)
 have hr:=selT h6 hr
 refine Ok.seq (Ok.region (OkOps.y (aI (IntKind.i64.wrap (met + 1))) (OkOps.y (aI (IntKind.i64.wrap (met + 1))) (OkOps.y (aI 2) (OkOps.nil (Ok.ret ?_))))))
 obtain rfl:=Option.some.inj hr
 exact ⟨_,rfl,.inl rfl,trivial⟩
 have hr:=selF h6 hr
 refine Ok.skip ?_
 obtain ⟨k8,hk8,hr⟩:=jn_some hr
 refine Ok.join (fun (s7 : Unit)=>⟨[(1,.s (aI depth)),(2,.s (aI (IntKind.i64.wrap (met + 1)))),(3,.s (.c (.loc 0 0)))],[(0,.blk [cI v.Kind,cS v.Key,.d (.sl (List.map Attr.cs v.Attrs)),.d (.sl (List.map Action.cs v.Actions)),.d (.sl (List.map View.cs v.Kids))] 29)],0⟩) k8 r (fun s7 hr=>?_) ?_
 rw [hk8] at hr
 obtain ⟨k10,hk10,hr⟩:=jn_some hr
 refine Ok.join (fun (s9 : Unit)=>⟨[(1,.s (aI depth)),(2,.s (aI (IntKind.i64.wrap (met + 1)))),(3,.s (.c (.loc 0 0)))],[(0,.blk [cI v.Kind,cS v.Key,.d (.sl (List.map Attr.cs v.Attrs)),.d (.sl (List.map Action.cs v.Actions)),.d (.sl (List.map View.cs v.Kids))] 29)],0⟩) k10 r (fun s9 hr=>?_) ?_
 rw [hk10] at hr
 obtain ⟨k12,hk12,hr⟩:=jn_some hr
 refine Ok.join (fun (s11 : Unit)=>⟨[(1,.s (aI depth)),(2,.s (aI (IntKind.i64.wrap (met + 1)))),(3,.s (.c (.loc 0 0)))],[(0,.blk [cI v.Kind,cS v.Key,.d (.sl (List.map Attr.cs v.Attrs)),.d (.sl (List.map Action.cs v.Actions)),.d (.sl (List.map View.cs v.Kids))] 29)],0⟩) k12 r (fun s11 hr=>?_) ?_
 rw [hk12] at hr
 obtain ⟨k14,hk14,hr⟩:=jn_some hr
 refine Ok.join (fun (s13 : Int)=>⟨[(2,.s (aI s13))],[],0⟩) k14 r (fun s13 hr=>?_) ?_
 rw [hk14] at hr
 refine Ok.seq (Ok.region (OkOps.y (aI s13) (OkOps.y (aI s13) (OkOps.y (aI 0) (OkOps.nil (Ok.ret ?_))))))
 obtain rfl:=Option.some.inj hr
 exact ⟨_,rfl,.inl rfl,trivial⟩
 clear hk14
 refine Ok.seq (Ok.region (OkOps.y (aI 0) (OkOps.nil (Ok.block (Ok.loopK (fun (s15 : Int × Int)=>⟨[(1,.s (aI depth)),(2,.s (aI s15.1)),(3,.s (.c (.loc 0 0))),(16,.s (aI s15.2))],[(0,.blk [cI v.Kind,cS v.Key,.d (.sl (List.map Attr.cs v.Attrs)),.d (.sl (List.map Action.cs v.Actions)),.d (.sl (List.map View.cs v.Kids))] 29)],0⟩) hr (Conv.mk (tau []) ⟨⟨_,rfl,.inl rfl⟩,⟨_,rfl,.inl rfl⟩,⟨_,rfl,.inl rfl⟩,⟨_,rfl,.inl rfl⟩,trivial⟩ ⟨rfl,trivial⟩ rfl rfl rfl rfl) ?_)))))
 clear hr
 intro again16 s15 hr
 unfold r14_validate_L1 at hr
 refine Ok.seq (Ok.seq (Ok.region (OkOps.y (aI s15.2) (OkOps.y (.c (.loc 0 4)) (OkOps.y (.c (.d (.sl (List.map View.cs v.Kids)))) (OkOps.q (triLen (enc:=View.cs) v.Kids rfl rfl trivial rfl) (OkOps.y (aB (decide (s15.2 < (v.Kids.length : Int)))) (OkOps.nil ?_))))))))
 refine Ok.cond (b:=decide (s15.2 < (v.Kids.length : Int))) rfl (fun h17=>?_) (fun h17=>?_)
 have hr:=selT h17 hr
 refine Ok.skip (Ok.seq (Ok.block (Ok.seq (Ok.region (OkOps.y (.c (.loc 0 4)) (OkOps.y (.c (.d (.sl (List.map View.cs v.Kids)))) (OkOps.y (aI s15.2) ?_)))))))
 obtain ⟨x18,hx18,hr⟩:=bind_some hr
 refine OkOps.q (triIdx (enc:=View.cs) (L:=v.Kids) (row:=[dI x18.Kind,dS x18.Key,.sl (List.map Attr.cs x18.Attrs),.sl (List.map Action.cs x18.Actions),.sl (List.map View.cs x18.Kids)]) hx18 (View.cs_eq _) rfl rfl rfl (fun x=>by rw [View.cs_eq];rfl) trivial rfl) ?_
 refine OkOps.y (.agg [cI x18.Kind,cS x18.Key,.d (.sl (List.map Attr.cs x18.Attrs)),.d (.sl (List.map Action.cs x18.Actions)),.d (.sl (List.map View.cs x18.Kids))]) (OkOps.y (aI depth) (OkOps.y (aI (IntKind.i64.wrap (depth + 1))) (OkOps.y (aI s15.1) ?_)))
 obtain ⟨x19,hx19,hr⟩:=bind_some hr
 refine OkOps.q (triCl (tau []) (.tup [aI x19.1,aI x19.2]) [] (hself0 _ _ _ hx19) rfl ⟨.inl rfl,.inl rfl,.inl rfl,trivial⟩ trivial entry49 trivial) (OkOps.q (triMv (v:=.tup [aI x19.1,aI x19.2]) rfl rfl) (OkOps.y (aI x19.1) (OkOps.y (aI x19.2) (OkOps.y (aI x19.1) (OkOps.y (aI x19.2) (OkOps.nil (Ok.seq (Ok.region (OkOps.y (aI x19.1) (OkOps.y (aI x19.1) (OkOps.nil (Ok.seq (Ok.region (OkOps.y (aI x19.2) (OkOps.y (aB (x19.2 != 0)) ?_)))))))))))))))
 refine OkOps.nil ?_
 refine Ok.cond (b:=x19.2 != 0) rfl (fun h20=>?_) (fun h20=>?_)
 have hr:=selT h20 hr
 refine Ok.seq (Ok.region (OkOps.y (aI x19.1) (OkOps.y (aI x19.2) (OkOps.y (aI x19.1) (OkOps.y (aI x19.2) (OkOps.nil (Ok.ret ?_)))))))
 obtain rfl:=Option.some.inj hr
 exact ⟨_,rfl,.inl rfl,trivial⟩
 have hr:=selF h20 hr
 refine Ok.skip (Ok.region (OkOps.y (aI s15.2) (OkOps.y (aI (IntKind.i64.wrap (s15.2 + 1))) (OkOps.y (aI (IntKind.i64.wrap (s15.2 + 1))) (OkOps.nil ?_)))))
 exact ⟨(x19.1,IntKind.i64.wrap (s15.2 + 1)),hr,(Conv.mk (tau []) ⟨⟨_,rfl,.inl rfl⟩,⟨_,rfl,.inl rfl⟩,⟨_,rfl,.inl rfl⟩,⟨_,rfl,.inl rfl⟩,trivial⟩ ⟨rfl,trivial⟩ rfl rfl rfl rfl)⟩
 have hr:=selF h17 hr
 refine Ok.exit ?_
 exact ⟨s15.1,hr,(Conv.mk (tau []) ⟨⟨_,rfl,.inl rfl⟩,trivial⟩ trivial rfl rfl rfl rfl)⟩
 clear hk12
 refine Ok.seq (Ok.region (OkOps.y (aI 0) (OkOps.nil (Ok.block (Ok.loopK (fun (s21 : Int)=>⟨[(1,.s (aI depth)),(2,.s (aI (IntKind.i64.wrap (met + 1)))),(3,.s (.c (.loc 0 0))),(14,.s (aI s21))],[(0,.blk [cI v.Kind,cS v.Key,.d (.sl (List.map Attr.cs v.Attrs)),.d (.sl (List.map Action.cs v.Actions)),.d (.sl (List.map View.cs v.Kids))] 29)],0⟩) hr (Conv.mk (tau []) ⟨⟨_,rfl,.inl rfl⟩,⟨_,rfl,.inl rfl⟩,⟨_,rfl,.inl rfl⟩,⟨_,rfl,.inl rfl⟩,trivial⟩ ⟨rfl,trivial⟩ rfl rfl rfl rfl) ?_)))))
 clear hr
 intro again22 s21 hr
 unfold r14_validate_L3 at hr
 refine Ok.seq (Ok.seq (Ok.region (OkOps.y (aI s21) (OkOps.y (.c (.loc 0 4)) (OkOps.y (.c (.d (.sl (List.map View.cs v.Kids)))) (OkOps.q (triLen (enc:=View.cs) v.Kids rfl rfl trivial rfl) (OkOps.y (aB (decide (s21 < (v.Kids.length : Int)))) (OkOps.nil ?_))))))))
 refine Ok.cond (b:=decide (s21 < (v.Kids.length : Int))) rfl (fun h23=>?_) (fun h23=>?_)
 have hr:=selT h23 hr
 refine Ok.skip ?_
 obtain ⟨k25,hk25,hr⟩:=jn_some hr
 refine Ok.join (fun (s24 : Unit)=>⟨[(1,.s (aI depth)),(2,.s (aI (IntKind.i64.wrap (met + 1)))),(3,.s (.c (.loc 0 0))),(14,.s (aI s21))],[(0,.blk [cI v.Kind,cS v.Key,.d (.sl (List.map Attr.cs v.Attrs)),.d (.sl (List.map Action.cs v.Actions)),.d (.sl (List.map View.cs v.Kids))] 29)],0⟩) k25 r (fun s24 hr=>?_) ?_
 rw [hk25] at hr
 refine Ok.region (OkOps.y (aI s21) (OkOps.y (aI (IntKind.i64.wrap (s21 + 1))) (OkOps.y (aI (IntKind.i64.wrap (s21 + 1))) (OkOps.nil ?_))))
 exact ⟨IntKind.i64.wrap (s21 + 1),hr,(Conv.mk (tau []) ⟨⟨_,rfl,.inl rfl⟩,⟨_,rfl,.inl rfl⟩,⟨_,rfl,.inl rfl⟩,⟨_,rfl,.inl rfl⟩,trivial⟩ ⟨rfl,trivial⟩ rfl rfl rfl rfl)⟩
 clear hk25
 refine Ok.block (Ok.seq (Ok.region (OkOps.y (aI 0) (OkOps.nil ?_))))
 obtain ⟨k27,hk27,hr⟩:=jn_some hr
 refine Ok.joinEnd (fun (s26 : Unit)=>⟨[(1,.s (aI depth)),(2,.s (aI (IntKind.i64.wrap (met + 1)))),(3,.s (.c (.loc 0 0))),(14,.s (aI s21))],[(0,.blk [cI v.Kind,cS v.Key,.d (.sl (List.map Attr.cs v.Attrs)),.d (.sl (List.map Action.cs v.Actions)),.d (.sl (List.map View.cs v.Kids))] 29)],0⟩) k27 r (fun s26 hr=>?_) ?_
 rw [hk27] at hr
 exact ⟨(),hr,(Conv.mk (tau []) ⟨⟨_,rfl,.inl rfl⟩,⟨_,rfl,.inl rfl⟩,⟨_,rfl,.inl rfl⟩,⟨_,rfl,.inl rfl⟩,trivial⟩ ⟨rfl,trivial⟩ rfl rfl rfl rfl)⟩
 clear hk27
 refine Ok.block (Ok.loopK (fun (s28 : Int)=>⟨[(1,.s (aI depth)),(2,.s (aI (IntKind.i64.wrap (met + 1)))),(3,.s (.c (.loc 0 0))),(14,.s (aI s21)),(15,.s (aI s28))],[(0,.blk [cI v.Kind,cS v.Key,.d (.sl (List.map Attr.cs v.Attrs)),.d (.sl (List.map Action.cs v.Actions)),.d (.sl (List.map View.cs v.Kids))] 29)],0⟩) hr (Conv.mk (tau []) ⟨⟨_,rfl,.inl rfl⟩,⟨_,rfl,.inl rfl⟩,⟨_,rfl,.inl rfl⟩,⟨_,rfl,.inl rfl⟩,⟨_,rfl,.inl rfl⟩,trivial⟩ ⟨rfl,trivial⟩ rfl rfl rfl rfl) ?_)
 clear hr
 intro again29 s28 hr
 unfold r14_validate_L2 at hr
 refine Ok.seq (Ok.seq (Ok.region (OkOps.y (aI s28) (OkOps.y (aI s21) (OkOps.y (aB (decide (s28 < s21))) (OkOps.nil ?_))))))
 refine Ok.cond (b:=decide (s28 < s21)) rfl (fun h30=>?_) (fun h30=>?_)
 have hr:=selT h30 hr
 refine Ok.skip (Ok.seq (Ok.block (Ok.seq (Ok.regionD (by kernel_rfl) (OkD.x (.c (.loc 0 4)) rfl trivial rfl (OkD.x (.c (.d (.sl (List.map View.cs v.Kids)))) rfl trivial rfl (OkD.x (aI s21) rfl trivial rfl ?_)))))))
 obtain ⟨x31,hx31,hr⟩:=bind_some hr
 refine OkD.q (triIdx (enc:=View.cs) (L:=v.Kids) (row:=[dI x31.Kind,dS x31.Key,.sl (List.map Attr.cs x31.Attrs),.sl (List.map Action.cs x31.Actions),.sl (List.map View.cs x31.Kids)]) hx31 (View.cs_eq _) rfl rfl rfl (fun x=>by rw [View.cs_eq];rfl) trivial rfl) ?_
 refine OkD.x (.c (.pt [dS x31.Key,.sl (List.map Attr.cs x31.Attrs),.sl (List.map Action.cs x31.Actions),.sl (List.map View.cs x31.Kids)])) rfl trivial rfl (OkD.x (aS x31.Key) rfl trivial rfl (OkD.x (aB (!(x31.Key.toList == (ByteArray.mk #[]).toList))) rfl trivial rfl (OkD.x (aB (!(x31.Key.toList == (ByteArray.mk #[]).toList))) rfl trivial rfl (OkD.q (triQG (x:=.c (.loc 0 4)) rfl rfl trivial rfl) (OkD.q (triQG (x:=.c (.d (.sl (List.map View.cs v.Kids)))) rfl rfl ⟨fun h=>h,trivial⟩ rfl) (OkD.q (triQG (x:=aI s21) rfl rfl trivial rfl) ?_))))))
 obtain ⟨x32,hx32,hr⟩:=bind_some hr
 refine OkD.q (triIdxG (enc:=View.cs) (L:=v.Kids) (row:=[dI x32.Kind,dS x32.Key,.sl (List.map Attr.cs x32.Attrs),.sl (List.map Action.cs x32.Actions),.sl (List.map View.cs x32.Kids)]) (gO_t hx32) (View.cs_eq _) rfl rfl rfl rfl (fun x=>by rw [View.cs_eq];rfl) ⟨fun h=>h,⟨fun h=>h,trivial⟩⟩ rfl) ?_
 refine OkD.q (triQG (x:=.c (.pt [dS x32.Key,.sl (List.map Attr.cs x32.Attrs),.sl (List.map Action.cs x32.Actions),.sl (List.map View.cs x32.Kids)])) rfl rfl ⟨fun h=>h,trivial⟩ rfl) (OkD.q (triQG (x:=aS x32.Key) rfl rfl ⟨fun h=>h,trivial⟩ rfl) (OkD.q (triQG (x:=.c (.loc 0 4)) rfl rfl trivial rfl) (OkD.q (triQG (x:=.c (.d (.sl (List.map View.cs v.Kids)))) rfl rfl ⟨fun h=>h,trivial⟩ rfl) (OkD.q (triQG (x:=aI s28) rfl rfl trivial rfl) ?_))))
 obtain ⟨x33,hx33,hr⟩:=bind_some hr
 refine OkD.q (triIdxG (enc:=View.cs) (L:=v.Kids) (row:=[dI x33.Kind,dS x33.Key,.sl (List.map Attr.cs x33.Attrs),.sl (List.map Action.cs x33.Actions),.sl (List.map View.cs x33.Kids)]) (gO_t hx33) (View.cs_eq _) rfl rfl rfl rfl (fun x=>by rw [View.cs_eq];rfl) ⟨fun h=>h,⟨fun h=>h,trivial⟩⟩ rfl) ?_
 refine OkD.q (triQG (x:=.c (.pt [dS x33.Key,.sl (List.map Attr.cs x33.Attrs),.sl (List.map Action.cs x33.Actions),.sl (List.map View.cs x33.Kids)])) rfl rfl ⟨fun h=>h,trivial⟩ rfl) (OkD.q (triQG (x:=aS x33.Key) rfl rfl ⟨fun h=>h,trivial⟩ rfl) (OkD.q (triQG (x:=aB (x32.Key.toList == x33.Key.toList)) rfl rfl ⟨fun h=>h,⟨fun h=>h,trivial⟩⟩ rfl) (OkD.q (triAnd rfl rfl (fun h=>h) rfl) (OkD.nil (by kernel_rfl) ?_))))
 refine Ok.cond (b:=(!(x31.Key.toList == (ByteArray.mk #[]).toList)) && (x32.Key.toList == x33.Key.toList)) rfl (fun h34=>?_) (fun h34=>?_)
 have hr:=selT h34 hr
 refine Ok.seq (Ok.region (OkOps.y (aI (IntKind.i64.wrap (met + 1))) (OkOps.y (aI (IntKind.i64.wrap (met + 1))) (OkOps.y (aI 6) (OkOps.nil (Ok.ret ?_))))))
 obtain rfl:=Option.some.inj hr
 exact ⟨_,rfl,.inl rfl,trivial⟩
 have hr:=selF h34 hr
 refine Ok.skip (Ok.region (OkOps.y (aI s28) (OkOps.y (aI (IntKind.i64.wrap (s28 + 1))) (OkOps.y (aI (IntKind.i64.wrap (s28 + 1))) (OkOps.nil ?_)))))
 exact ⟨IntKind.i64.wrap (s28 + 1),hr,(Conv.mk (tau []) ⟨⟨_,rfl,.inl rfl⟩,⟨_,rfl,.inl rfl⟩,⟨_,rfl,.inl rfl⟩,⟨_,rfl,.inl rfl⟩,⟨_,rfl,.inl rfl⟩,trivial⟩ ⟨rfl,trivial⟩ rfl rfl rfl rfl)⟩
 have hr:=selF h30 hr
 refine Ok.exit ?_
 exact ⟨(),hr,(Conv.mk (tau []) ⟨⟨_,rfl,.inl rfl⟩,⟨_,rfl,.inl rfl⟩,⟨_,rfl,.inl rfl⟩,⟨_,rfl,.inl rfl⟩,trivial⟩ ⟨rfl,trivial⟩ rfl rfl rfl rfl)⟩
 have hr:=selF h23 hr
 refine Ok.exit ?_
 exact ⟨(),hr,(Conv.mk (tau []) ⟨⟨_,rfl,.inl rfl⟩,⟨_,rfl,.inl rfl⟩,⟨_,rfl,.inl rfl⟩,trivial⟩ ⟨rfl,trivial⟩ rfl rfl rfl rfl)⟩
 clear hk10
 refine Ok.seq (Ok.region (OkOps.y (aI 0) (OkOps.nil (Ok.block (Ok.loopK (fun (s35 : Int)=>⟨[(1,.s (aI depth)),(2,.s (aI (IntKind.i64.wrap (met + 1)))),(3,.s (.c (.loc 0 0))),(10,.s (aI s35))],[(0,.blk [cI v.Kind,cS v.Key,.d (.sl (List.map Attr.cs v.Attrs)),.d (.sl (List.map Action.cs v.Actions)),.d (.sl (List.map View.cs v.Kids))] 29)],0⟩) hr (Conv.mk (tau []) ⟨⟨_,rfl,.inl rfl⟩,⟨_,rfl,.inl rfl⟩,⟨_,rfl,.inl rfl⟩,⟨_,rfl,.inl rfl⟩,trivial⟩ ⟨rfl,trivial⟩ rfl rfl rfl rfl) ?_)))))
 clear hr
 intro again36 s35 hr
 unfold r14_validate_L5 at hr
 refine Ok.seq (Ok.seq (Ok.region (OkOps.y (aI s35) (OkOps.y (.c (.loc 0 3)) (OkOps.y (.c (.d (.sl (List.map Action.cs v.Actions)))) (OkOps.q (triLen (enc:=Action.cs) v.Actions rfl rfl trivial rfl) (OkOps.y (aB (decide (s35 < (v.Actions.length : Int)))) (OkOps.nil ?_))))))))
 refine Ok.cond (b:=decide (s35 < (v.Actions.length : Int))) rfl (fun h37=>?_) (fun h37=>?_)
 have hr:=selT h37 hr
 refine Ok.skip ?_
 obtain ⟨k39,hk39,hr⟩:=jn_some hr
 refine Ok.join (fun (s38 : Unit)=>⟨[(1,.s (aI depth)),(2,.s (aI (IntKind.i64.wrap (met + 1)))),(3,.s (.c (.loc 0 0))),(10,.s (aI s35))],[(0,.blk [cI v.Kind,cS v.Key,.d (.sl (List.map Attr.cs v.Attrs)),.d (.sl (List.map Action.cs v.Actions)),.d (.sl (List.map View.cs v.Kids))] 29)],0⟩) k39 r (fun s38 hr=>?_) ?_
 rw [hk39] at hr
 refine Ok.region (OkOps.y (aI s35) (OkOps.y (aI (IntKind.i64.wrap (s35 + 1))) (OkOps.y (aI (IntKind.i64.wrap (s35 + 1))) (OkOps.nil ?_))))
 exact ⟨IntKind.i64.wrap (s35 + 1),hr,(Conv.mk (tau []) ⟨⟨_,rfl,.inl rfl⟩,⟨_,rfl,.inl rfl⟩,⟨_,rfl,.inl rfl⟩,⟨_,rfl,.inl rfl⟩,trivial⟩ ⟨rfl,trivial⟩ rfl rfl rfl rfl)⟩
 clear hk39
 refine Ok.block (Ok.seq (Ok.region (OkOps.y (.c (.loc 0 3)) (OkOps.y (.c (.d (.sl (List.map Action.cs v.Actions)))) (OkOps.y (aI s35) ?_)))))
 obtain ⟨x40,hx40,hr⟩:=bind_some hr
 refine OkOps.q (triIdx (enc:=Action.cs) (L:=v.Actions) (row:=[dS x40.Event,dS x40.Instance,dS x40.Handler,.sl (List.map AValue.cs x40.Args)]) hx40 rfl rfl rfl rfl (fun _=>rfl) trivial rfl) (OkOps.y (.agg [cS x40.Event,cS x40.Instance,cS x40.Handler,.d (.sl (List.map AValue.cs x40.Args))]) (OkOps.m 0 (triAlloc (j:=1) (cs:=[cS ByteArray.empty,cS ByteArray.empty,cS ByteArray.empty,.d (.v (.slice none 0 0))]) rfl rfl rfl rfl) (OkOps.w (triStore (cs':=[cS x40.Event,cS x40.Instance,cS x40.Handler,.d (.sl (List.map AValue.cs x40.Args))]) rfl rfl rfl rfl rfl rfl rfl rfl rfl) (OkOps.nil (Ok.seq (Ok.seq (Ok.region (OkOps.y (.c (.loc 1 0)) (OkOps.y (aS x40.Event) ?_)))))))))
 obtain ⟨x41,hx41,hr⟩:=bind_some hr
 refine OkOps.q (triCl (tau []) (.s (aB x41)) [] (r11_Name_c _ hx41) rfl ⟨.inl rfl,trivial⟩ trivial entry76 trivial) (OkOps.y (aB (!x41)) (OkOps.y (aB (!x41)) (OkOps.q (triQG (x:=.c (.loc 1 2)) rfl rfl trivial rfl) (OkOps.q (triQG (x:=aS x40.Handler) rfl rfl ⟨fun h=>h,trivial⟩ rfl) ?_))))
 obtain ⟨x42,hx42,hr⟩:=bind_some hr
 refine OkOps.q (triCallG (x:=aB x42) (fun hg=>r11_Name_c _ (gO_t hx42 hg)) rfl rfl ⟨.inl rfl,trivial⟩ ⟨fun h=>h,trivial⟩ entry76 rfl rfl rfl) (OkOps.q (triQG (x:=aB (!x42)) rfl rfl ⟨fun h=>h,trivial⟩ rfl) ?_)
 refine OkOps.q (triOr rfl rfl (fun h=>by rw [h];rfl) rfl) ?_
 refine OkOps.nil ?_
 refine Ok.cond (b:=(!x41) || (!x42)) rfl (fun h43=>?_) (fun h43=>?_)
 have hr:=selT h43 hr
 refine Ok.seq (Ok.region (OkOps.y (aI (IntKind.i64.wrap (met + 1))) (OkOps.y (aI (IntKind.i64.wrap (met + 1))) (OkOps.y (aI 4) (OkOps.nil (Ok.ret ?_))))))
 obtain rfl:=Option.some.inj hr
 exact ⟨_,rfl,.inl rfl,trivial⟩
 have hr:=selF h43 hr
 refine Ok.skip (Ok.seq (Ok.seq (Ok.regionD (by kernel_rfl) (OkD.x (aI s35) rfl trivial rfl (OkD.x (aB (decide (s35 > 0))) rfl trivial rfl (OkD.x (aB (decide (s35 > 0))) rfl trivial rfl (OkD.q (triQG (x:=.c (.loc 1 0)) rfl rfl trivial rfl) (OkD.q (triQG (x:=aS x40.Event) rfl rfl ⟨fun h=>h,trivial⟩ rfl) (OkD.q (triQG (x:=.c (.loc 0 3)) rfl rfl trivial rfl) (OkD.q (triQG (x:=.c (.d (.sl (List.map Action.cs v.Actions)))) rfl rfl ⟨fun h=>h,trivial⟩ rfl) (OkD.q (triQG (x:=aI s35) rfl rfl trivial rfl) (OkD.q (triQG (x:=aI (IntKind.i64.wrap (s35 - 1))) rfl rfl ⟨fun h=>h,trivial⟩ rfl) ?_))))))))))))
 obtain ⟨x44,hx44,hr⟩:=bind_some hr
 refine OkD.q (triIdxG (enc:=Action.cs) (L:=v.Actions) (row:=[dS x44.Event,dS x44.Instance,dS x44.Handler,.sl (List.map AValue.cs x44.Args)]) (gO_t hx44) rfl rfl rfl rfl rfl (fun _=>rfl) ⟨fun h=>h,⟨fun h=>h,trivial⟩⟩ rfl) (OkD.q (triQG (x:=.c (.pt [dS x44.Event,dS x44.Instance,dS x44.Handler,.sl (List.map AValue.cs x44.Args)])) rfl rfl ⟨fun h=>h,trivial⟩ rfl) (OkD.q (triQG (x:=aS x44.Event) rfl rfl ⟨fun h=>h,trivial⟩ rfl) (OkD.q (triQG (x:=aB (Op.bytesLess x40.Event.toList x44.Event.toList || x40.Event.toList == x44.Event.toList)) rfl rfl ⟨fun h=>h,⟨fun h=>h,trivial⟩⟩ rfl) (OkD.q (triAnd rfl rfl (fun h=>h) rfl) (OkD.nil (by kernel_rfl) ?_)))))
 refine Ok.cond (b:=(decide (s35 > 0)) && (Op.bytesLess x40.Event.toList x44.Event.toList || x40.Event.toList == x44.Event.toList)) rfl (fun h45=>?_) (fun h45=>?_)
 have hr:=selT h45 hr
 refine Ok.seq (Ok.region (OkOps.y (aI (IntKind.i64.wrap (met + 1))) (OkOps.y (aI (IntKind.i64.wrap (met + 1))) (OkOps.y (aI 10) (OkOps.nil (Ok.ret ?_))))))
 obtain rfl:=Option.some.inj hr
 exact ⟨_,rfl,.inl rfl,trivial⟩
 have hr:=selF h45 hr
 refine Ok.skip (Ok.seq (Ok.seq (Ok.region (OkOps.y (.c (.loc 1 1)) (OkOps.y (aS x40.Instance) (OkOps.y (aI (x40.Instance.size : Int)) (OkOps.y (aB (decide ((x40.Instance.size : Int) > 400))) (OkOps.y (aB (decide ((x40.Instance.size : Int) > 400))) (OkOps.q (triQG (x:=.c (.loc 1 3)) rfl rfl trivial rfl) (OkOps.q (triQG (x:=.c (.d (.sl (List.map AValue.cs x40.Args)))) rfl rfl ⟨fun h=>h,trivial⟩ rfl) (OkOps.q (triLenG (enc:=AValue.cs) x40.Args rfl rfl rfl ⟨fun h=>h,trivial⟩ rfl) (OkOps.q (triQG (x:=aB (decide ((x40.Args.length : Int) > 100))) rfl rfl ⟨fun h=>h,trivial⟩ rfl) ?_))))))))))))
 refine OkOps.q (triOr rfl rfl (fun h=>by rw [h];rfl) rfl) ?_
 refine OkOps.nil ?_
 refine Ok.cond (b:=(decide ((x40.Instance.size : Int) > 400)) || (decide ((x40.Args.length : Int) > 100))) rfl (fun h46=>?_) (fun h46=>?_)
 have hr:=selT h46 hr
 refine Ok.seq (Ok.region (OkOps.y (aI (IntKind.i64.wrap (met + 1))) (OkOps.y (aI (IntKind.i64.wrap (met + 1))) (OkOps.y (aI 2) (OkOps.nil (Ok.ret ?_))))))
 obtain rfl:=Option.some.inj hr
 exact ⟨_,rfl,.inl rfl,trivial⟩
 have hr:=selF h46 hr
 refine Ok.skip (Ok.seq (Ok.region (OkOps.y (aI 0) (OkOps.nil ?_))))
 obtain ⟨k48,hk48,hr⟩:=jn_some hr
 refine Ok.joinEnd (fun (s47 : Unit)=>⟨[(1,.s (aI depth)),(2,.s (aI (IntKind.i64.wrap (met + 1)))),(3,.s (.c (.loc 0 0))),(10,.s (aI s35))],[(0,.blk [cI v.Kind,cS v.Key,.d (.sl (List.map Attr.cs v.Attrs)),.d (.sl (List.map Action.cs v.Actions)),.d (.sl (List.map View.cs v.Kids))] 29)],0⟩) k48 r (fun s47 hr=>?_) ?_
 rw [hk48] at hr
 exact ⟨(),hr,(Conv.mk (tau []) ⟨⟨_,rfl,.inl rfl⟩,⟨_,rfl,.inl rfl⟩,⟨_,rfl,.inl rfl⟩,⟨_,rfl,.inl rfl⟩,trivial⟩ ⟨rfl,trivial⟩ rfl rfl rfl rfl)⟩
 clear hk48
 refine Ok.block (Ok.loopK (fun (s49 : Int)=>⟨[(1,.s (aI depth)),(2,.s (aI (IntKind.i64.wrap (met + 1)))),(3,.s (.c (.loc 0 0))),(10,.s (aI s35)),(11,.s (.c (.loc 1 0))),(12,.s (aI s49))],[(0,.blk [cI v.Kind,cS v.Key,.d (.sl (List.map Attr.cs v.Attrs)),.d (.sl (List.map Action.cs v.Actions)),.d (.sl (List.map View.cs v.Kids))] 29),(1,.blk [cS x40.Event,cS x40.Instance,cS x40.Handler,.d (.sl (List.map AValue.cs x40.Args))] 151)],0⟩) hr (Conv.mk (tau []) ⟨⟨_,rfl,.inl rfl⟩,⟨_,rfl,.inl rfl⟩,⟨_,rfl,.inl rfl⟩,⟨_,rfl,.inl rfl⟩,⟨_,rfl,.inl rfl⟩,⟨_,rfl,.inl rfl⟩,trivial⟩ ⟨rfl,rfl,trivial⟩ rfl rfl rfl rfl) ?_)
 clear hr
 intro again50 s49 hr
 unfold r14_validate_L4 at hr
 refine Ok.seq (Ok.seq (Ok.region (OkOps.y (aI s49) (OkOps.y (.c (.loc 1 3)) (OkOps.y (.c (.d (.sl (List.map AValue.cs x40.Args)))) (OkOps.q (triLen (enc:=AValue.cs) x40.Args rfl rfl trivial rfl) (OkOps.y (aB (decide (s49 < (x40.Args.length : Int)))) (OkOps.nil ?_))))))))
 refine Ok.cond (b:=decide (s49 < (x40.Args.length : Int))) rfl (fun h51=>?_) (fun h51=>?_)
 have hr:=selT h51 hr
 refine Ok.skip (Ok.seq (Ok.block (Ok.seq (Ok.region (OkOps.y (.c (.loc 1 3)) (OkOps.y (.c (.d (.sl (List.map AValue.cs x40.Args)))) (OkOps.y (aI s49) ?_)))))))
 obtain ⟨x52,hx52,hr⟩:=bind_some hr
 refine OkOps.q (triIdx (enc:=AValue.cs) (L:=x40.Args) (row:=[dI x52.Kind,dI x52.N,dS x52.S,.sl (List.map AValue.cs x52.L)]) hx52 (AValue.cs_eq _) rfl rfl rfl (fun x=>by rw [AValue.cs_eq];rfl) trivial rfl) ?_
 refine OkOps.y (.agg [cI x52.Kind,cI x52.N,cS x52.S,.d (.sl (List.map AValue.cs x52.L))]) ?_
 obtain ⟨x53,hx53,hr⟩:=bind_some hr
 refine OkOps.q (triCl (tau []) (.s (aI x53)) [] (r11_Check_c _ hx53) rfl ⟨.inl rfl,trivial⟩ trivial entry77 trivial) (OkOps.y (aI x53) (OkOps.nil (Ok.seq (Ok.region (OkOps.y (aI x53) (OkOps.y (aB (x53 != 0)) (OkOps.nil ?_)))))))
 refine Ok.cond (b:=x53 != 0) rfl (fun h54=>?_) (fun h54=>?_)
 have hr:=selT h54 hr
 refine Ok.seq (Ok.region (OkOps.y (aI (IntKind.i64.wrap (met + 1))) (OkOps.y (aI x53) (OkOps.y (aI (IntKind.i64.wrap (met + 1))) (OkOps.y (aI x53) (OkOps.nil (Ok.ret ?_)))))))
 obtain rfl:=Option.some.inj hr
 exact ⟨_,rfl,.inl rfl,trivial⟩
 have hr:=selF h54 hr
 refine Ok.skip (Ok.region (OkOps.y (aI s49) (OkOps.y (aI (IntKind.i64.wrap (s49 + 1))) (OkOps.y (aI (IntKind.i64.wrap (s49 + 1))) (OkOps.nil ?_)))))
 exact ⟨IntKind.i64.wrap (s49 + 1),hr,(Conv.mk (tau []) ⟨⟨_,rfl,.inl rfl⟩,⟨_,rfl,.inl rfl⟩,⟨_,rfl,.inl rfl⟩,⟨_,rfl,.inl rfl⟩,⟨_,rfl,.inl rfl⟩,⟨_,rfl,.inl rfl⟩,trivial⟩ ⟨rfl,rfl,trivial⟩ rfl rfl rfl rfl)⟩
 have hr:=selF h51 hr
 refine Ok.exit ?_
 exact ⟨(),hr,(Conv.mk (tau []) ⟨⟨_,rfl,.inl rfl⟩,⟨_,rfl,.inl rfl⟩,⟨_,rfl,.inl rfl⟩,⟨_,rfl,.inl rfl⟩,trivial⟩ ⟨rfl,trivial⟩ rfl rfl rfl rfl)⟩
 have hr:=selF h37 hr
 refine Ok.exit ?_
 exact ⟨(),hr,(Conv.mk (tau []) ⟨⟨_,rfl,.inl rfl⟩,⟨_,rfl,.inl rfl⟩,⟨_,rfl,.inl rfl⟩,trivial⟩ ⟨rfl,trivial⟩ rfl rfl rfl rfl)⟩
 clear hk8
 refine Ok.seq (Ok.region (OkOps.y (aI 0) (OkOps.nil (Ok.block (Ok.loopK (fun (s55 : Int)=>⟨[(1,.s (aI depth)),(2,.s (aI (IntKind.i64.wrap (met + 1)))),(3,.s (.c (.loc 0 0))),(8,.s (aI s55))],[(0,.blk [cI v.Kind,cS v.Key,.d (.sl (List.map Attr.cs v.Attrs)),.d (.sl (List.map Action.cs v.Actions)),.d (.sl (List.map View.cs v.Kids))] 29)],0⟩) hr (Conv.mk (tau []) ⟨⟨_,rfl,.inl rfl⟩,⟨_,rfl,.inl rfl⟩,⟨_,rfl,.inl rfl⟩,⟨_,rfl,.inl rfl⟩,trivial⟩ ⟨rfl,trivial⟩ rfl rfl rfl rfl) ?_)))))
 clear hr
 intro again56 s55 hr
 unfold r14_validate_L6 at hr
 refine Ok.seq (Ok.seq (Ok.region (OkOps.y (aI s55) (OkOps.y (.c (.loc 0 2)) (OkOps.y (.c (.d (.sl (List.map Attr.cs v.Attrs)))) (OkOps.q (triLen (enc:=Attr.cs) v.Attrs rfl rfl trivial rfl) (OkOps.y (aB (decide (s55 < (v.Attrs.length : Int)))) (OkOps.nil ?_))))))))
 refine Ok.cond (b:=decide (s55 < (v.Attrs.length : Int))) rfl (fun h57=>?_) (fun h57=>?_)
 have hr:=selT h57 hr
 refine Ok.skip (Ok.seq (Ok.block (Ok.seq (Ok.seq (Ok.region (OkOps.y (.c (.loc 0 2)) (OkOps.y (.c (.d (.sl (List.map Attr.cs v.Attrs)))) (OkOps.y (aI s55) ?_))))))))
 obtain ⟨x58,hx58,hr⟩:=bind_some hr
 refine OkOps.q (triIdx (enc:=Attr.cs) (L:=v.Attrs) (row:=[dS x58.Name,dI x58.Value.Kind,dI x58.Value.N,dS x58.Value.S,.sl (List.map AValue.cs x58.Value.L)]) hx58 rfl rfl rfl rfl (fun _=>rfl) trivial rfl) (OkOps.y (.c (.pt [dS x58.Name,dI x58.Value.Kind,dI x58.Value.N,dS x58.Value.S,.sl (List.map AValue.cs x58.Value.L)])) (OkOps.y (aS x58.Name) ?_))
 obtain ⟨x59,hx59,hr⟩:=bind_some hr
 refine OkOps.q (triCl (tau []) (.s (aB x59)) [] (r11_Name_c _ hx59) rfl ⟨.inl rfl,trivial⟩ trivial entry76 trivial) (OkOps.y (aB (!x59)) (OkOps.nil ?_))
 refine Ok.cond (b:=!x59) rfl (fun h60=>?_) (fun h60=>?_)
 have hr:=selT h60 hr
 refine Ok.seq (Ok.region (OkOps.y (aI (IntKind.i64.wrap (met + 1))) (OkOps.y (aI (IntKind.i64.wrap (met + 1))) (OkOps.y (aI 4) (OkOps.nil (Ok.ret ?_))))))
 obtain rfl:=Option.some.inj hr
 exact ⟨_,rfl,.inl rfl,trivial⟩
 have hr:=selF h60 hr
 refine Ok.skip (Ok.seq (Ok.seq (Ok.regionD (by kernel_rfl) (OkD.x (aI s55) rfl trivial rfl (OkD.x (aB (decide (s55 > 0))) rfl trivial rfl (OkD.x (aB (decide (s55 > 0))) rfl trivial rfl (OkD.q (triQG (x:=.c (.loc 0 2)) rfl rfl trivial rfl) (OkD.q (triQG (x:=.c (.d (.sl (List.map Attr.cs v.Attrs)))) rfl rfl ⟨fun h=>h,trivial⟩ rfl) (OkD.q (triQG (x:=aI s55) rfl rfl trivial rfl) ?_)))))))))
 obtain ⟨x61,hx61,hr⟩:=bind_some hr
 refine OkD.q (triIdxG (enc:=Attr.cs) (L:=v.Attrs) (row:=[dS x61.Name,dI x61.Value.Kind,dI x61.Value.N,dS x61.Value.S,.sl (List.map AValue.cs x61.Value.L)]) (gO_t hx61) rfl rfl rfl rfl rfl (fun _=>rfl) ⟨fun h=>h,⟨fun h=>h,trivial⟩⟩ rfl) (OkD.q (triQG (x:=.c (.pt [dS x61.Name,dI x61.Value.Kind,dI x61.Value.N,dS x61.Value.S,.sl (List.map AValue.cs x61.Value.L)])) rfl rfl ⟨fun h=>h,trivial⟩ rfl) (OkD.q (triQG (x:=aS x61.Name) rfl rfl ⟨fun h=>h,trivial⟩ rfl) (OkD.q (triQG (x:=.c (.loc 0 2)) rfl rfl trivial rfl) (OkD.q (triQG (x:=.c (.d (.sl (List.map Attr.cs v.Attrs)))) rfl rfl ⟨fun h=>h,trivial⟩ rfl) (OkD.q (triQG (x:=aI s55) rfl rfl trivial rfl) (OkD.q (triQG (x:=aI (IntKind.i64.wrap (s55 - 1))) rfl rfl ⟨fun h=>h,trivial⟩ rfl) ?_))))))
 obtain ⟨x62,hx62,hr⟩:=bind_some hr
 refine OkD.q (triIdxG (enc:=Attr.cs) (L:=v.Attrs) (row:=[dS x62.Name,dI x62.Value.Kind,dI x62.Value.N,dS x62.Value.S,.sl (List.map AValue.cs x62.Value.L)]) (gO_t hx62) rfl rfl rfl rfl rfl (fun _=>rfl) ⟨fun h=>h,⟨fun h=>h,trivial⟩⟩ rfl) (OkD.q (triQG (x:=.c (.pt [dS x62.Name,dI x62.Value.Kind,dI x62.Value.N,dS x62.Value.S,.sl (List.map AValue.cs x62.Value.L)])) rfl rfl ⟨fun h=>h,trivial⟩ rfl) (OkD.q (triQG (x:=aS x62.Name) rfl rfl ⟨fun h=>h,trivial⟩ rfl) (OkD.q (triQG (x:=aB (Op.bytesLess x61.Name.toList x62.Name.toList || x61.Name.toList == x62.Name.toList)) rfl rfl ⟨fun h=>h,⟨fun h=>h,trivial⟩⟩ rfl) (OkD.q (triAnd rfl rfl (fun h=>h) rfl) (OkD.nil (by kernel_rfl) ?_)))))
 refine Ok.cond (b:=(decide (s55 > 0)) && (Op.bytesLess x61.Name.toList x62.Name.toList || x61.Name.toList == x62.Name.toList)) rfl (fun h63=>?_) (fun h63=>?_)
 have hr:=selT h63 hr
 refine Ok.seq (Ok.region (OkOps.y (aI (IntKind.i64.wrap (met + 1))) (OkOps.y (aI (IntKind.i64.wrap (met + 1))) (OkOps.y (aI 10) (OkOps.nil (Ok.ret ?_))))))
 obtain rfl:=Option.some.inj hr
 exact ⟨_,rfl,.inl rfl,trivial⟩
 have hr:=selF h63 hr
 refine Ok.skip (Ok.seq (Ok.region (OkOps.y (.c (.loc 0 2)) (OkOps.y (.c (.d (.sl (List.map Attr.cs v.Attrs)))) (OkOps.y (aI s55) ?_)))))
 obtain ⟨x64,hx64,hr⟩:=bind_some hr
 refine OkOps.q (triIdx (enc:=Attr.cs) (L:=v.Attrs) (row:=[dS x64.Name,dI x64.Value.Kind,dI x64.Value.N,dS x64.Value.S,.sl (List.map AValue.cs x64.Value.L)]) hx64 rfl rfl rfl rfl (fun _=>rfl) trivial rfl) (OkOps.y (.c (.pt [dI x64.Value.Kind,dI x64.Value.N,dS x64.Value.S,.sl (List.map AValue.cs x64.Value.L)])) (OkOps.y (.agg [cI x64.Value.Kind,cI x64.Value.N,cS x64.Value.S,.d (.sl (List.map AValue.cs x64.Value.L))]) ?_))
 obtain ⟨x65,hx65,hr⟩:=bind_some hr
 refine OkOps.q (triCl (tau []) (.s (aI x65)) [] (r11_Check_c _ hx65) rfl ⟨.inl rfl,trivial⟩ trivial entry77 trivial) (OkOps.y (aI x65) (OkOps.nil (Ok.seq (Ok.region (OkOps.y (aI x65) (OkOps.y (aB (x65 != 0)) (OkOps.nil ?_)))))))
 refine Ok.cond (b:=x65 != 0) rfl (fun h66=>?_) (fun h66=>?_)
 have hr:=selT h66 hr
 refine Ok.seq (Ok.region (OkOps.y (aI (IntKind.i64.wrap (met + 1))) (OkOps.y (aI x65) (OkOps.y (aI (IntKind.i64.wrap (met + 1))) (OkOps.y (aI x65) (OkOps.nil (Ok.ret ?_)))))))
 obtain rfl:=Option.some.inj hr
 exact ⟨_,rfl,.inl rfl,trivial⟩
 have hr:=selF h66 hr
 refine Ok.skip (Ok.region (OkOps.y (aI s55) (OkOps.y (aI (IntKind.i64.wrap (s55 + 1))) (OkOps.y (aI (IntKind.i64.wrap (s55 + 1))) (OkOps.nil ?_)))))
 exact ⟨IntKind.i64.wrap (s55 + 1),hr,(Conv.mk (tau []) ⟨⟨_,rfl,.inl rfl⟩,⟨_,rfl,.inl rfl⟩,⟨_,rfl,.inl rfl⟩,⟨_,rfl,.inl rfl⟩,trivial⟩ ⟨rfl,trivial⟩ rfl rfl rfl rfl)⟩
 have hr:=selF h57 hr
 refine Ok.exit ?_
 exact ⟨(),hr,(Conv.mk (tau []) ⟨⟨_,rfl,.inl rfl⟩,⟨_,rfl,.inl rfl⟩,⟨_,rfl,.inl rfl⟩,trivial⟩ ⟨rfl,trivial⟩ rfl rfl rfl rfl)⟩
theorem r14_validate_all : ∀ n : Nat,(∀ (v : View) (depth : Int) (met : Int) {r : Int × Int},r14_validate n v depth met = some r → Con Tryd.prog 49 [.agg [cI v.Kind,cS v.Key,.d (.sl (List.map Attr.cs v.Attrs)),.d (.sl (List.map Action.cs v.Actions)),.d (.sl (List.map View.cs v.Kids))],aI depth,aI met] [] (.tup [aI r.1,aI r.2]) []) ∧ True:=by
 intro n
 induction n with
 | zero=>exact ⟨(by intros;rename_i hr;cases hr),trivial⟩
 | succ n ih=>exact ⟨(by intros;rename_i hr;exact r14_validate_B_c _ ih.1 _ _ _ hr),trivial⟩
theorem r14_validate_c (n : Nat) (v : View) (depth : Int) (met : Int) {r : Int × Int} (hr : r14_validate n v depth met = some r) : Con Tryd.prog 49 [.agg [cI v.Kind,cS v.Key,.d (.sl (List.map Attr.cs v.Attrs)),.d (.sl (List.map Action.cs v.Actions)),.d (.sl (List.map View.cs v.Kids))],aI depth,aI met] [] (.tup [aI r.1,aI r.2]) []:=(r14_validate_all n).1 v depth met hr
theorem r14_Validate_c (v : View) {r : Int} (hr : r14_Validate v = some r) : Con Tryd.prog 25 [.agg [cI v.Kind,cS v.Key,.d (.sl (List.map Attr.cs v.Attrs)),.d (.sl (List.map Action.cs v.Actions)),.d (.sl (List.map View.cs v.Kids))]] [] (.s (aI r)) []:=by
 unfold r14_Validate at hr
 refine Con.of_ok 11 0 [.tmp 2] [(0,.s (.agg [cI v.Kind,cS v.Key,.d (.sl (List.map Attr.cs v.Attrs)),.d (.sl (List.map Action.cs v.Actions)),.d (.sl (List.map View.cs v.Kids))]))] Tryd.func25 rfl rfl rfl rfl rfl rfl rfl rfl fun w g M ρ _=>(Ok.seq (Ok.region (OkOps.m 0 (triBox (j:=0) (cs:=[cI v.Kind,cS v.Key,.d (.sl (List.map Attr.cs v.Attrs)),.d (.sl (List.map Action.cs v.Actions)),.d (.sl (List.map View.cs v.Kids))]) rfl rfl rfl rfl rfl) (OkOps.y (aI 0) (OkOps.nil (Ok.seq (Ok.region (OkOps.y (.agg [cI v.Kind,cS v.Key,.d (.sl (List.map Attr.cs v.Attrs)),.d (.sl (List.map Action.cs v.Actions)),.d (.sl (List.map View.cs v.Kids))]) ?_))))))))
 obtain ⟨x1,hx1,hr⟩:=bind_some hr
 refine OkOps.q (triCl (tau []) (.tup [aI x1.1,aI x1.2]) [] (r14_validate_c _ _ _ _ hx1) rfl ⟨.inl rfl,.inl rfl,.inl rfl,trivial⟩ trivial entry49 trivial) (OkOps.q (triMv (v:=.tup [aI x1.1,aI x1.2]) rfl rfl) (OkOps.y (aI x1.1) (OkOps.y (aI x1.2) (OkOps.y (aI x1.1) (OkOps.y (aI x1.2) (OkOps.nil (Ok.seq (Ok.region (OkOps.y (aI x1.2) (OkOps.y (aI x1.2) (OkOps.nil (Ok.ret ?_))))))))))))
 obtain rfl:=Option.some.inj hr
 exact ⟨_,rfl,.inl rfl,trivial⟩
end Go.Proofs.YtfoigppmcelgfaaDoor
end
section
set_option maxRecDepth 100000
namespace Go.Proofs.YtfoigppmcelgfaaDoor
open Go Go.E2
theorem r14_build_B_c (self0 : View → Int → Tree → Option Tree) (hself0 : ∀ (v : View) (parent : Int) (t : Tree) {r : Tree},self0 v parent t = some r → Con Tryd.prog 26 [.agg [cI v.Kind,cS v.Key,.d (.sl (List.map Attr.cs v.Attrs)),.d (.sl (List.map Action.cs v.Actions)),.d (.sl (List.map View.cs v.Kids))],aI parent,.agg [cI t.Root,cI t.Next,.own 0]] [(0,.vec 7 (List.map Node.cs t.Nodes))] (.s (.agg [cI r.Root,cI r.Next,.own 2000])) [(0,.dead),(2000,.vec 7 (List.map Node.cs r.Nodes))]) (v : View) (parent : Int) (t : Tree) {r : Tree} (hr : r14_build_B self0 v parent t = some r) : Con Tryd.prog 26 [.agg [cI v.Kind,cS v.Key,.d (.sl (List.map Attr.cs v.Attrs)),.d (.sl (List.map Action.cs v.Actions)),.d (.sl (List.map View.cs v.Kids))],aI parent,.agg [cI t.Root,cI t.Next,.own 0]] [(0,.vec 7 (List.map Node.cs t.Nodes))] (.s (.agg [cI r.Root,cI r.Next,.own 2000])) [(0,.dead),(2000,.vec 7 (List.map Node.cs r.Nodes))]:=by
 unfold r14_build_B at hr
 refine Con.of_ok 63 0 [.cell 6 46] [(0,.s (.agg [cI v.Kind,cS v.Key,.d (.sl (List.map Attr.cs v.Attrs)),.d (.sl (List.map Action.cs v.Actions)),.d (.sl (List.map View.cs v.Kids))])),(1,.s (aI parent)),(2,.s (.agg [cI t.Root,cI t.Next,.own 0]))] Tryd.func26 rfl rfl rfl rfl rfl rfl rfl rfl fun w g M ρ _=>(Ok.seq (Ok.region (OkOps.m 0 (triBox (j:=1) (cs:=[cI v.Kind,cS v.Key,.d (.sl (List.map Attr.cs v.Attrs)),.d (.sl (List.map Action.cs v.Actions)),.d (.sl (List.map View.cs v.Kids))]) rfl rfl rfl rfl rfl) (OkOps.m 0 (triBox (j:=2) (cs:=[cI t.Root,cI t.Next,.own 0]) rfl rfl rfl rfl rfl) (OkOps.m 0 (triAlloc (j:=3) (cs:=[cI 0,cI 0,.d (.v (.slice none 0 0))]) rfl rfl rfl rfl) (OkOps.nil (Ok.seq (Ok.region (OkOps.y (.c (.loc 2 1)) (OkOps.y (aI t.Next) (OkOps.y (aI t.Next) (OkOps.nil (Ok.seq (Ok.region (OkOps.y (.c (.loc 2 2)) ?_)))))))))))))))
 refine OkOps.y (.c (.own 0)) (OkOps.q (triLenV (enc:=Node.cs) t.Nodes rfl rfl rfl rfl) (OkOps.y (aI (t.Nodes.length : Int)) (OkOps.nil (Ok.seq (Ok.region (OkOps.y (.c (.loc 2 2)) (OkOps.y (.c (.own 0)) (OkOps.y (aI t.Next) (OkOps.y (aI parent) (OkOps.y (.c (.loc 1 0)) (OkOps.y (aI v.Kind) (OkOps.y (.c (.loc 1 1)) (OkOps.y (aS v.Key) (OkOps.y (.c (.loc 1 2)) (OkOps.y (.c (.d (.sl (List.map Attr.cs v.Attrs)))) ?_)))))))))))))))
 refine OkOps.y (.c (.loc 1 3)) (OkOps.y (.c (.d (.sl (List.map Action.cs v.Actions)))) (OkOps.y (.agg [cI t.Next,cI parent,cI v.Kind,cS v.Key,.d (.sl (List.map Attr.cs v.Attrs)),.d (.sl (List.map Action.cs v.Actions)),.d (.v (.slice none 0 0))]) (OkOps.m 0 (triBST (sz:=7) (enc:=Node.cs) (j:=4) ([(Node.mk t.Next parent v.Kind v.Key v.Attrs v.Actions ([] : (List Int)))]) rfl rfl rfl rfl rfl rfl rfl rfl (fun _=>rfl) trivial rfl rfl) ?_)))
 obtain ⟨x1,hx1,hr⟩:=bind_some hr
 refine OkOps.m2 0 (triAppV (enc:=Node.cs) (L:=t.Nodes) (X:=[(Node.mk t.Next parent v.Kind v.Key v.Attrs v.Actions ([] : (List Int)))]) (j:=0) (j':=5) hx1 rfl rfl rfl rfl rfl rfl (fun _=>rfl) (fun _=>rfl) trivial rfl rfl) (OkOps.y (.c (.loc 2 2)) (OkOps.w (triStoreF (cs':=[cI t.Root,cI t.Next,.own 5]) rfl rfl rfl rfl rfl rfl rfl rfl) (OkOps.nil (Ok.seq (Ok.region (OkOps.y (.c (.loc 2 1)) (OkOps.y (aI t.Next) (OkOps.y (aI (IntKind.i64.wrap (t.Next + 1))) (OkOps.y (.c (.loc 2 1)) (OkOps.w (triStore (cs':=[cI t.Root,cI (IntKind.i64.wrap (t.Next + 1)),.own 5]) rfl rfl rfl rfl rfl rfl rfl rfl rfl) (OkOps.nil (Ok.seq (Ok.region (OkOps.y (.c (.d (.v (.slice none 0 0)))) (OkOps.nil ?_)))))))))))))))
 obtain ⟨k3,hk3,hr⟩:=jn_some hr
 refine Ok.join (fun (s2 : (List Int) × Int × Int × (List Node))=>⟨[(5,.s (.c (.loc 2 0))),(6,.s (.c (.loc 3 0))),(8,.s (aI (t.Nodes.length : Int))),(9,.s (.c (.tl 1007 (List.map (eInt .i64) s2.1))))],[(0,.dead),(2,.blk [cI s2.2.1,cI s2.2.2.1,.own 1008] 46),(3,.blk [cI 0,cI 0,.d (.v (.slice none 0 0))] 46),(1007,.tail 1),(1008,.vec 7 (List.map Node.cs s2.2.2.2))],0⟩) k3 r (fun s2 hr=>?_) ?_
 rw [hk3] at hr
 refine Ok.seq (Ok.region (OkOps.y (.c (.loc 2 2)) (OkOps.y (.c (.own 1008)) (OkOps.y (aI (t.Nodes.length : Int)) (OkOps.y (.c (.tl 1007 (List.map (eInt .i64) s2.1))) ?_)))))
 obtain ⟨x4,hx4,hr⟩:=bind_some hr
 refine OkOps.q (triIdxV (enc:=Node.cs) (L:=s2.2.2.2) hx4 rfl rfl rfl rfl trivial rfl) (OkOps.q (triFldV (o:=6) (enc:=Node.cs) (L:=s2.2.2.2) rfl rfl rfl (by have:=(ixO_spec hx4).2;omega) rfl) ?_)
 obtain ⟨x5,hx5,hr⟩:=bind_some hr
 refine OkOps.w (triStoreVF (n:=1) (enc:=Node.cs) (L:=s2.2.2.2) (z:=(Node.mk x5.ID x5.Parent x5.Kind x5.Key x5.Attrs x5.Actions s2.1)) hx5 rfl rfl rfl rfl rfl rfl rfl rfl (by decide) (fun _=>rfl) rfl) (OkOps.nil (Ok.seq (Ok.region (OkOps.y (.agg [cI s2.2.1,cI s2.2.2.1,.own 1008]) (OkOps.w (triStoreF (cs':=[cI s2.2.1,cI s2.2.2.1,.own 1008]) rfl rfl rfl rfl rfl rfl rfl rfl) (OkOps.nil (Ok.conv (T:=⟨[(6,.s (.c (.loc 3 0)))],[(0,.dead),(3,.blk [cI s2.2.1,cI s2.2.2.1,.own 2000] 46),(2000,.vec 7 (List.map Node.cs (List.set s2.2.2.2 x4 (Node.mk x5.ID x5.Parent x5.Kind x5.Key x5.Attrs x5.Actions s2.1))))],0⟩) (Conv.mk (tau [(2000,1008)]) ⟨⟨_,rfl,.inl rfl⟩,trivial⟩ ⟨rfl,rfl,trivial⟩ rfl rfl rfl rfl) (Ok.ret ?_))))))))
 obtain rfl:=Option.some.inj hr
 exact ⟨_,rfl,.inl rfl,⟨(fun h=>by cases h),rfl,trivial⟩⟩
 clear hk3
 refine Ok.seq (Ok.region (OkOps.y (aI 0) (OkOps.nil (Ok.block (Ok.loopK (fun (s6 : (List Int) × Int × Int × Int × (List Node))=>⟨[(3,.s (.c (.loc 1 0))),(5,.s (.c (.loc 2 0))),(6,.s (.c (.loc 3 0))),(7,.s (aI t.Next)),(8,.s (aI (t.Nodes.length : Int))),(9,.s (.c (.tl 1012 (List.map (eInt .i64) s6.1)))),(10,.s (aI s6.2.1))],[(0,.dead),(1,.blk [cI v.Kind,cS v.Key,.d (.sl (List.map Attr.cs v.Attrs)),.d (.sl (List.map Action.cs v.Actions)),.d (.sl (List.map View.cs v.Kids))] 29),(2,.blk [cI s6.2.2.1,cI s6.2.2.2.1,.own 1013] 46),(3,.blk [cI 0,cI 0,.d (.v (.slice none 0 0))] 46),(1012,.tail 1),(1013,.vec 7 (List.map Node.cs s6.2.2.2.2))],0⟩) hr (Conv.trans (Conv.nil 9 1016 1 0 rfl rfl) (Conv.mk (tau [(1012,1016),(1013,5)]) ⟨⟨_,rfl,.inl rfl⟩,⟨_,rfl,.inl rfl⟩,⟨_,rfl,.inl rfl⟩,⟨_,rfl,.inl rfl⟩,⟨_,rfl,.inl rfl⟩,⟨_,rfl,.inl rfl⟩,⟨_,rfl,.inl rfl⟩,trivial⟩ ⟨rfl,rfl,rfl,rfl,rfl,trivial⟩ rfl rfl rfl rfl)) ?_)))))
 clear hr
 intro again7 s6 hr
 unfold r14_build_L1 at hr
 refine Ok.seq (Ok.seq (Ok.region (OkOps.y (aI s6.2.1) (OkOps.y (.c (.loc 1 4)) (OkOps.y (.c (.d (.sl (List.map View.cs v.Kids)))) (OkOps.q (triLen (enc:=View.cs) v.Kids rfl rfl trivial rfl) (OkOps.y (aB (decide (s6.2.1 < (v.Kids.length : Int)))) (OkOps.nil ?_))))))))
 refine Ok.cond (b:=decide (s6.2.1 < (v.Kids.length : Int))) rfl (fun h8=>?_) (fun h8=>?_)
 have hr:=selT h8 hr
 refine Ok.skip (Ok.seq (Ok.block (Ok.seq (Ok.region (OkOps.y (.c (.tl 1012 (List.map (eInt .i64) s6.1))) (OkOps.y (.c (.loc 2 1)) (OkOps.y (aI s6.2.2.2.1) (OkOps.m 0 (triBST (sz:=1) (enc:=(eInt .i64)) (j:=6) ([s6.2.2.2.1]) rfl rfl rfl rfl rfl rfl rfl rfl (fun _=>rfl) trivial rfl rfl) ?_))))))))
 obtain ⟨x9,hx9,hr⟩:=bind_some hr
 refine OkOps.m2 0 (triApp (enc:=(eInt .i64)) (L:=s6.1) (X:=[s6.2.2.2.1]) (j:=1012) (j':=7) hx9 rfl rfl rfl rfl rfl rfl (fun _=>rfl) (fun _=>rfl) (by decide) trivial rfl rfl) (OkOps.y (.c (.tl 7 (List.map (eInt .i64) x9))) (OkOps.nil (Ok.regionD (by kernel_rfl) (OkD.x (.c (.loc 1 4)) rfl trivial rfl (OkD.x (.c (.d (.sl (List.map View.cs v.Kids)))) rfl trivial rfl (OkD.x (aI s6.2.1) rfl trivial rfl ?_))))))
 obtain ⟨x10,hx10,hr⟩:=bind_some hr
 refine OkD.q (triIdx (enc:=View.cs) (L:=v.Kids) (row:=[dI x10.Kind,dS x10.Key,.sl (List.map Attr.cs x10.Attrs),.sl (List.map Action.cs x10.Actions),.sl (List.map View.cs x10.Kids)]) hx10 (View.cs_eq _) rfl rfl rfl (fun x=>by rw [View.cs_eq];rfl) trivial rfl) ?_
 refine OkD.x (.agg [cI x10.Kind,cS x10.Key,.d (.sl (List.map Attr.cs x10.Attrs)),.d (.sl (List.map Action.cs x10.Actions)),.d (.sl (List.map View.cs x10.Kids))]) rfl trivial rfl (OkD.x (aI t.Next) rfl trivial rfl (OkD.x (.agg [cI s6.2.2.1,cI s6.2.2.2.1,.own 1013]) rfl trivial rfl ?_))
 obtain ⟨x11,hx11,hr⟩:=bind_some hr
 refine OkD.m2 0 (triCall (tau [(0,1013),(2000,8)]) (.s (.agg [cI x11.Root,cI x11.Next,.own 8])) [(1013,.dead),(8,.vec 7 (List.map Node.cs x11.Nodes))] (hself0 _ _ _ hx11) rfl ⟨.inl rfl,.inl rfl,.inl rfl,trivial⟩ trivial entry26 ⟨rfl,trivial⟩ rfl rfl rfl rfl ⟨rfl,trivial⟩ rfl rfl rfl) (OkD.w (triStoreF (cs':=[cI x11.Root,cI x11.Next,.own 8]) rfl rfl rfl rfl rfl rfl rfl rfl) (OkD.nil (by kernel_rfl) (Ok.region (OkOps.y (aI s6.2.1) (OkOps.y (aI (IntKind.i64.wrap (s6.2.1 + 1))) (OkOps.y (aI (IntKind.i64.wrap (s6.2.1 + 1))) (OkOps.nil ?_)))))))
 exact ⟨(x9,IntKind.i64.wrap (s6.2.1 + 1),x11.Root,x11.Next,x11.Nodes),hr,(Conv.mk (tau [(1012,7),(1013,8)]) ⟨⟨_,rfl,.inl rfl⟩,⟨_,rfl,.inl rfl⟩,⟨_,rfl,.inl rfl⟩,⟨_,rfl,.inl rfl⟩,⟨_,rfl,.inl rfl⟩,⟨_,rfl,.inl rfl⟩,⟨_,rfl,.inl rfl⟩,trivial⟩ ⟨rfl,rfl,rfl,rfl,rfl,trivial⟩ rfl rfl rfl rfl)⟩
 have hr:=selF h8 hr
 refine Ok.exit ?_
 exact ⟨(s6.1,s6.2.2.1,s6.2.2.2.1,s6.2.2.2.2),hr,(Conv.mk (tau [(1007,1012),(1008,1013)]) ⟨⟨_,rfl,.inl rfl⟩,⟨_,rfl,.inl rfl⟩,⟨_,rfl,.inl rfl⟩,⟨_,rfl,.inl rfl⟩,trivial⟩ ⟨rfl,rfl,rfl,rfl,trivial⟩ rfl rfl rfl rfl)⟩
theorem r14_build_all : ∀ n : Nat,(∀ (v : View) (parent : Int) (t : Tree) {r : Tree},r14_build n v parent t = some r → Con Tryd.prog 26 [.agg [cI v.Kind,cS v.Key,.d (.sl (List.map Attr.cs v.Attrs)),.d (.sl (List.map Action.cs v.Actions)),.d (.sl (List.map View.cs v.Kids))],aI parent,.agg [cI t.Root,cI t.Next,.own 0]] [(0,.vec 7 (List.map Node.cs t.Nodes))] (.s (.agg [cI r.Root,cI r.Next,.own 2000])) [(0,.dead),(2000,.vec 7 (List.map Node.cs r.Nodes))]) ∧ True:=by
 intro n
 induction n with
 | zero=>exact ⟨(by intros;rename_i hr;cases hr),trivial⟩
 | succ n ih=>exact ⟨(by intros;rename_i hr;exact r14_build_B_c _ ih.1 _ _ _ hr),trivial⟩
theorem r14_build_c (n : Nat) (v : View) (parent : Int) (t : Tree) {r : Tree} (hr : r14_build n v parent t = some r) : Con Tryd.prog 26 [.agg [cI v.Kind,cS v.Key,.d (.sl (List.map Attr.cs v.Attrs)),.d (.sl (List.map Action.cs v.Actions)),.d (.sl (List.map View.cs v.Kids))],aI parent,.agg [cI t.Root,cI t.Next,.own 0]] [(0,.vec 7 (List.map Node.cs t.Nodes))] (.s (.agg [cI r.Root,cI r.Next,.own 2000])) [(0,.dead),(2000,.vec 7 (List.map Node.cs r.Nodes))]:=(r14_build_all n).1 v parent t hr
theorem r14_Build_c (v : View) (next : Int) {r : Tree × Int} (hr : r14_Build v next = some r) : Con Tryd.prog 11 [.agg [cI v.Kind,cS v.Key,.d (.sl (List.map Attr.cs v.Attrs)),.d (.sl (List.map Action.cs v.Actions)),.d (.sl (List.map View.cs v.Kids))],aI next] [] (.tup [.agg [cI r.1.Root,cI r.1.Next,.d (.sl (List.map Node.cs r.1.Nodes))],aI r.2]) []:=by
 unfold r14_Build at hr
 refine Con.of_ok 27 0 [.cell 4 46,.tmp 5] [(0,.s (.agg [cI v.Kind,cS v.Key,.d (.sl (List.map Attr.cs v.Attrs)),.d (.sl (List.map Action.cs v.Actions)),.d (.sl (List.map View.cs v.Kids))])),(1,.s (aI next))] Tryd.func11 rfl rfl rfl rfl rfl rfl rfl rfl fun w g M ρ _=>(Ok.seq (Ok.region (OkOps.m 0 (triBox (j:=0) (cs:=[cI v.Kind,cS v.Key,.d (.sl (List.map Attr.cs v.Attrs)),.d (.sl (List.map Action.cs v.Actions)),.d (.sl (List.map View.cs v.Kids))]) rfl rfl rfl rfl rfl) (OkOps.m 0 (triAlloc (j:=1) (cs:=[cI 0,cI 0,.d (.v (.slice none 0 0))]) rfl rfl rfl rfl) (OkOps.y (aI 0) (OkOps.nil (Ok.seq (Ok.seq (Ok.region (OkOps.y (.agg [cI v.Kind,cS v.Key,.d (.sl (List.map Attr.cs v.Attrs)),.d (.sl (List.map Action.cs v.Actions)),.d (.sl (List.map View.cs v.Kids))]) ?_))))))))))
 obtain ⟨x1,hx1,hr⟩:=bind_some hr
 refine OkOps.q (triCl (tau []) (.s (aI x1)) [] (r14_Validate_c _ hx1) rfl ⟨.inl rfl,trivial⟩ trivial entry25 trivial) (OkOps.y (aI x1) (OkOps.nil (Ok.seq (Ok.region (OkOps.y (aI x1) (OkOps.y (aB (x1 != 0)) (OkOps.nil ?_)))))))
 refine Ok.cond (b:=x1 != 0) rfl (fun h2=>?_) (fun h2=>?_)
 have hr:=selT h2 hr
 refine Ok.seq (Ok.region (OkOps.y (.agg [cI 0,cI 0,.d (.v (.slice none 0 0))]) (OkOps.y (aI x1) (OkOps.w (triStore (cs':=[cI 0,cI 0,.d (.v (.slice none 0 0))]) rfl rfl rfl rfl rfl rfl rfl rfl rfl) (OkOps.y (aI x1) (OkOps.nil (Ok.ret ?_)))))))
 obtain rfl:=Option.some.inj hr
 exact ⟨_,rfl,.inr rfl,trivial⟩
 have hr:=selF h2 hr
 refine Ok.skip (Ok.seq (Ok.seq (Ok.region (OkOps.y (aI next) (OkOps.y (aB (decide (next < 1))) (OkOps.y (aB (decide (next < 1))) (OkOps.q (triQG (x:=aI next) rfl rfl trivial rfl) (OkOps.q (triQG (x:=aB (decide (next > 1099511627376))) rfl rfl ⟨fun h=>h,trivial⟩ rfl) ?_))))))))
 refine OkOps.q (triOr rfl rfl (fun h=>by rw [h];rfl) rfl) ?_
 refine OkOps.nil ?_
 refine Ok.cond (b:=(decide (next < 1)) || (decide (next > 1099511627376))) rfl (fun h3=>?_) (fun h3=>?_)
 have hr:=selT h3 hr
 refine Ok.seq (Ok.region (OkOps.y (.agg [cI 0,cI 0,.d (.v (.slice none 0 0))]) (OkOps.w (triStore (cs':=[cI 0,cI 0,.d (.v (.slice none 0 0))]) rfl rfl rfl rfl rfl rfl rfl rfl rfl) (OkOps.y (aI 1) (OkOps.nil (Ok.ret ?_))))))
 obtain rfl:=Option.some.inj hr
 exact ⟨_,rfl,.inr rfl,trivial⟩
 have hr:=selF h3 hr
 refine Ok.skip (Ok.seq (Ok.region (OkOps.y (aI next) (OkOps.y (aI next) (OkOps.y (.agg [cI next,cI next,.d (.v (.slice none 0 0))]) (OkOps.m 0 (triAlloc (j:=2) (cs:=[cI 0,cI 0,.d (.v (.slice none 0 0))]) rfl rfl rfl rfl) (OkOps.w (triStore (cs':=[cI next,cI next,.d (.v (.slice none 0 0))]) rfl rfl rfl rfl rfl rfl rfl rfl rfl) (OkOps.nil (Ok.seq (Ok.region (OkOps.y (.agg [cI v.Kind,cS v.Key,.d (.sl (List.map Attr.cs v.Attrs)),.d (.sl (List.map Action.cs v.Actions)),.d (.sl (List.map View.cs v.Kids))]) (OkOps.y (.agg [cI next,cI next,.d (.v (.slice none 0 0))]) (OkOps.conv (Conv.nilAg 25 2 3 (.vec 7 (List.map Node.cs ([] : (List Node)))) (.own 3) [cI next,cI next,.d (.v (.slice none 0 0))] [cI next,cI next,.own 3] 0 rfl rfl rfl rfl (nil_vec Node.cs 7 3) (fun _ _ h=>h.symm)) ?_)))))))))))))
 obtain ⟨x4,hx4,hr⟩:=bind_some hr
 refine OkOps.m2 0 (triCall (tau [(0,3),(2000,4)]) (.s (.agg [cI x4.Root,cI x4.Next,.own 4])) [(3,.dead),(4,.vec 7 (List.map Node.cs x4.Nodes))] (r14_build_c _ _ _ _ hx4) rfl ⟨.inl rfl,.inl rfl,.inl rfl,trivial⟩ trivial entry26 ⟨rfl,trivial⟩ rfl rfl rfl rfl ⟨rfl,trivial⟩ rfl rfl rfl) (OkOps.w (triStoreF (cs':=[cI x4.Root,cI x4.Next,.own 4]) rfl rfl rfl rfl rfl rfl rfl rfl) (OkOps.y (aI 0) (OkOps.nil (Ok.conv (Conv.freezeV (enc:=Node.cs) (L:=x4.Nodes) [(26,.s (.agg [cI x4.Root,cI x4.Next,.d (.sl (List.map Node.cs x4.Nodes))]))] [(1,.blk [cI x4.Root,cI x4.Next,.d (.sl (List.map Node.cs x4.Nodes))] 46)] 4 0 rfl (fun _=>rfl) ⟨⟨_,rfl,rfl⟩,trivial⟩ ⟨⟨_,_,rfl,rfl⟩,trivial⟩) (Ok.ret ?_)))))
 obtain rfl:=Option.some.inj hr
 exact ⟨_,rfl,.inl rfl,trivial⟩
end Go.Proofs.YtfoigppmcelgfaaDoor
end
section
set_option maxRecDepth 100000
namespace Go.Proofs.YtfoigppmcelgfaaDoor
open Go Go.E2
theorem b_New_c (l : (List Int)) {r : widgetrybase_Src} (hr : b_New l = some r) : Con Tryd.prog 7 [.c (.d (.sl (List.map (eInt .i64) l)))] [] (.s (.c (.loc 0 0))) [(0,.blk [.d (.sl (List.map (eInt .i64) r.L)),cI r.At] 77)]:=by
 unfold b_New at hr
 refine Con.of_ok 11 0 [.tmp 2] [(0,.s (.c (.d (.sl (List.map (eInt .i64) l)))))] Tryd.func7 rfl rfl rfl rfl rfl rfl rfl rfl fun w g M ρ _=>(Ok.seq (Ok.region (OkOps.y (.c (.d (.v (.pointer none)))) (OkOps.nil ?_))))
 obtain ⟨k2,hk2,hr⟩:=jn_some hr
 refine Ok.join (fun (s1 : (List Int))=>⟨[(0,.s (.c (.d (.sl (List.map (eInt .i64) s1)))))],[],0⟩) k2 r (fun s1 hr=>?_) ?_
 rw [hk2] at hr
 refine Ok.seq (Ok.region (OkOps.y (.c (.d (.sl (List.map (eInt .i64) s1)))) (OkOps.y (.agg [.d (.sl (List.map (eInt .i64) s1)),cI 0]) (OkOps.m 0 (triBox (j:=0) (cs:=[.d (.sl (List.map (eInt .i64) s1)),cI 0]) rfl rfl rfl rfl rfl) (OkOps.y (.c (.loc 0 0)) (OkOps.nil (Ok.ret ?_)))))))
 obtain rfl:=Option.some.inj hr
 exact ⟨_,rfl,.inl rfl,⟨rfl,trivial⟩⟩
 clear hk2
 refine Ok.seq (Ok.region (OkOps.y (.c (.d (.sl (List.map (eInt .i64) l)))) (OkOps.q (triLen (enc:=(eInt .i64)) l rfl rfl trivial rfl) (OkOps.y (aB (decide ((l.length : Int) > 4000))) (OkOps.nil ?_)))))
 refine Ok.cond (b:=decide ((l.length : Int) > 4000)) rfl (fun h3=>?_) (fun h3=>?_)
 have hr:=selT h3 hr
 refine Ok.region (OkOps.y (.c (.d (.sl (List.map (eInt .i64) l)))) ?_)
 obtain ⟨x4,hx4,hr⟩:=bind_some hr
 refine OkOps.q (triSlc (enc:=(eInt .i64)) (L:=l) hx4 rfl rfl rfl (.inl ⟨rfl,rfl⟩) (.inr ⟨_,rfl⟩) rfl (fun _=>rfl) trivial rfl) (OkOps.y (.c (.d (.sl (List.map (eInt .i64) x4)))) (OkOps.nil ?_))
 exact ⟨x4,hr,(Conv.mk (tau []) ⟨⟨_,rfl,.inl rfl⟩,trivial⟩ trivial rfl rfl rfl rfl)⟩
 have hr:=selF h3 hr
 refine Ok.skip ?_
 exact ⟨l,hr,(Conv.mk (tau []) ⟨⟨_,rfl,.inl rfl⟩,trivial⟩ trivial rfl rfl rfl rfl)⟩
theorem b_Src_N_c (p_s : widgetrybase_Src) (p_n : Int) {r : Int × widgetrybase_Src} (hr : b_Src_N p_s p_n = some r) : Con Tryd.prog 10 [.c (.loc 0 0),aI p_n] [(0,.blk [.d (.sl (List.map (eInt .i64) p_s.L)),cI p_s.At] 77)] (.s (aI r.1)) [(0,.blk [.d (.sl (List.map (eInt .i64) r.2.L)),cI r.2.At] 77)]:=by
 unfold b_Src_N at hr
 refine Con.of_ok 45 0 [.tmp 4] [(0,.s (.c (.loc 0 0))),(1,.s (aI p_n))] Tryd.func10 rfl rfl rfl rfl rfl rfl rfl rfl fun w g M ρ _=>(Ok.seq (Ok.region (OkOps.y (aI 0) (OkOps.nil (Ok.seq (Ok.seq (Ok.regionD (by kernel_rfl) (OkD.x (.c (.loc 0 0)) rfl trivial rfl (OkD.x (.c (.loc 0 0)) rfl trivial rfl (OkD.x (.c (.loc 0 1)) rfl trivial rfl (OkD.x (aI p_s.At) rfl trivial rfl (OkD.x (.c (.loc 0 0)) rfl trivial rfl (OkD.x (.c (.loc 0 0)) rfl trivial rfl (OkD.x (.c (.loc 0 0)) rfl trivial rfl (OkD.x (.c (.d (.sl (List.map (eInt .i64) p_s.L)))) rfl trivial rfl ?_)))))))))))))))
 refine OkD.q (triLen (enc:=(eInt .i64)) p_s.L rfl rfl trivial rfl) (OkD.x (aB (decide (p_s.At ≥ (p_s.L.length : Int)))) rfl trivial rfl (OkD.x (aB (decide (p_s.At ≥ (p_s.L.length : Int)))) rfl trivial rfl (OkD.q (triQG (x:=aI p_n) rfl rfl trivial rfl) (OkD.q (triQG (x:=aB (decide (p_n < 1))) rfl rfl ⟨fun h=>h,trivial⟩ rfl) ?_))))
 refine OkD.q (triOr rfl rfl (fun h=>by rw [h];rfl) rfl) ?_
 refine OkD.nil (by kernel_rfl) ?_
 refine Ok.cond (b:=(decide (p_s.At ≥ (p_s.L.length : Int))) || (decide (p_n < 1))) rfl (fun h1=>?_) (fun h1=>?_)
 have hr:=selT h1 hr
 refine Ok.seq (Ok.region (OkOps.y (aI 0) (OkOps.nil (Ok.ret ?_))))
 obtain rfl:=Option.some.inj hr
 exact ⟨_,rfl,.inl rfl,⟨rfl,trivial⟩⟩
 have hr:=selF h1 hr
 refine Ok.skip (Ok.seq (Ok.regionD (by kernel_rfl) (OkD.x (.c (.loc 0 0)) rfl trivial rfl (OkD.x (.c (.loc 0 0)) rfl trivial rfl (OkD.x (.c (.loc 0 0)) rfl trivial rfl (OkD.x (.c (.d (.sl (List.map (eInt .i64) p_s.L)))) rfl trivial rfl (OkD.x (.c (.loc 0 0)) rfl trivial rfl (OkD.x (.c (.loc 0 0)) rfl trivial rfl (OkD.x (.c (.loc 0 1)) rfl trivial rfl (OkD.x (aI p_s.At) rfl trivial rfl ?_))))))))))
 obtain ⟨x2,hx2,hr⟩:=bind_some hr
 refine OkD.q (triIdx (enc:=(eInt .i64)) (L:=p_s.L) (row:=[dI x2]) hx2 rfl rfl rfl rfl (fun _=>rfl) trivial rfl) (OkD.x (aI x2) rfl trivial rfl (OkD.x (aI p_n) rfl trivial rfl ?_))
 obtain ⟨x3,hx3,hr⟩:=bind_some hr
 refine OkD.q (triRem hx3 rfl rfl trivial rfl) (OkD.x (aI x3) rfl trivial rfl (OkD.nil (by kernel_rfl) (Ok.seq (Ok.region (OkOps.y (.c (.loc 0 0)) (OkOps.y (.c (.loc 0 0)) (OkOps.y (.c (.loc 0 1)) (OkOps.y (aI p_s.At) (OkOps.y (aI (IntKind.i64.wrap (p_s.At + 1))) (OkOps.y (.c (.loc 0 0)) (OkOps.y (.c (.loc 0 1)) (OkOps.w (triStore (cs':=[.d (.sl (List.map (eInt .i64) p_s.L)),cI (IntKind.i64.wrap (p_s.At + 1))]) rfl rfl rfl rfl rfl rfl rfl rfl rfl) (OkOps.nil ?_)))))))))))))
 obtain ⟨k5,hk5,hr⟩:=jn_some hr
 refine Ok.join (fun (s4 : Int)=>⟨[(5,.s (aI s4))],[(0,.blk [.d (.sl (List.map (eInt .i64) p_s.L)),cI (IntKind.i64.wrap (p_s.At + 1))] 77)],0⟩) k5 r (fun s4 hr=>?_) ?_
 rw [hk5] at hr
 refine Ok.seq (Ok.region (OkOps.y (aI s4) (OkOps.y (aI s4) (OkOps.nil (Ok.ret ?_)))))
 obtain rfl:=Option.some.inj hr
 exact ⟨_,rfl,.inl rfl,⟨rfl,trivial⟩⟩
 clear hk5
 refine Ok.seq (Ok.region (OkOps.y (aI x3) (OkOps.y (aB (decide (x3 < 0))) (OkOps.nil ?_))))
 refine Ok.cond (b:=decide (x3 < 0)) rfl (fun h6=>?_) (fun h6=>?_)
 have hr:=selT h6 hr
 refine Ok.region (OkOps.y (aI x3) (OkOps.y (aI p_n) (OkOps.y (aI (IntKind.i64.wrap (x3 + p_n))) (OkOps.y (aI (IntKind.i64.wrap (x3 + p_n))) (OkOps.nil ?_)))))
 exact ⟨IntKind.i64.wrap (x3 + p_n),hr,(Conv.mk (tau []) ⟨⟨_,rfl,.inl rfl⟩,trivial⟩ ⟨rfl,trivial⟩ rfl rfl rfl rfl)⟩
 have hr:=selF h6 hr
 refine Ok.skip ?_
 exact ⟨x3,hr,(Conv.mk (tau []) ⟨⟨_,rfl,.inl rfl⟩,trivial⟩ ⟨rfl,trivial⟩ rfl rfl rfl rfl)⟩
theorem b_Src_Range_c (p_s : widgetrybase_Src) (low : Int) (high : Int) {r : Int × widgetrybase_Src} (hr : b_Src_Range p_s low high = some r) : Con Tryd.prog 8 [.c (.loc 0 0),aI low,aI high] [(0,.blk [.d (.sl (List.map (eInt .i64) p_s.L)),cI p_s.At] 77)] (.s (aI r.1)) [(0,.blk [.d (.sl (List.map (eInt .i64) r.2.L)),cI r.2.At] 77)]:=by
 unfold b_Src_Range at hr
 refine Con.of_ok 15 0 [.tmp 6] [(0,.s (.c (.loc 0 0))),(1,.s (aI low)),(2,.s (aI high))] Tryd.func8 rfl rfl rfl rfl rfl rfl rfl rfl fun w g M ρ _=>(Ok.seq (Ok.region (OkOps.y (aI 0) (OkOps.nil (Ok.seq (Ok.region (OkOps.y (aI low) (OkOps.y (.c (.loc 0 0)) (OkOps.y (aI high) (OkOps.y (aI low) (OkOps.y (aI (IntKind.i64.wrap (high - low))) (OkOps.y (aI (IntKind.i64.wrap ((IntKind.i64.wrap (high - low)) + 1))) ?_))))))))))))
 obtain ⟨x1,hx1,hr⟩:=bind_some hr
 refine OkOps.m 0 (triCl (tau [(0,0)]) (.s (aI x1.1)) [(0,.blk [.d (.sl (List.map (eInt .i64) x1.2.L)),cI x1.2.At] 77)] (b_Src_N_c _ _ hx1) rfl ⟨.inl rfl,.inl rfl,trivial⟩ trivial entry10 ⟨rfl,trivial⟩) (OkOps.y (aI (IntKind.i64.wrap (low + x1.1))) (OkOps.y (aI (IntKind.i64.wrap (low + x1.1))) (OkOps.nil (Ok.ret ?_))))
 obtain rfl:=Option.some.inj hr
 exact ⟨_,rfl,.inl rfl,⟨rfl,trivial⟩⟩
end Go.Proofs.YtfoigppmcelgfaaDoor
end

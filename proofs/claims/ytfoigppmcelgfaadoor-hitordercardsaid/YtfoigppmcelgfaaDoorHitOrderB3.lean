/-
  Part 3 of the texts under the law HitOrder: the calculus, the plain functions, their walks, plain facts.
-/
import Derived.Test.YtfoigppmcelgfaaDoorHitOrderB2
import Derived.Test.YtfoigppmcelgfaaDoorProg
import Derived.KernelRfl
import Derived.RangeFuncIn
import Derived.Below
section
set_option maxRecDepth 100000
namespace Go.Proofs.YtfoigppmcelgfaaDoor
open Go Go.E2
theorem r11_letter_c (c : Int) {r : Bool} (hr : r11_letter c = some r) : Con Tryd.prog 99 [.c (.d (.v (.int .u8 c)))] [] (.s (aB r)) []:=by
 unfold r11_letter at hr
 refine Con.of_ok 17 0 [.tmp 2] [(0,.s (.c (.d (.v (.int .u8 c)))))] Tryd.func99 rfl rfl rfl rfl rfl rfl rfl rfl fun w g M ρ _=>(Ok.seq (Ok.region (OkOps.y (aB false) (OkOps.nil (Ok.seq (Ok.region (OkOps.y (.c (.d (.v (.int .u8 c)))) (OkOps.y (aB (decide (c ≥ 97))) (OkOps.y (aB (decide (c ≥ 97))) (OkOps.q (triQG (x:=.c (.d (.v (.int .u8 c)))) rfl rfl trivial rfl) (OkOps.q (triQG (x:=aB (decide (c ≤ 122))) rfl rfl ⟨fun h=>h,trivial⟩ rfl) (OkOps.q (triAnd rfl rfl (fun h=>h) rfl) (OkOps.y (aB ((decide (c ≥ 97)) && (decide (c ≤ 122)))) (OkOps.q (triQG (x:=.c (.d (.v (.int .u8 c)))) rfl rfl trivial rfl) (OkOps.q (triQG (x:=aB (decide (c ≥ 65))) rfl rfl ⟨fun h=>h,trivial⟩ rfl) ?_)))))))))))))))
 refine OkOps.q (triQG (x:=aB (decide (c ≥ 65))) rfl rfl ⟨fun h=>h,trivial⟩ rfl) (OkOps.q (triQG (x:=.c (.d (.v (.int .u8 c)))) rfl rfl trivial rfl) (OkOps.q (triQG (x:=aB (decide (c ≤ 90))) rfl rfl ⟨fun h=>h,trivial⟩ rfl) ?_))
 refine OkOps.q (triAndG rfl rfl rfl (fun h=>h) (fun h h2=>by rw [h,h2];rfl) rfl) ?_
 refine OkOps.q (triOr rfl rfl (fun h=>by rw [h];rfl) rfl) ?_
 refine OkOps.y (aB (((decide (c ≥ 97)) && (decide (c ≤ 122))) || ((decide (c ≥ 65)) && (decide (c ≤ 90))))) (OkOps.nil (Ok.ret ?_))
 obtain rfl:=Option.some.inj hr
 exact ⟨_,rfl,.inl rfl,trivial⟩
theorem r11_Name_c (p_s : Str) {r : Bool} (hr : r11_Name p_s = some r) : Con Tryd.prog 76 [aS p_s] [] (.s (aB r)) []:=by
 unfold r11_Name at hr
 refine Con.of_ok 53 0 [.tmp 2] [(0,.s (aS p_s))] Tryd.func76 rfl rfl rfl rfl rfl rfl rfl rfl fun w g M ρ _=>(Ok.seq (Ok.region (OkOps.y (aB false) (OkOps.nil (Ok.seq (Ok.seq (Ok.region (OkOps.y (aS p_s) (OkOps.y (aI (p_s.size : Int)) (OkOps.y (aB (decide ((p_s.size : Int) < 1))) (OkOps.y (aB (decide ((p_s.size : Int) < 1))) (OkOps.q (triQG (x:=aS p_s) rfl rfl trivial rfl) (OkOps.q (triQG (x:=aI (p_s.size : Int)) rfl rfl ⟨fun h=>h,trivial⟩ rfl) (OkOps.q (triQG (x:=aB (decide ((p_s.size : Int) > 24))) rfl rfl ⟨fun h=>h,trivial⟩ rfl) ?_))))))))))))))
 refine OkOps.q (triOr rfl rfl (fun h=>by rw [h];rfl) rfl) ?_
 refine OkOps.y (aB ((decide ((p_s.size : Int) < 1)) || (decide ((p_s.size : Int) > 24)))) (OkOps.q (triQG (x:=aS p_s) rfl rfl trivial rfl) ?_)
 obtain ⟨x1,hx1,hr⟩:=bind_some hr
 refine OkOps.q (triSIdxG (gO_t hx1) rfl rfl rfl rfl ⟨fun h=>h,trivial⟩ rfl) ?_
 obtain ⟨x2,hx2,hr⟩:=bind_some hr
 refine OkOps.q (triCallG (x:=aB x2) (fun hg=>r11_letter_c _ (gO_t hx2 hg)) rfl rfl ⟨.inl rfl,trivial⟩ ⟨fun h=>h,trivial⟩ entry99 rfl rfl rfl) (OkOps.q (triQG (x:=aB (!x2)) rfl rfl ⟨fun h=>h,trivial⟩ rfl) ?_)
 refine OkOps.q (triOr rfl rfl (fun h=>by rw [h];rfl) rfl) ?_
 refine OkOps.nil ?_
 refine Ok.cond (b:=((decide ((p_s.size : Int) < 1)) || (decide ((p_s.size : Int) > 24))) || (!x2)) rfl (fun h3=>?_) (fun h3=>?_)
 have hr:=selT h3 hr
 refine Ok.seq (Ok.region (OkOps.y (aB false) (OkOps.nil (Ok.ret ?_))))
 obtain rfl:=Option.some.inj hr
 exact ⟨_,rfl,.inl rfl,trivial⟩
 have hr:=selF h3 hr
 refine Ok.skip ?_
 obtain ⟨k5,hk5,hr⟩:=jn_some hr
 refine Ok.join (fun (s4 : Unit)=>⟨[],[],0⟩) k5 r (fun s4 hr=>?_) ?_
 rw [hk5] at hr
 refine Ok.seq (Ok.region (OkOps.y (aB true) (OkOps.nil (Ok.ret ?_))))
 obtain rfl:=Option.some.inj hr
 exact ⟨_,rfl,.inl rfl,trivial⟩
 clear hk5
 refine Ok.seq (Ok.region (OkOps.y (aI 1) (OkOps.nil (Ok.block (Ok.loopK (fun (s6 : Int)=>⟨[(0,.s (aS p_s)),(3,.s (aI s6))],[],0⟩) hr (Conv.mk (tau []) ⟨⟨_,rfl,.inl rfl⟩,⟨_,rfl,.inl rfl⟩,trivial⟩ trivial rfl rfl rfl rfl) ?_)))))
 clear hr
 intro again7 s6 hr
 unfold r11_Name_L1 at hr
 refine Ok.seq (Ok.seq (Ok.region (OkOps.y (aI s6) (OkOps.y (aS p_s) (OkOps.y (aI (p_s.size : Int)) (OkOps.y (aB (decide (s6 < (p_s.size : Int)))) (OkOps.nil ?_)))))))
 refine Ok.cond (b:=decide (s6 < (p_s.size : Int))) rfl (fun h8=>?_) (fun h8=>?_)
 have hr:=selT h8 hr
 refine Ok.skip (Ok.seq (Ok.block (Ok.seq (Ok.region (OkOps.y (aS p_s) (OkOps.y (aI s6) ?_))))))
 obtain ⟨x9,hx9,hr⟩:=bind_some hr
 refine OkOps.q (triSIdx hx9 rfl rfl rfl trivial rfl) ?_
 obtain ⟨x10,hx10,hr⟩:=bind_some hr
 refine OkOps.q (triCl (tau []) (.s (aB x10)) [] (r11_letter_c _ hx10) rfl ⟨.inl rfl,trivial⟩ trivial entry99 trivial) (OkOps.y (aB (!x10)) (OkOps.y (aB (!x10)) (OkOps.q (triQG (x:=aS p_s) rfl rfl trivial rfl) (OkOps.q (triQG (x:=aI s6) rfl rfl trivial rfl) ?_))))
 obtain ⟨x11,hx11,hr⟩:=bind_some hr
 refine OkOps.q (triSIdxG (gO_t hx11) rfl rfl rfl rfl ⟨fun h=>h,⟨fun h=>h,trivial⟩⟩ rfl) (OkOps.q (triQG (x:=aB (decide (x11 < 48))) rfl rfl ⟨fun h=>h,trivial⟩ rfl) (OkOps.q (triQG (x:=aB (decide (x11 < 48))) rfl rfl ⟨fun h=>h,trivial⟩ rfl) (OkOps.q (triQG (x:=aS p_s) rfl rfl trivial rfl) (OkOps.q (triQG (x:=aI s6) rfl rfl trivial rfl) ?_))))
 obtain ⟨x12,hx12,hr⟩:=bind_some hr
 refine OkOps.q (triSIdxG (gO_t hx12) rfl rfl rfl rfl ⟨fun h=>h,⟨fun h=>h,trivial⟩⟩ rfl) (OkOps.q (triQG (x:=aB (decide (x12 > 57))) rfl rfl ⟨fun h=>h,trivial⟩ rfl) ?_)
 refine OkOps.q (triOrG rfl rfl rfl (fun h=>h) (fun h h2=>by rw [h,h2];rfl) rfl) ?_
 refine OkOps.q (triAnd rfl rfl (fun h=>h) rfl) (OkOps.y (aB ((!x10) && ((decide (x11 < 48)) || (decide (x12 > 57))))) (OkOps.q (triQG (x:=aS p_s) rfl rfl trivial rfl) (OkOps.q (triQG (x:=aI s6) rfl rfl trivial rfl) ?_)))
 obtain ⟨x13,hx13,hr⟩:=bind_some hr
 refine OkOps.q (triSIdxG (gO_t hx13) rfl rfl rfl rfl ⟨fun h=>h,⟨fun h=>h,trivial⟩⟩ rfl) (OkOps.q (triQG (x:=aB (x13 != 45)) rfl rfl ⟨fun h=>h,trivial⟩ rfl) (OkOps.q (triAnd rfl rfl (fun h=>h) rfl) (OkOps.y (aB (((!x10) && ((decide (x11 < 48)) || (decide (x12 > 57)))) && (x13 != 45))) (OkOps.q (triQG (x:=aS p_s) rfl rfl trivial rfl) (OkOps.q (triQG (x:=aI s6) rfl rfl trivial rfl) ?_)))))
 obtain ⟨x14,hx14,hr⟩:=bind_some hr
 refine OkOps.q (triSIdxG (gO_t hx14) rfl rfl rfl rfl ⟨fun h=>h,⟨fun h=>h,trivial⟩⟩ rfl) (OkOps.q (triQG (x:=aB (x14 != 95)) rfl rfl ⟨fun h=>h,trivial⟩ rfl) (OkOps.q (triAnd rfl rfl (fun h=>h) rfl) (OkOps.nil ?_)))
 refine Ok.cond (b:=(((!x10) && ((decide (x11 < 48)) || (decide (x12 > 57)))) && (x13 != 45)) && (x14 != 95)) rfl (fun h15=>?_) (fun h15=>?_)
 have hr:=selT h15 hr
 refine Ok.seq (Ok.region (OkOps.y (aB false) (OkOps.nil (Ok.ret ?_))))
 obtain rfl:=Option.some.inj hr
 exact ⟨_,rfl,.inl rfl,trivial⟩
 have hr:=selF h15 hr
 refine Ok.skip (Ok.region (OkOps.y (aI s6) (OkOps.y (aI (IntKind.i64.wrap (s6 + 1))) (OkOps.y (aI (IntKind.i64.wrap (s6 + 1))) (OkOps.nil ?_)))))
 exact ⟨IntKind.i64.wrap (s6 + 1),hr,(Conv.mk (tau []) ⟨⟨_,rfl,.inl rfl⟩,⟨_,rfl,.inl rfl⟩,trivial⟩ trivial rfl rfl rfl rfl)⟩
 have hr:=selF h8 hr
 refine Ok.exit ?_
 exact ⟨(),hr,(Conv.mk (tau []) trivial trivial rfl rfl rfl rfl)⟩
theorem ex_Name_c (p_s : Str) {r : Bool} (hr : ex_Name p_s = some r) : Con Tryd.prog 128 [aS p_s] [] (.s (aB r)) []:=by
 unfold ex_Name at hr
 refine Con.of_ok 59 0 [.tmp 2] [(0,.s (aS p_s))] Tryd.func128 rfl rfl rfl rfl rfl rfl rfl rfl fun w g M ρ _=>(Ok.seq (Ok.region (OkOps.y (aB false) (OkOps.nil (Ok.seq (Ok.seq (Ok.region (OkOps.y (aS p_s) (OkOps.y (aI (p_s.size : Int)) (OkOps.y (aB ((p_s.size : Int) == 0)) (OkOps.y (aB ((p_s.size : Int) == 0)) (OkOps.q (triQG (x:=aS p_s) rfl rfl trivial rfl) (OkOps.q (triQG (x:=aI (p_s.size : Int)) rfl rfl ⟨fun h=>h,trivial⟩ rfl) (OkOps.q (triQG (x:=aB (decide ((p_s.size : Int) > 24))) rfl rfl ⟨fun h=>h,trivial⟩ rfl) ?_))))))))))))))
 refine OkOps.q (triOr rfl rfl (fun h=>by rw [h];rfl) rfl) ?_
 refine OkOps.nil ?_
 refine Ok.cond (b:=((p_s.size : Int) == 0) || (decide ((p_s.size : Int) > 24))) rfl (fun h1=>?_) (fun h1=>?_)
 have hr:=selT h1 hr
 refine Ok.seq (Ok.region (OkOps.y (aB false) (OkOps.nil (Ok.ret ?_))))
 obtain rfl:=Option.some.inj hr
 exact ⟨_,rfl,.inl rfl,trivial⟩
 have hr:=selF h1 hr
 refine Ok.skip ?_
 obtain ⟨k3,hk3,hr⟩:=jn_some hr
 refine Ok.join (fun (s2 : Unit)=>⟨[],[],0⟩) k3 r (fun s2 hr=>?_) ?_
 rw [hk3] at hr
 refine Ok.seq (Ok.region (OkOps.y (aB true) (OkOps.nil (Ok.ret ?_))))
 obtain rfl:=Option.some.inj hr
 exact ⟨_,rfl,.inl rfl,trivial⟩
 clear hk3
 refine Ok.seq (Ok.region (OkOps.y (aS p_s) (OkOps.y (aI (p_s.size : Int)) (OkOps.y (aI 0) (OkOps.nil (Ok.block (Ok.loopK (fun (s4 : Int)=>⟨[(0,.s (aS p_s)),(15,.s (aI (p_s.size : Int))),(16,.s (aI s4))],[],0⟩) hr (Conv.mk (tau []) ⟨⟨_,rfl,.inl rfl⟩,⟨_,rfl,.inl rfl⟩,⟨_,rfl,.inl rfl⟩,trivial⟩ trivial rfl rfl rfl rfl) ?_)))))))
 clear hr
 intro again5 s4 hr
 unfold ex_Name_L1 at hr
 refine Ok.seq (Ok.region (OkOps.y (aB (decide (s4 < (p_s.size : Int)))) (OkOps.nil (Ok.seq ?_))))
 refine Ok.cond (b:=decide (s4 < (p_s.size : Int))) rfl (fun h6=>?_) (fun h6=>?_)
 have hr:=selT h6 hr
 refine Ok.skip (Ok.seq (Ok.block (Ok.seq (Ok.region (OkOps.y (aI s4) (OkOps.y (aI s4) (OkOps.nil (Ok.seq (Ok.region (OkOps.y (aS p_s) (OkOps.y (aI s4) ?_)))))))))))
 obtain ⟨x7,hx7,hr⟩:=bind_some hr
 refine OkOps.q (triSIdx hx7 rfl rfl rfl trivial rfl) (OkOps.y (.c (.d (.v (.int .u8 x7)))) (OkOps.nil (Ok.seq (Ok.region (OkOps.y (.c (.d (.v (.int .u8 x7)))) (OkOps.y (aB (decide (x7 ≥ 97))) (OkOps.y (aB (decide (x7 ≥ 97))) (OkOps.q (triQG (x:=.c (.d (.v (.int .u8 x7)))) rfl rfl trivial rfl) (OkOps.q (triQG (x:=aB (decide (x7 ≤ 122))) rfl rfl ⟨fun h=>h,trivial⟩ rfl) (OkOps.q (triAnd rfl rfl (fun h=>h) rfl) (OkOps.y (aB ((decide (x7 ≥ 97)) && (decide (x7 ≤ 122)))) (OkOps.q (triQG (x:=.c (.d (.v (.int .u8 x7)))) rfl rfl trivial rfl) (OkOps.q (triQG (x:=aB (decide (x7 ≥ 65))) rfl rfl ⟨fun h=>h,trivial⟩ rfl) (OkOps.q (triQG (x:=aB (decide (x7 ≥ 65))) rfl rfl ⟨fun h=>h,trivial⟩ rfl) (OkOps.q (triQG (x:=.c (.d (.v (.int .u8 x7)))) rfl rfl trivial rfl) ?_)))))))))))))))
 refine OkOps.q (triQG (x:=aB (decide (x7 ≤ 90))) rfl rfl ⟨fun h=>h,trivial⟩ rfl) ?_
 refine OkOps.q (triAndG rfl rfl rfl (fun h=>h) (fun h h2=>by rw [h,h2];rfl) rfl) ?_
 refine OkOps.q (triOr rfl rfl (fun h=>by rw [h];rfl) rfl) ?_
 refine OkOps.y (aB (((decide (x7 ≥ 97)) && (decide (x7 ≤ 122))) || ((decide (x7 ≥ 65)) && (decide (x7 ≤ 90))))) (OkOps.nil (Ok.seq (Ok.region (OkOps.y (aB (((decide (x7 ≥ 97)) && (decide (x7 ≤ 122))) || ((decide (x7 ≥ 65)) && (decide (x7 ≤ 90))))) (OkOps.y (aB (!(((decide (x7 ≥ 97)) && (decide (x7 ≤ 122))) || ((decide (x7 ≥ 65)) && (decide (x7 ≤ 90)))))) (OkOps.y (aB (!(((decide (x7 ≥ 97)) && (decide (x7 ≤ 122))) || ((decide (x7 ≥ 65)) && (decide (x7 ≤ 90)))))) (OkOps.q (triQG (x:=aI s4) rfl rfl trivial rfl) (OkOps.q (triQG (x:=aB (s4 == 0)) rfl rfl ⟨fun h=>h,trivial⟩ rfl) (OkOps.q (triQG (x:=aB (s4 == 0)) rfl rfl ⟨fun h=>h,trivial⟩ rfl) (OkOps.q (triQG (x:=.c (.d (.v (.int .u8 x7)))) rfl rfl trivial rfl) (OkOps.q (triQG (x:=aB (decide (x7 < 48))) rfl rfl ⟨fun h=>h,trivial⟩ rfl) (OkOps.q (triQG (x:=aB (decide (x7 < 48))) rfl rfl ⟨fun h=>h,trivial⟩ rfl) (OkOps.q (triQG (x:=.c (.d (.v (.int .u8 x7)))) rfl rfl trivial rfl) (OkOps.q (triQG (x:=aB (decide (x7 > 57))) rfl rfl ⟨fun h=>h,trivial⟩ rfl) ?_))))))))))))))
 refine OkOps.q (triOrG rfl rfl rfl (fun h=>h) (fun h h2=>by rw [h,h2];rfl) rfl) ?_
 refine OkOps.q (triQG (x:=aB ((decide (x7 < 48)) || (decide (x7 > 57)))) rfl rfl ⟨fun h=>h,trivial⟩ rfl) (OkOps.q (triQG (x:=.c (.d (.v (.int .u8 x7)))) rfl rfl trivial rfl) (OkOps.q (triQG (x:=aB (x7 != 45)) rfl rfl ⟨fun h=>h,trivial⟩ rfl) ?_))
 refine OkOps.q (triAndG rfl rfl rfl (fun h=>h) (fun h h2=>by rw [h,h2];rfl) rfl) ?_
 refine OkOps.q (triQG (x:=aB (((decide (x7 < 48)) || (decide (x7 > 57))) && (x7 != 45))) rfl rfl ⟨fun h=>h,trivial⟩ rfl) (OkOps.q (triQG (x:=.c (.d (.v (.int .u8 x7)))) rfl rfl trivial rfl) (OkOps.q (triQG (x:=aB (x7 != 95)) rfl rfl ⟨fun h=>h,trivial⟩ rfl) ?_))
 refine OkOps.q (triAndG rfl rfl rfl (fun h=>h) (fun h h2=>by rw [h,h2];rfl) rfl) ?_
 refine OkOps.q (triOrG rfl rfl rfl (fun h=>h) (fun h h2=>by rw [h,h2];rfl) rfl) ?_
 refine OkOps.q (triAnd rfl rfl (fun h=>h) rfl) (OkOps.nil ?_)
 refine Ok.cond (b:=(!(((decide (x7 ≥ 97)) && (decide (x7 ≤ 122))) || ((decide (x7 ≥ 65)) && (decide (x7 ≤ 90))))) && ((s4 == 0) || ((((decide (x7 < 48)) || (decide (x7 > 57))) && (x7 != 45)) && (x7 != 95)))) rfl (fun h8=>?_) (fun h8=>?_)
 have hr:=selT h8 hr
 refine Ok.seq (Ok.region (OkOps.y (aB false) (OkOps.nil (Ok.ret ?_))))
 obtain rfl:=Option.some.inj hr
 exact ⟨_,rfl,.inl rfl,trivial⟩
 have hr:=selF h8 hr
 refine Ok.skip (Ok.region (OkOps.y (aI (IntKind.i64.wrap (s4 + 1))) (OkOps.y (aI (IntKind.i64.wrap (s4 + 1))) (OkOps.nil ?_))))
 exact ⟨IntKind.i64.wrap (s4 + 1),hr,(Conv.mk (tau []) ⟨⟨_,rfl,.inl rfl⟩,⟨_,rfl,.inl rfl⟩,⟨_,rfl,.inl rfl⟩,trivial⟩ trivial rfl rfl rfl rfl)⟩
 have hr:=selF h6 hr
 refine Ok.exit ?_
 exact ⟨(),hr,(Conv.mk (tau []) trivial trivial rfl rfl rfl rfl)⟩
theorem r13_Key_c (p_s : Str) {r : Bool} (hr : r13_Key p_s = some r) : Con Tryd.prog 98 [aS p_s] [] (.s (aB r)) []:=by
 unfold r13_Key at hr
 refine Con.of_ok 47 0 [.tmp 2] [(0,.s (aS p_s))] Tryd.func98 rfl rfl rfl rfl rfl rfl rfl rfl fun w g M ρ _=>(Ok.seq (Ok.region (OkOps.y (aB false) (OkOps.nil ?_))))
 obtain ⟨k2,hk2,hr⟩:=jn_some hr
 refine Ok.join (fun (s1 : Unit)=>⟨[(0,.s (aS p_s))],[],0⟩) k2 r (fun s1 hr=>?_) ?_
 rw [hk2] at hr
 refine Ok.seq (Ok.region (OkOps.y (aS p_s) (OkOps.y (aI (p_s.size : Int)) (OkOps.y (aB (decide ((p_s.size : Int) ≤ 24))) (OkOps.y (aB (decide ((p_s.size : Int) ≤ 24))) (OkOps.nil (Ok.ret ?_)))))))
 obtain rfl:=Option.some.inj hr
 exact ⟨_,rfl,.inl rfl,trivial⟩
 clear hk2
 refine Ok.seq (Ok.region (OkOps.y (aI 0) (OkOps.nil (Ok.block (Ok.loopK (fun (s3 : Int)=>⟨[(0,.s (aS p_s)),(3,.s (aI s3))],[],0⟩) hr (Conv.mk (tau []) ⟨⟨_,rfl,.inl rfl⟩,⟨_,rfl,.inl rfl⟩,trivial⟩ trivial rfl rfl rfl rfl) ?_)))))
 clear hr
 intro again4 s3 hr
 unfold r13_Key_L1 at hr
 refine Ok.seq (Ok.seq (Ok.region (OkOps.y (aI s3) (OkOps.y (aS p_s) (OkOps.y (aI (p_s.size : Int)) (OkOps.y (aB (decide (s3 < (p_s.size : Int)))) (OkOps.nil ?_)))))))
 refine Ok.cond (b:=decide (s3 < (p_s.size : Int))) rfl (fun h5=>?_) (fun h5=>?_)
 have hr:=selT h5 hr
 refine Ok.skip (Ok.seq (Ok.block (Ok.seq (Ok.region (OkOps.y (aS p_s) (OkOps.y (aI s3) ?_))))))
 obtain ⟨x6,hx6,hr⟩:=bind_some hr
 refine OkOps.q (triSIdx hx6 rfl rfl rfl trivial rfl) (OkOps.y (.c (.d (.v (.int .u8 x6)))) (OkOps.nil (Ok.seq (Ok.region (OkOps.y (.c (.d (.v (.int .u8 x6)))) (OkOps.y (aB (decide (x6 < 97))) (OkOps.y (aB (decide (x6 < 97))) (OkOps.q (triQG (x:=.c (.d (.v (.int .u8 x6)))) rfl rfl trivial rfl) (OkOps.q (triQG (x:=aB (decide (x6 > 122))) rfl rfl ⟨fun h=>h,trivial⟩ rfl) ?_)))))))))
 refine OkOps.q (triOr rfl rfl (fun h=>by rw [h];rfl) rfl) ?_
 refine OkOps.y (aB ((decide (x6 < 97)) || (decide (x6 > 122)))) (OkOps.q (triQG (x:=.c (.d (.v (.int .u8 x6)))) rfl rfl trivial rfl) (OkOps.q (triQG (x:=aB (decide (x6 < 65))) rfl rfl ⟨fun h=>h,trivial⟩ rfl) (OkOps.q (triQG (x:=aB (decide (x6 < 65))) rfl rfl ⟨fun h=>h,trivial⟩ rfl) (OkOps.q (triQG (x:=.c (.d (.v (.int .u8 x6)))) rfl rfl trivial rfl) (OkOps.q (triQG (x:=aB (decide (x6 > 90))) rfl rfl ⟨fun h=>h,trivial⟩ rfl) ?_)))))
 refine OkOps.q (triOrG rfl rfl rfl (fun h=>h) (fun h h2=>by rw [h,h2];rfl) rfl) ?_
 refine OkOps.q (triAnd rfl rfl (fun h=>h) rfl) (OkOps.y (aB (((decide (x6 < 97)) || (decide (x6 > 122))) && ((decide (x6 < 65)) || (decide (x6 > 90))))) (OkOps.q (triQG (x:=.c (.d (.v (.int .u8 x6)))) rfl rfl trivial rfl) (OkOps.q (triQG (x:=aB (decide (x6 < 48))) rfl rfl ⟨fun h=>h,trivial⟩ rfl) (OkOps.q (triQG (x:=aB (decide (x6 < 48))) rfl rfl ⟨fun h=>h,trivial⟩ rfl) (OkOps.q (triQG (x:=.c (.d (.v (.int .u8 x6)))) rfl rfl trivial rfl) (OkOps.q (triQG (x:=aB (decide (x6 > 57))) rfl rfl ⟨fun h=>h,trivial⟩ rfl) ?_))))))
 refine OkOps.q (triOrG rfl rfl rfl (fun h=>h) (fun h h2=>by rw [h,h2];rfl) rfl) ?_
 refine OkOps.q (triAnd rfl rfl (fun h=>h) rfl) (OkOps.y (aB ((((decide (x6 < 97)) || (decide (x6 > 122))) && ((decide (x6 < 65)) || (decide (x6 > 90)))) && ((decide (x6 < 48)) || (decide (x6 > 57))))) (OkOps.q (triQG (x:=.c (.d (.v (.int .u8 x6)))) rfl rfl trivial rfl) (OkOps.q (triQG (x:=aB (x6 != 45)) rfl rfl ⟨fun h=>h,trivial⟩ rfl) (OkOps.q (triAnd rfl rfl (fun h=>h) rfl) (OkOps.y (aB (((((decide (x6 < 97)) || (decide (x6 > 122))) && ((decide (x6 < 65)) || (decide (x6 > 90)))) && ((decide (x6 < 48)) || (decide (x6 > 57)))) && (x6 != 45))) (OkOps.q (triQG (x:=.c (.d (.v (.int .u8 x6)))) rfl rfl trivial rfl) (OkOps.q (triQG (x:=aB (x6 != 95)) rfl rfl ⟨fun h=>h,trivial⟩ rfl) (OkOps.q (triAnd rfl rfl (fun h=>h) rfl) (OkOps.nil ?_)))))))))
 refine Ok.cond (b:=(((((decide (x6 < 97)) || (decide (x6 > 122))) && ((decide (x6 < 65)) || (decide (x6 > 90)))) && ((decide (x6 < 48)) || (decide (x6 > 57)))) && (x6 != 45)) && (x6 != 95)) rfl (fun h7=>?_) (fun h7=>?_)
 have hr:=selT h7 hr
 refine Ok.seq (Ok.region (OkOps.y (aB false) (OkOps.nil (Ok.ret ?_))))
 obtain rfl:=Option.some.inj hr
 exact ⟨_,rfl,.inl rfl,trivial⟩
 have hr:=selF h7 hr
 refine Ok.skip (Ok.region (OkOps.y (aI s3) (OkOps.y (aI (IntKind.i64.wrap (s3 + 1))) (OkOps.y (aI (IntKind.i64.wrap (s3 + 1))) (OkOps.nil ?_)))))
 exact ⟨IntKind.i64.wrap (s3 + 1),hr,(Conv.mk (tau []) ⟨⟨_,rfl,.inl rfl⟩,⟨_,rfl,.inl rfl⟩,trivial⟩ trivial rfl rfl rfl rfl)⟩
 have hr:=selF h5 hr
 refine Ok.exit ?_
 exact ⟨(),hr,(Conv.mk (tau []) ⟨⟨_,rfl,.inl rfl⟩,trivial⟩ trivial rfl rfl rfl rfl)⟩
theorem r14_Key_c (p_s : Str) {r : Bool} (hr : r14_Key p_s = some r) : Con Tryd.prog 75 [aS p_s] [] (.s (aB r)) []:=by
 unfold r14_Key at hr
 refine Con.of_ok 5 0 [.tmp 2] [(0,.s (aS p_s))] Tryd.func75 rfl rfl rfl rfl rfl rfl rfl rfl fun w g M ρ _=>(Ok.seq (Ok.region (OkOps.y (aB false) (OkOps.nil (Ok.seq (Ok.region (OkOps.y (aS p_s) ?_)))))))
 obtain ⟨x1,hx1,hr⟩:=bind_some hr
 refine OkOps.q (triCl (tau []) (.s (aB x1)) [] (r13_Key_c _ hx1) rfl ⟨.inl rfl,trivial⟩ trivial entry98 trivial) (OkOps.y (aB x1) (OkOps.nil (Ok.ret ?_)))
 obtain rfl:=Option.some.inj hr
 exact ⟨_,rfl,.inl rfl,trivial⟩
theorem vw_Key_c (p_s : Str) {r : Bool} (hr : vw_Key p_s = some r) : Con Tryd.prog 122 [aS p_s] [] (.s (aB r)) []:=by
 unfold vw_Key at hr
 refine Con.of_ok 47 0 [.tmp 2] [(0,.s (aS p_s))] Tryd.func122 rfl rfl rfl rfl rfl rfl rfl rfl fun w g M ρ _=>(Ok.seq (Ok.region (OkOps.y (aB false) (OkOps.nil ?_))))
 obtain ⟨k2,hk2,hr⟩:=jn_some hr
 refine Ok.join (fun (s1 : Unit)=>⟨[(0,.s (aS p_s))],[],0⟩) k2 r (fun s1 hr=>?_) ?_
 rw [hk2] at hr
 refine Ok.seq (Ok.region (OkOps.y (aS p_s) (OkOps.y (aI (p_s.size : Int)) (OkOps.y (aB (decide ((p_s.size : Int) ≤ 24))) (OkOps.y (aB (decide ((p_s.size : Int) ≤ 24))) (OkOps.nil (Ok.ret ?_)))))))
 obtain rfl:=Option.some.inj hr
 exact ⟨_,rfl,.inl rfl,trivial⟩
 clear hk2
 refine Ok.seq (Ok.region (OkOps.y (aS p_s) (OkOps.y (aI (p_s.size : Int)) (OkOps.y (aI 0) (OkOps.nil (Ok.block (Ok.loopK (fun (s3 : Int)=>⟨[(0,.s (aS p_s)),(6,.s (aI (p_s.size : Int))),(7,.s (aI s3))],[],0⟩) hr (Conv.mk (tau []) ⟨⟨_,rfl,.inl rfl⟩,⟨_,rfl,.inl rfl⟩,⟨_,rfl,.inl rfl⟩,trivial⟩ trivial rfl rfl rfl rfl) ?_)))))))
 clear hr
 intro again4 s3 hr
 unfold vw_Key_L1 at hr
 refine Ok.seq (Ok.region (OkOps.y (aB (decide (s3 < (p_s.size : Int)))) (OkOps.nil (Ok.seq ?_))))
 refine Ok.cond (b:=decide (s3 < (p_s.size : Int))) rfl (fun h5=>?_) (fun h5=>?_)
 have hr:=selT h5 hr
 refine Ok.skip (Ok.seq (Ok.block (Ok.seq (Ok.region (OkOps.y (aI s3) (OkOps.y (aI s3) (OkOps.nil (Ok.seq (Ok.region (OkOps.y (aS p_s) (OkOps.y (aI s3) ?_)))))))))))
 obtain ⟨x6,hx6,hr⟩:=bind_some hr
 refine OkOps.q (triSIdx hx6 rfl rfl rfl trivial rfl) (OkOps.y (.c (.d (.v (.int .u8 x6)))) (OkOps.nil (Ok.seq (Ok.region (OkOps.y (.c (.d (.v (.int .u8 x6)))) (OkOps.y (aB (decide (x6 < 97))) (OkOps.y (aB (decide (x6 < 97))) (OkOps.q (triQG (x:=.c (.d (.v (.int .u8 x6)))) rfl rfl trivial rfl) (OkOps.q (triQG (x:=aB (decide (x6 > 122))) rfl rfl ⟨fun h=>h,trivial⟩ rfl) ?_)))))))))
 refine OkOps.q (triOr rfl rfl (fun h=>by rw [h];rfl) rfl) ?_
 refine OkOps.y (aB ((decide (x6 < 97)) || (decide (x6 > 122)))) (OkOps.q (triQG (x:=.c (.d (.v (.int .u8 x6)))) rfl rfl trivial rfl) (OkOps.q (triQG (x:=aB (decide (x6 < 65))) rfl rfl ⟨fun h=>h,trivial⟩ rfl) (OkOps.q (triQG (x:=aB (decide (x6 < 65))) rfl rfl ⟨fun h=>h,trivial⟩ rfl) (OkOps.q (triQG (x:=.c (.d (.v (.int .u8 x6)))) rfl rfl trivial rfl) (OkOps.q (triQG (x:=aB (decide (x6 > 90))) rfl rfl ⟨fun h=>h,trivial⟩ rfl) ?_)))))
 refine OkOps.q (triOrG rfl rfl rfl (fun h=>h) (fun h h2=>by rw [h,h2];rfl) rfl) ?_
 refine OkOps.q (triAnd rfl rfl (fun h=>h) rfl) (OkOps.y (aB (((decide (x6 < 97)) || (decide (x6 > 122))) && ((decide (x6 < 65)) || (decide (x6 > 90))))) (OkOps.q (triQG (x:=.c (.d (.v (.int .u8 x6)))) rfl rfl trivial rfl) (OkOps.q (triQG (x:=aB (decide (x6 < 48))) rfl rfl ⟨fun h=>h,trivial⟩ rfl) (OkOps.q (triQG (x:=aB (decide (x6 < 48))) rfl rfl ⟨fun h=>h,trivial⟩ rfl) (OkOps.q (triQG (x:=.c (.d (.v (.int .u8 x6)))) rfl rfl trivial rfl) (OkOps.q (triQG (x:=aB (decide (x6 > 57))) rfl rfl ⟨fun h=>h,trivial⟩ rfl) ?_))))))
 refine OkOps.q (triOrG rfl rfl rfl (fun h=>h) (fun h h2=>by rw [h,h2];rfl) rfl) ?_
 refine OkOps.q (triAnd rfl rfl (fun h=>h) rfl) (OkOps.y (aB ((((decide (x6 < 97)) || (decide (x6 > 122))) && ((decide (x6 < 65)) || (decide (x6 > 90)))) && ((decide (x6 < 48)) || (decide (x6 > 57))))) (OkOps.q (triQG (x:=.c (.d (.v (.int .u8 x6)))) rfl rfl trivial rfl) (OkOps.q (triQG (x:=aB (x6 != 45)) rfl rfl ⟨fun h=>h,trivial⟩ rfl) (OkOps.q (triAnd rfl rfl (fun h=>h) rfl) (OkOps.y (aB (((((decide (x6 < 97)) || (decide (x6 > 122))) && ((decide (x6 < 65)) || (decide (x6 > 90)))) && ((decide (x6 < 48)) || (decide (x6 > 57)))) && (x6 != 45))) (OkOps.q (triQG (x:=.c (.d (.v (.int .u8 x6)))) rfl rfl trivial rfl) (OkOps.q (triQG (x:=aB (x6 != 95)) rfl rfl ⟨fun h=>h,trivial⟩ rfl) (OkOps.q (triAnd rfl rfl (fun h=>h) rfl) (OkOps.nil ?_)))))))))
 refine Ok.cond (b:=(((((decide (x6 < 97)) || (decide (x6 > 122))) && ((decide (x6 < 65)) || (decide (x6 > 90)))) && ((decide (x6 < 48)) || (decide (x6 > 57)))) && (x6 != 45)) && (x6 != 95)) rfl (fun h7=>?_) (fun h7=>?_)
 have hr:=selT h7 hr
 refine Ok.seq (Ok.region (OkOps.y (aB false) (OkOps.nil (Ok.ret ?_))))
 obtain rfl:=Option.some.inj hr
 exact ⟨_,rfl,.inl rfl,trivial⟩
 have hr:=selF h7 hr
 refine Ok.skip (Ok.region (OkOps.y (aI (IntKind.i64.wrap (s3 + 1))) (OkOps.y (aI (IntKind.i64.wrap (s3 + 1))) (OkOps.nil ?_))))
 exact ⟨IntKind.i64.wrap (s3 + 1),hr,(Conv.mk (tau []) ⟨⟨_,rfl,.inl rfl⟩,⟨_,rfl,.inl rfl⟩,⟨_,rfl,.inl rfl⟩,trivial⟩ trivial rfl rfl rfl rfl)⟩
 have hr:=selF h5 hr
 refine Ok.exit ?_
 exact ⟨(),hr,(Conv.mk (tau []) ⟨⟨_,rfl,.inl rfl⟩,trivial⟩ trivial rfl rfl rfl rfl)⟩
theorem r11_UTF8_c (p_s : Str) {r : Bool} (hr : r11_UTF8 p_s = some r) : Con Tryd.prog 120 [aS p_s] [] (.s (aB r)) []:=by
 unfold r11_UTF8 at hr
 refine Con.of_ok 8 0 [.tmp 2] [(0,.s (aS p_s))] Tryd.func120 rfl rfl rfl rfl rfl rfl rfl rfl fun w g M ρ _=>(Ok.seq (Ok.region (OkOps.y (aB false) (OkOps.nil (Ok.seq (Ok.region (OkOps.y (aS p_s) (OkOps.q (triRunes rfl rfl trivial rfl) (OkOps.q (triOfRunes (L:=runes p_s) rfl rfl trivial rfl) (OkOps.y (aS p_s) (OkOps.y (aB ((ofRunes (runes p_s)).toList == p_s.toList)) (OkOps.y (aB ((ofRunes (runes p_s)).toList == p_s.toList)) (OkOps.nil (Ok.ret ?_))))))))))))))
 obtain rfl:=Option.some.inj hr
 exact ⟨_,rfl,.inl rfl,trivial⟩
theorem ex_fields_c (v : AValue) {r : Bool} (hr : ex_fields v = some r) : Con Tryd.prog 133 [.agg [cI v.Kind,cI v.N,cS v.S,.d (.sl (List.map AValue.cs v.L))]] [] (.s (aB r)) []:=by
 unfold ex_fields at hr
 refine Con.of_ok 38 0 [.tmp 2] [(0,.s (.agg [cI v.Kind,cI v.N,cS v.S,.d (.sl (List.map AValue.cs v.L))]))] Tryd.func133 rfl rfl rfl rfl rfl rfl rfl rfl fun w g M ρ _=>(Ok.seq (Ok.region (OkOps.m 0 (triBox (j:=0) (cs:=[cI v.Kind,cI v.N,cS v.S,.d (.sl (List.map AValue.cs v.L))]) rfl rfl rfl rfl rfl) (OkOps.y (aB false) (OkOps.nil (Ok.seq (Ok.seq (Ok.region (OkOps.y (.c (.loc 0 0)) (OkOps.y (aI v.Kind) (OkOps.nil (Ok.block ?_))))))))))))
 obtain ⟨k2,hk2,hr⟩:=jn_some hr
 refine Ok.join (fun (s1 : Bool)=>⟨[(1,.s (.c (.loc 0 0))),(4,.s (aI v.Kind)),(5,.s (aB s1))],[(0,.blk [cI v.Kind,cI v.N,cS v.S,.d (.sl (List.map AValue.cs v.L))] 62)],0⟩) k2 r (fun s1 hr=>?_) ?_
 rw [hk2] at hr
 refine Ok.cond (b:=s1) rfl (fun h3=>?_) (fun h3=>?_)
 have hr:=selT h3 hr
 refine Ok.seq (Ok.region (OkOps.y (.c (.loc 0 2)) (OkOps.y (aS v.S) (OkOps.y (aB (v.S.toList == (ByteArray.mk #[]).toList)) (OkOps.y (aB (v.S.toList == (ByteArray.mk #[]).toList)) (OkOps.q (triQG (x:=.c (.loc 0 3)) rfl rfl trivial rfl) (OkOps.q (triQG (x:=.c (.d (.sl (List.map AValue.cs v.L)))) rfl rfl ⟨fun h=>h,trivial⟩ rfl) (OkOps.q (triLenG (enc:=AValue.cs) v.L rfl rfl rfl ⟨fun h=>h,trivial⟩ rfl) (OkOps.q (triQG (x:=aB ((v.L.length : Int) == 0)) rfl rfl ⟨fun h=>h,trivial⟩ rfl) (OkOps.q (triAnd rfl rfl (fun h=>h) rfl) (OkOps.y (aB ((v.S.toList == (ByteArray.mk #[]).toList) && ((v.L.length : Int) == 0))) (OkOps.nil (Ok.ret ?_)))))))))))))
 obtain rfl:=Option.some.inj hr
 exact ⟨_,rfl,.inl rfl,trivial⟩
 have hr:=selF h3 hr
 refine Ok.seq (Ok.region (OkOps.y (aB (v.Kind == 3)) (OkOps.y (aB (v.Kind == 3)) (OkOps.nil ?_))))
 refine Ok.cond (b:=v.Kind == 3) rfl (fun h4=>?_) (fun h4=>?_)
 have hr:=selT h4 hr
 refine Ok.seq (Ok.region (OkOps.y (.c (.loc 0 1)) (OkOps.y (aI v.N) (OkOps.y (aB (v.N == 0)) (OkOps.y (aB (v.N == 0)) (OkOps.q (triQG (x:=.c (.loc 0 3)) rfl rfl trivial rfl) (OkOps.q (triQG (x:=.c (.d (.sl (List.map AValue.cs v.L)))) rfl rfl ⟨fun h=>h,trivial⟩ rfl) (OkOps.q (triLenG (enc:=AValue.cs) v.L rfl rfl rfl ⟨fun h=>h,trivial⟩ rfl) (OkOps.q (triQG (x:=aB ((v.L.length : Int) == 0)) rfl rfl ⟨fun h=>h,trivial⟩ rfl) (OkOps.q (triAnd rfl rfl (fun h=>h) rfl) (OkOps.y (aB ((v.N == 0) && ((v.L.length : Int) == 0))) (OkOps.nil (Ok.ret ?_)))))))))))))
 obtain rfl:=Option.some.inj hr
 exact ⟨_,rfl,.inl rfl,trivial⟩
 have hr:=selF h4 hr
 refine Ok.seq (Ok.region (OkOps.y (aB (v.Kind == 4)) (OkOps.y (aB (v.Kind == 4)) (OkOps.nil ?_))))
 refine Ok.cond (b:=v.Kind == 4) rfl (fun h5=>?_) (fun h5=>?_)
 have hr:=selT h5 hr
 refine Ok.seq (Ok.region (OkOps.y (.c (.loc 0 1)) (OkOps.y (aI v.N) (OkOps.y (aB (v.N == 0)) (OkOps.y (aB (v.N == 0)) (OkOps.q (triQG (x:=.c (.loc 0 2)) rfl rfl trivial rfl) (OkOps.q (triQG (x:=aS v.S) rfl rfl ⟨fun h=>h,trivial⟩ rfl) (OkOps.q (triQG (x:=aB (v.S.toList == (ByteArray.mk #[]).toList)) rfl rfl ⟨fun h=>h,trivial⟩ rfl) (OkOps.q (triAnd rfl rfl (fun h=>h) rfl) (OkOps.y (aB ((v.N == 0) && (v.S.toList == (ByteArray.mk #[]).toList))) (OkOps.nil (Ok.ret ?_))))))))))))
 obtain rfl:=Option.some.inj hr
 exact ⟨_,rfl,.inl rfl,trivial⟩
 have hr:=selF h5 hr
 refine Ok.skip (Ok.seq (Ok.region (OkOps.y (aB false) (OkOps.nil (Ok.ret ?_)))))
 obtain rfl:=Option.some.inj hr
 exact ⟨_,rfl,.inl rfl,trivial⟩
 clear hk2
 refine Ok.seq (Ok.region (OkOps.y (aB (v.Kind == 1)) (OkOps.y (aB (v.Kind == 1)) (OkOps.nil ?_))))
 refine Ok.cond (b:=v.Kind == 1) rfl (fun h6=>?_) (fun h6=>?_)
 have hr:=selT h6 hr
 refine Ok.skip ?_
 exact ⟨v.Kind == 1,hr,(Conv.mk (tau []) ⟨⟨_,rfl,.inl rfl⟩,⟨_,rfl,.inl rfl⟩,⟨_,rfl,.inl rfl⟩,trivial⟩ ⟨rfl,trivial⟩ rfl rfl rfl rfl)⟩
 have hr:=selF h6 hr
 refine Ok.region (OkOps.y (aB (v.Kind == 2)) (OkOps.y (aB (v.Kind == 2)) (OkOps.nil ?_)))
 exact ⟨v.Kind == 2,hr,(Conv.mk (tau []) ⟨⟨_,rfl,.inl rfl⟩,⟨_,rfl,.inl rfl⟩,⟨_,rfl,.inl rfl⟩,trivial⟩ ⟨rfl,trivial⟩ rfl rfl rfl rfl)⟩
theorem ex_within_c (p_n : Int) {r : Bool} (hr : ex_within p_n = some r) : Con Tryd.prog 134 [aI p_n] [] (.s (aB r)) []:=by
 unfold ex_within at hr
 refine Con.of_ok 9 0 [.tmp 2] [(0,.s (aI p_n))] Tryd.func134 rfl rfl rfl rfl rfl rfl rfl rfl fun w g M ρ _=>(Ok.seq (Ok.region (OkOps.y (aB false) (OkOps.nil (Ok.seq (Ok.region (OkOps.y (aI p_n) (OkOps.y (aB (decide (p_n ≥ (-1099511627776)))) (OkOps.y (aB (decide (p_n ≥ (-1099511627776)))) (OkOps.q (triQG (x:=aI p_n) rfl rfl trivial rfl) (OkOps.q (triQG (x:=aB (decide (p_n ≤ 1099511627776))) rfl rfl ⟨fun h=>h,trivial⟩ rfl) (OkOps.q (triAnd rfl rfl (fun h=>h) rfl) (OkOps.y (aB ((decide (p_n ≥ (-1099511627776))) && (decide (p_n ≤ 1099511627776)))) (OkOps.nil (Ok.ret ?_)))))))))))))))
 obtain rfl:=Option.some.inj hr
 exact ⟨_,rfl,.inl rfl,trivial⟩
theorem unicode_utf8_word_string_c (p_s : Str) {r : Int} (hr : unicode_utf8_word_string p_s = some r) : Con Tryd.prog 138 [aS p_s] [] (.s (.c (.d (.v (.int .u64 r))))) []:=by
 unfold unicode_utf8_word_string at hr
 refine Con.of_ok 59 0 [.tmp 2] [(0,.s (aS p_s))] Tryd.func138 rfl rfl rfl rfl rfl rfl rfl rfl fun w g M ρ _=>(Ok.seq (Ok.region (OkOps.y (.c (.d (.v (.int .u64 0)))) (OkOps.nil (Ok.seq ?_)))))
 refine Ok.cond (b:=false) rfl (fun h=>by cases h) (fun _=>?_)
 refine Ok.skip (Ok.seq (Ok.regionD (by kernel_rfl) (OkD.x (aS p_s) rfl trivial rfl ?_)))
 obtain ⟨x2,hx2,hr⟩:=bind_some hr
 refine OkD.q (triSIdx hx2 rfl rfl rfl trivial rfl) (OkD.x (.c (.d (.v (.int .u64 (IntKind.u64.wrap x2))))) rfl trivial rfl (OkD.x (aS p_s) rfl trivial rfl ?_))
 obtain ⟨x3,hx3,hr⟩:=bind_some hr
 refine OkD.q (triSIdx hx3 rfl rfl rfl trivial rfl) (OkD.x (.c (.d (.v (.int .u64 (IntKind.u64.wrap x3))))) rfl trivial rfl (OkD.x (.c (.d (.v (.int .u64 (bShl .u64 (IntKind.u64.wrap x3) 8))))) rfl trivial rfl (OkD.x (.c (.d (.v (.int .u64 (bOr .u64 (IntKind.u64.wrap x2) (bShl .u64 (IntKind.u64.wrap x3) 8)))))) rfl trivial rfl (OkD.x (aS p_s) rfl trivial rfl ?_))))
 obtain ⟨x4,hx4,hr⟩:=bind_some hr
 refine OkD.q (triSIdx hx4 rfl rfl rfl trivial rfl) (OkD.x (.c (.d (.v (.int .u64 (IntKind.u64.wrap x4))))) rfl trivial rfl (OkD.x (.c (.d (.v (.int .u64 (bShl .u64 (IntKind.u64.wrap x4) 16))))) rfl trivial rfl (OkD.x (.c (.d (.v (.int .u64 (bOr .u64 (bOr .u64 (IntKind.u64.wrap x2) (bShl .u64 (IntKind.u64.wrap x3) 8)) (bShl .u64 (IntKind.u64.wrap x4) 16)))))) rfl trivial rfl (OkD.x (aS p_s) rfl trivial rfl ?_))))
 obtain ⟨x5,hx5,hr⟩:=bind_some hr
 refine OkD.q (triSIdx hx5 rfl rfl rfl trivial rfl) (OkD.x (.c (.d (.v (.int .u64 (IntKind.u64.wrap x5))))) rfl trivial rfl (OkD.x (.c (.d (.v (.int .u64 (bShl .u64 (IntKind.u64.wrap x5) 24))))) rfl trivial rfl (OkD.x (.c (.d (.v (.int .u64 (bOr .u64 (bOr .u64 (bOr .u64 (IntKind.u64.wrap x2) (bShl .u64 (IntKind.u64.wrap x3) 8)) (bShl .u64 (IntKind.u64.wrap x4) 16)) (bShl .u64 (IntKind.u64.wrap x5) 24)))))) rfl trivial rfl (OkD.x (aS p_s) rfl trivial rfl ?_))))
 obtain ⟨x6,hx6,hr⟩:=bind_some hr
 refine OkD.q (triSIdx hx6 rfl rfl rfl trivial rfl) (OkD.x (.c (.d (.v (.int .u64 (IntKind.u64.wrap x6))))) rfl trivial rfl (OkD.x (.c (.d (.v (.int .u64 (bShl .u64 (IntKind.u64.wrap x6) 32))))) rfl trivial rfl (OkD.x (.c (.d (.v (.int .u64 (bOr .u64 (bOr .u64 (bOr .u64 (bOr .u64 (IntKind.u64.wrap x2) (bShl .u64 (IntKind.u64.wrap x3) 8)) (bShl .u64 (IntKind.u64.wrap x4) 16)) (bShl .u64 (IntKind.u64.wrap x5) 24)) (bShl .u64 (IntKind.u64.wrap x6) 32)))))) rfl trivial rfl (OkD.x (aS p_s) rfl trivial rfl ?_))))
 obtain ⟨x7,hx7,hr⟩:=bind_some hr
 refine OkD.q (triSIdx hx7 rfl rfl rfl trivial rfl) (OkD.x (.c (.d (.v (.int .u64 (IntKind.u64.wrap x7))))) rfl trivial rfl (OkD.x (.c (.d (.v (.int .u64 (bShl .u64 (IntKind.u64.wrap x7) 40))))) rfl trivial rfl (OkD.x (.c (.d (.v (.int .u64 (bOr .u64 (bOr .u64 (bOr .u64 (bOr .u64 (bOr .u64 (IntKind.u64.wrap x2) (bShl .u64 (IntKind.u64.wrap x3) 8)) (bShl .u64 (IntKind.u64.wrap x4) 16)) (bShl .u64 (IntKind.u64.wrap x5) 24)) (bShl .u64 (IntKind.u64.wrap x6) 32)) (bShl .u64 (IntKind.u64.wrap x7) 40)))))) rfl trivial rfl (OkD.x (aS p_s) rfl trivial rfl ?_))))
 obtain ⟨x8,hx8,hr⟩:=bind_some hr
 refine OkD.q (triSIdx hx8 rfl rfl rfl trivial rfl) (OkD.x (.c (.d (.v (.int .u64 (IntKind.u64.wrap x8))))) rfl trivial rfl (OkD.x (.c (.d (.v (.int .u64 (bShl .u64 (IntKind.u64.wrap x8) 48))))) rfl trivial rfl (OkD.x (.c (.d (.v (.int .u64 (bOr .u64 (bOr .u64 (bOr .u64 (bOr .u64 (bOr .u64 (bOr .u64 (IntKind.u64.wrap x2) (bShl .u64 (IntKind.u64.wrap x3) 8)) (bShl .u64 (IntKind.u64.wrap x4) 16)) (bShl .u64 (IntKind.u64.wrap x5) 24)) (bShl .u64 (IntKind.u64.wrap x6) 32)) (bShl .u64 (IntKind.u64.wrap x7) 40)) (bShl .u64 (IntKind.u64.wrap x8) 48)))))) rfl trivial rfl (OkD.x (aS p_s) rfl trivial rfl ?_))))
 obtain ⟨x9,hx9,hr⟩:=bind_some hr
 refine OkD.q (triSIdx hx9 rfl rfl rfl trivial rfl) (OkD.x (.c (.d (.v (.int .u64 (IntKind.u64.wrap x9))))) rfl trivial rfl (OkD.x (.c (.d (.v (.int .u64 (bShl .u64 (IntKind.u64.wrap x9) 56))))) rfl trivial rfl (OkD.x (.c (.d (.v (.int .u64 (bOr .u64 (bOr .u64 (bOr .u64 (bOr .u64 (bOr .u64 (bOr .u64 (bOr .u64 (IntKind.u64.wrap x2) (bShl .u64 (IntKind.u64.wrap x3) 8)) (bShl .u64 (IntKind.u64.wrap x4) 16)) (bShl .u64 (IntKind.u64.wrap x5) 24)) (bShl .u64 (IntKind.u64.wrap x6) 32)) (bShl .u64 (IntKind.u64.wrap x7) 40)) (bShl .u64 (IntKind.u64.wrap x8) 48)) (bShl .u64 (IntKind.u64.wrap x9) 56)))))) rfl trivial rfl (OkD.x (.c (.d (.v (.int .u64 (bOr .u64 (bOr .u64 (bOr .u64 (bOr .u64 (bOr .u64 (bOr .u64 (bOr .u64 (IntKind.u64.wrap x2) (bShl .u64 (IntKind.u64.wrap x3) 8)) (bShl .u64 (IntKind.u64.wrap x4) 16)) (bShl .u64 (IntKind.u64.wrap x5) 24)) (bShl .u64 (IntKind.u64.wrap x6) 32)) (bShl .u64 (IntKind.u64.wrap x7) 40)) (bShl .u64 (IntKind.u64.wrap x8) 48)) (bShl .u64 (IntKind.u64.wrap x9) 56)))))) rfl trivial rfl (OkD.nil (by kernel_rfl) (Ok.ret ?_))))))
 obtain rfl:=Option.some.inj hr
 exact ⟨_,rfl,.inl rfl,trivial⟩
theorem unicode_utf8_ValidString_c (p_s : Str) {r : Bool} (hr : unicode_utf8_ValidString p_s = some r) : Con Tryd.prog 135 [aS p_s] [] (.s (aB r)) []:=by
 unfold unicode_utf8_ValidString at hr
 refine Con.of_ok 169 0 [.tmp 2] [(0,.s (aS p_s))] Tryd.func135 rfl rfl rfl rfl rfl rfl rfl rfl fun w g M ρ _=>(Ok.seq (Ok.region (OkOps.y (aB false) (OkOps.nil ?_))))
 obtain ⟨k2,hk2,hr⟩:=jn_some hr
 refine Ok.join (fun (s1 : Unit)=>⟨[],[],0⟩) k2 r (fun s1 hr=>?_) ?_
 rw [hk2] at hr
 refine Ok.seq (Ok.region (OkOps.y (aB true) (OkOps.nil (Ok.ret ?_))))
 obtain rfl:=Option.some.inj hr
 exact ⟨_,rfl,.inl rfl,trivial⟩
 clear hk2
 refine Ok.block (Ok.loopK (fun (s3 : Str)=>⟨[(0,.s (aS s3))],[],0⟩) hr (Conv.mk (tau []) ⟨⟨_,rfl,.inl rfl⟩,trivial⟩ trivial rfl rfl rfl rfl) ?_)
 clear hr
 intro again4 s3 hr
 unfold unicode_utf8_ValidString_L2 at hr
 refine Ok.seq (Ok.seq (Ok.region (OkOps.y (aS s3) (OkOps.y (aI (s3.size : Int)) (OkOps.y (aB (decide ((s3.size : Int) > 0))) (OkOps.nil ?_))))))
 refine Ok.cond (b:=decide ((s3.size : Int) > 0)) rfl (fun h5=>?_) (fun h5=>?_)
 have hr:=selT h5 hr
 refine Ok.skip ?_
 obtain ⟨k7,hk7,hr⟩:=jn_some hr
 refine Ok.joinEnd (fun (s6 : Str)=>⟨[(0,.s (aS s6))],[],0⟩) k7 r (fun s6 hr=>?_) ?_
 rw [hk7] at hr
 exact ⟨s6,hr,(Conv.mk (tau []) ⟨⟨_,rfl,.inl rfl⟩,trivial⟩ trivial rfl rfl rfl rfl)⟩
 clear hk7
 refine Ok.block (Ok.seq (Ok.region (OkOps.y (aS s3) ?_)))
 obtain ⟨x8,hx8,hr⟩:=bind_some hr
 refine OkOps.q (triSIdx hx8 rfl rfl rfl trivial rfl) (OkOps.y (.c (.d (.v (.int .u8 x8)))) (OkOps.nil (Ok.seq (Ok.seq (Ok.region (OkOps.y (.c (.d (.v (.int .u8 x8)))) (OkOps.y (aB (decide (x8 < 128))) (OkOps.nil ?_))))))))
 refine Ok.cond (b:=decide (x8 < 128)) rfl (fun h9=>?_) (fun h9=>?_)
 have hr:=selT h9 hr
 refine Ok.seq (Ok.region (OkOps.y (aS s3) ?_))
 obtain ⟨x10,hx10,hr⟩:=bind_some hr
 refine OkOps.q (triSSlc hx10 rfl rfl rfl (.inr ⟨_,rfl⟩) (.inl ⟨rfl,rfl⟩) rfl trivial rfl) (OkOps.y (aS x10) (OkOps.nil ?_))
 obtain ⟨k12,hk12,hr⟩:=jn_some hr
 refine Ok.join (fun (s11 : Str)=>⟨[(0,.s (aS s11))],[],0⟩) k12 r (fun s11 hr=>?_) ?_
 rw [hk12] at hr
 refine Ok.exit ?_
 exact ⟨s11,hr,(Conv.mk (tau []) ⟨⟨_,rfl,.inl rfl⟩,trivial⟩ trivial rfl rfl rfl rfl)⟩
 clear hk12
 refine Ok.seq (Ok.region (OkOps.y (aS x10) (OkOps.y (aI (x10.size : Int)) (OkOps.y (aB (decide ((x10.size : Int) > 8))) (OkOps.y (aB (decide ((x10.size : Int) > 8))) (OkOps.q (triQG (x:=aS x10) rfl rfl trivial rfl) ?_))))))
 obtain ⟨x13,hx13,hr⟩:=bind_some hr
 refine OkOps.q (triCallG (x:=.c (.d (.v (.int .u64 x13)))) (fun hg=>unicode_utf8_word_string_c _ (gO_t hx13 hg)) rfl rfl ⟨.inl rfl,trivial⟩ ⟨fun h=>h,trivial⟩ entry138 rfl rfl rfl) (OkOps.q (triQG (x:=.c (.d (.v (.int .u64 (bAnd .u64 x13 9259542123273814144))))) rfl rfl ⟨fun h=>h,trivial⟩ rfl) (OkOps.q (triQG (x:=aB ((bAnd .u64 x13 9259542123273814144) == 0)) rfl rfl ⟨fun h=>h,trivial⟩ rfl) (OkOps.q (triAnd rfl rfl (fun h=>h) rfl) (OkOps.nil ?_))))
 refine Ok.cond (b:=(decide ((x10.size : Int) > 8)) && ((bAnd .u64 x13 9259542123273814144) == 0)) rfl (fun h14=>?_) (fun h14=>?_)
 have hr:=selT h14 hr
 refine Ok.seq (Ok.region (OkOps.y (aS x10) ?_))
 obtain ⟨x15,hx15,hr⟩:=bind_some hr
 refine OkOps.q (triSSlc hx15 rfl rfl rfl (.inr ⟨_,rfl⟩) (.inl ⟨rfl,rfl⟩) rfl trivial rfl) (OkOps.y (aS x15) (OkOps.nil (Ok.seq (Ok.regionD (by kernel_rfl) (OkD.x (aS x15) rfl trivial rfl (OkD.x (aI (x15.size : Int)) rfl trivial rfl (OkD.x (aB (decide ((x15.size : Int) > 16))) rfl trivial rfl (OkD.x (aB (decide ((x15.size : Int) > 16))) rfl trivial rfl (OkD.q (triQG (x:=aS x15) rfl rfl trivial rfl) ?_)))))))))
 obtain ⟨x16,hx16,hr⟩:=bind_some hr
 refine OkD.q (triCallG (x:=.c (.d (.v (.int .u64 x16)))) (fun hg=>unicode_utf8_word_string_c _ (gO_t hx16 hg)) rfl rfl ⟨.inl rfl,trivial⟩ ⟨fun h=>h,trivial⟩ entry138 rfl rfl rfl) (OkD.q (triQG (x:=aS x15) rfl rfl trivial rfl) ?_)
 obtain ⟨x17,hx17,hr⟩:=bind_some hr
 refine OkD.q (triSSlcG (gO_t hx17) rfl rfl rfl rfl (.inr ⟨_,rfl⟩) (.inl ⟨rfl,rfl⟩) rfl ⟨fun h=>h,trivial⟩ rfl) ?_
 obtain ⟨x18,hx18,hr⟩:=bind_some hr
 refine OkD.q (triCallG (x:=.c (.d (.v (.int .u64 x18)))) (fun hg=>unicode_utf8_word_string_c _ (gO_t hx18 hg)) rfl rfl ⟨.inl rfl,trivial⟩ ⟨fun h=>h,trivial⟩ entry138 rfl rfl rfl) (OkD.q (triQG (x:=.c (.d (.v (.int .u64 (bOr .u64 x16 x18))))) rfl rfl ⟨fun h=>h,⟨fun h=>h,trivial⟩⟩ rfl) (OkD.q (triQG (x:=.c (.d (.v (.int .u64 (bAnd .u64 (bOr .u64 x16 x18) 9259542123273814144))))) rfl rfl ⟨fun h=>h,trivial⟩ rfl) (OkD.q (triQG (x:=aB ((bAnd .u64 (bOr .u64 x16 x18) 9259542123273814144) == 0)) rfl rfl ⟨fun h=>h,trivial⟩ rfl) (OkD.q (triAnd rfl rfl (fun h=>h) rfl) (OkD.nil (by kernel_rfl) ?_)))))
 refine Ok.cond (b:=(decide ((x15.size : Int) > 16)) && ((bAnd .u64 (bOr .u64 x16 x18) 9259542123273814144) == 0)) rfl (fun h19=>?_) (fun h19=>?_)
 have hr:=selT h19 hr
 refine Ok.seq (Ok.region (OkOps.y (aS x15) ?_))
 obtain ⟨x20,hx20,hr⟩:=bind_some hr
 refine OkOps.q (triSSlc hx20 rfl rfl rfl (.inr ⟨_,rfl⟩) (.inl ⟨rfl,rfl⟩) rfl trivial rfl) (OkOps.y (aS x20) (OkOps.nil (Ok.block (Ok.loopK (fun (s21 : Str)=>⟨[(0,.s (aS s21))],[],0⟩) hr (Conv.mk (tau []) ⟨⟨_,rfl,.inl rfl⟩,trivial⟩ trivial rfl rfl rfl rfl) ?_))))
 clear hr
 intro again22 s21 hr
 unfold unicode_utf8_ValidString_L1 at hr
 refine Ok.seq (Ok.seq (Ok.regionD (by kernel_rfl) (OkD.x (aS s21) rfl trivial rfl (OkD.x (aI (s21.size : Int)) rfl trivial rfl (OkD.x (aB (decide ((s21.size : Int) > 32))) rfl trivial rfl (OkD.x (aB (decide ((s21.size : Int) > 32))) rfl trivial rfl (OkD.q (triQG (x:=aS s21) rfl rfl trivial rfl) ?_)))))))
 obtain ⟨x23,hx23,hr⟩:=bind_some hr
 refine OkD.q (triCallG (x:=.c (.d (.v (.int .u64 x23)))) (fun hg=>unicode_utf8_word_string_c _ (gO_t hx23 hg)) rfl rfl ⟨.inl rfl,trivial⟩ ⟨fun h=>h,trivial⟩ entry138 rfl rfl rfl) (OkD.q (triQG (x:=aS s21) rfl rfl trivial rfl) ?_)
 obtain ⟨x24,hx24,hr⟩:=bind_some hr
 refine OkD.q (triSSlcG (gO_t hx24) rfl rfl rfl rfl (.inr ⟨_,rfl⟩) (.inl ⟨rfl,rfl⟩) rfl ⟨fun h=>h,trivial⟩ rfl) ?_
 obtain ⟨x25,hx25,hr⟩:=bind_some hr
 refine OkD.q (triCallG (x:=.c (.d (.v (.int .u64 x25)))) (fun hg=>unicode_utf8_word_string_c _ (gO_t hx25 hg)) rfl rfl ⟨.inl rfl,trivial⟩ ⟨fun h=>h,trivial⟩ entry138 rfl rfl rfl) (OkD.q (triQG (x:=.c (.d (.v (.int .u64 (bOr .u64 x23 x25))))) rfl rfl ⟨fun h=>h,⟨fun h=>h,trivial⟩⟩ rfl) (OkD.q (triQG (x:=aS s21) rfl rfl trivial rfl) ?_))
 obtain ⟨x26,hx26,hr⟩:=bind_some hr
 refine OkD.q (triSSlcG (gO_t hx26) rfl rfl rfl rfl (.inr ⟨_,rfl⟩) (.inl ⟨rfl,rfl⟩) rfl ⟨fun h=>h,trivial⟩ rfl) ?_
 obtain ⟨x27,hx27,hr⟩:=bind_some hr
 refine OkD.q (triCallG (x:=.c (.d (.v (.int .u64 x27)))) (fun hg=>unicode_utf8_word_string_c _ (gO_t hx27 hg)) rfl rfl ⟨.inl rfl,trivial⟩ ⟨fun h=>h,trivial⟩ entry138 rfl rfl rfl) (OkD.q (triQG (x:=aS s21) rfl rfl trivial rfl) ?_)
 obtain ⟨x28,hx28,hr⟩:=bind_some hr
 refine OkD.q (triSSlcG (gO_t hx28) rfl rfl rfl rfl (.inr ⟨_,rfl⟩) (.inl ⟨rfl,rfl⟩) rfl ⟨fun h=>h,trivial⟩ rfl) ?_
 obtain ⟨x29,hx29,hr⟩:=bind_some hr
 refine OkD.q (triCallG (x:=.c (.d (.v (.int .u64 x29)))) (fun hg=>unicode_utf8_word_string_c _ (gO_t hx29 hg)) rfl rfl ⟨.inl rfl,trivial⟩ ⟨fun h=>h,trivial⟩ entry138 rfl rfl rfl) (OkD.q (triQG (x:=.c (.d (.v (.int .u64 (bOr .u64 x27 x29))))) rfl rfl ⟨fun h=>h,⟨fun h=>h,trivial⟩⟩ rfl) (OkD.q (triQG (x:=.c (.d (.v (.int .u64 (bOr .u64 (bOr .u64 x23 x25) (bOr .u64 x27 x29)))))) rfl rfl ⟨fun h=>h,⟨fun h=>h,trivial⟩⟩ rfl) (OkD.q (triQG (x:=.c (.d (.v (.int .u64 (bAnd .u64 (bOr .u64 (bOr .u64 x23 x25) (bOr .u64 x27 x29)) 9259542123273814144))))) rfl rfl ⟨fun h=>h,trivial⟩ rfl) (OkD.q (triQG (x:=aB ((bAnd .u64 (bOr .u64 (bOr .u64 x23 x25) (bOr .u64 x27 x29)) 9259542123273814144) == 0)) rfl rfl ⟨fun h=>h,trivial⟩ rfl) (OkD.q (triAnd rfl rfl (fun h=>h) rfl) (OkD.nil (by kernel_rfl) ?_))))))
 refine Ok.cond (b:=(decide ((s21.size : Int) > 32)) && ((bAnd .u64 (bOr .u64 (bOr .u64 x23 x25) (bOr .u64 x27 x29)) 9259542123273814144) == 0)) rfl (fun h30=>?_) (fun h30=>?_)
 have hr:=selT h30 hr
 refine Ok.skip (Ok.block (Ok.region (OkOps.y (aS s21) ?_)))
 obtain ⟨x31,hx31,hr⟩:=bind_some hr
 refine OkOps.q (triSSlc hx31 rfl rfl rfl (.inr ⟨_,rfl⟩) (.inl ⟨rfl,rfl⟩) rfl trivial rfl) (OkOps.y (aS x31) (OkOps.nil ?_))
 exact ⟨x31,hr,(Conv.mk (tau []) ⟨⟨_,rfl,.inl rfl⟩,trivial⟩ trivial rfl rfl rfl rfl)⟩
 have hr:=selF h30 hr
 refine Ok.exit ?_
 exact ⟨s21,hr,(Conv.mk (tau []) ⟨⟨_,rfl,.inl rfl⟩,trivial⟩ trivial rfl rfl rfl rfl)⟩
 have hr:=selF h19 hr
 refine Ok.skip ?_
 exact ⟨x15,hr,(Conv.mk (tau []) ⟨⟨_,rfl,.inl rfl⟩,trivial⟩ trivial rfl rfl rfl rfl)⟩
 have hr:=selF h14 hr
 refine Ok.skip ?_
 exact ⟨x10,hr,(Conv.mk (tau []) ⟨⟨_,rfl,.inl rfl⟩,trivial⟩ trivial rfl rfl rfl rfl)⟩
 have hr:=selF h9 hr
 refine Ok.skip (Ok.seq (Ok.region (OkOps.y (.c (.d (.v (.int .u8 x8)))) ?_)))
 obtain ⟨x32,hx32,hr⟩:=bind_some hr
 refine OkOps.q (triFirst (y:=x32) hx32 (by kernel_rfl) rfl rfl trivial rfl) (OkOps.y (.c (.d (.v (.int .u8 x32)))) (OkOps.y (.c (.d (.v (.int .u8 x32)))) (OkOps.nil (Ok.seq (Ok.region (OkOps.y (.c (.d (.v (.int .u8 x32)))) (OkOps.y (.c (.d (.v (.int .u8 (bAnd .u8 x32 7))))) (OkOps.y (aI (IntKind.i64.wrap (bAnd .u8 x32 7))) (OkOps.y (aI (IntKind.i64.wrap (bAnd .u8 x32 7))) (OkOps.nil (Ok.seq (Ok.region (OkOps.y (.c (.d (.v (.int .u8 x32)))) (OkOps.y (.c (.d (.v (.int .u8 (bShr .u8 x32 4))))) ?_))))))))))))))
 obtain ⟨x33,hx33,hr⟩:=bind_some hr
 refine OkOps.q (triAccept (y:=x33) hx33 (by kernel_rfl) rfl rfl trivial rfl) (OkOps.y (.agg [.d (.v (.int .u8 x33.1)),.d (.v (.int .u8 x33.2))]) (OkOps.m 0 (triAlloc (j:=0) (cs:=[.d (.v (.int .u8 0)),.d (.v (.int .u8 0))]) rfl rfl rfl rfl) (OkOps.w (triStore (cs':=[.d (.v (.int .u8 x33.1)),.d (.v (.int .u8 x33.2))]) rfl rfl rfl rfl rfl rfl rfl rfl rfl) (OkOps.nil (Ok.seq (Ok.region (OkOps.y (aI (IntKind.i64.wrap (bAnd .u8 x32 7))) (OkOps.nil (Ok.block (Ok.seq (Ok.region (OkOps.y (aB ((IntKind.i64.wrap (bAnd .u8 x32 7)) == 2)) (OkOps.y (aB ((IntKind.i64.wrap (bAnd .u8 x32 7)) == 2)) (OkOps.nil ?_))))))))))))))
 refine Ok.cond (b:=(IntKind.i64.wrap (bAnd .u8 x32 7)) == 2) rfl (fun h34=>?_) (fun h34=>?_)
 have hr:=selT h34 hr
 refine Ok.seq (Ok.seq (Ok.regionD (by kernel_rfl) (OkD.x (aS s3) rfl trivial rfl (OkD.x (aI (s3.size : Int)) rfl trivial rfl (OkD.x (aB (decide ((s3.size : Int) < 2))) rfl trivial rfl (OkD.x (aB (decide ((s3.size : Int) < 2))) rfl trivial rfl (OkD.q (triQG (x:=aS s3) rfl rfl trivial rfl) ?_)))))))
 obtain ⟨x35,hx35,hr⟩:=bind_some hr
 refine OkD.q (triSIdxG (gO_t hx35) rfl rfl rfl rfl ⟨fun h=>h,trivial⟩ rfl) (OkD.q (triQG (x:=.c (.loc 0 0)) rfl rfl trivial rfl) (OkD.q (triQG (x:=.c (.d (.v (.int .u8 x33.1)))) rfl rfl ⟨fun h=>h,trivial⟩ rfl) (OkD.q (triQG (x:=aB (decide (x35 < x33.1))) rfl rfl ⟨fun h=>h,⟨fun h=>h,trivial⟩⟩ rfl) ?_)))
 refine OkD.q (triOr rfl rfl (fun h=>by rw [h];rfl) rfl) ?_
 refine OkD.x (aB ((decide ((s3.size : Int) < 2)) || (decide (x35 < x33.1)))) rfl trivial rfl (OkD.q (triQG (x:=.c (.loc 0 1)) rfl rfl trivial rfl) (OkD.q (triQG (x:=.c (.d (.v (.int .u8 x33.2)))) rfl rfl ⟨fun h=>h,trivial⟩ rfl) (OkD.q (triQG (x:=aS s3) rfl rfl trivial rfl) ?_)))
 obtain ⟨x36,hx36,hr⟩:=bind_some hr
 refine OkD.q (triSIdxG (gO_t hx36) rfl rfl rfl rfl ⟨fun h=>h,trivial⟩ rfl) (OkD.q (triQG (x:=aB (decide (x33.2 < x36))) rfl rfl ⟨fun h=>h,⟨fun h=>h,trivial⟩⟩ rfl) ?_)
 refine OkD.q (triOr rfl rfl (fun h=>by rw [h];rfl) rfl) ?_
 refine OkD.nil (by kernel_rfl) ?_
 refine Ok.cond (b:=((decide ((s3.size : Int) < 2)) || (decide (x35 < x33.1))) || (decide (x33.2 < x36))) rfl (fun h37=>?_) (fun h37=>?_)
 have hr:=selT h37 hr
 refine Ok.seq (Ok.region (OkOps.y (aB false) (OkOps.nil (Ok.ret ?_))))
 obtain rfl:=Option.some.inj hr
 exact ⟨_,rfl,.inl rfl,trivial⟩
 have hr:=selF h37 hr
 refine Ok.skip (Ok.region (OkOps.y (aS s3) ?_))
 obtain ⟨x38,hx38,hr⟩:=bind_some hr
 refine OkOps.q (triSSlc hx38 rfl rfl rfl (.inr ⟨_,rfl⟩) (.inl ⟨rfl,rfl⟩) rfl trivial rfl) (OkOps.y (aS x38) (OkOps.nil ?_))
 exact ⟨x38,hr,(Conv.mk (tau []) ⟨⟨_,rfl,.inl rfl⟩,trivial⟩ trivial rfl rfl rfl rfl)⟩
 have hr:=selF h34 hr
 refine Ok.seq (Ok.region (OkOps.y (aB ((IntKind.i64.wrap (bAnd .u8 x32 7)) == 3)) (OkOps.y (aB ((IntKind.i64.wrap (bAnd .u8 x32 7)) == 3)) (OkOps.nil ?_))))
 refine Ok.cond (b:=(IntKind.i64.wrap (bAnd .u8 x32 7)) == 3) rfl (fun h39=>?_) (fun h39=>?_)
 have hr:=selT h39 hr
 refine Ok.seq (Ok.seq (Ok.regionD (by kernel_rfl) (OkD.x (aS s3) rfl trivial rfl (OkD.x (aI (s3.size : Int)) rfl trivial rfl (OkD.x (aB (decide ((s3.size : Int) < 3))) rfl trivial rfl (OkD.x (aB (decide ((s3.size : Int) < 3))) rfl trivial rfl (OkD.q (triQG (x:=aS s3) rfl rfl trivial rfl) ?_)))))))
 obtain ⟨x40,hx40,hr⟩:=bind_some hr
 refine OkD.q (triSIdxG (gO_t hx40) rfl rfl rfl rfl ⟨fun h=>h,trivial⟩ rfl) (OkD.q (triQG (x:=.c (.loc 0 0)) rfl rfl trivial rfl) (OkD.q (triQG (x:=.c (.d (.v (.int .u8 x33.1)))) rfl rfl ⟨fun h=>h,trivial⟩ rfl) (OkD.q (triQG (x:=aB (decide (x40 < x33.1))) rfl rfl ⟨fun h=>h,⟨fun h=>h,trivial⟩⟩ rfl) ?_)))
 refine OkD.q (triOr rfl rfl (fun h=>by rw [h];rfl) rfl) ?_
 refine OkD.x (aB ((decide ((s3.size : Int) < 3)) || (decide (x40 < x33.1)))) rfl trivial rfl (OkD.q (triQG (x:=.c (.loc 0 1)) rfl rfl trivial rfl) (OkD.q (triQG (x:=.c (.d (.v (.int .u8 x33.2)))) rfl rfl ⟨fun h=>h,trivial⟩ rfl) (OkD.q (triQG (x:=aS s3) rfl rfl trivial rfl) ?_)))
 obtain ⟨x41,hx41,hr⟩:=bind_some hr
 refine OkD.q (triSIdxG (gO_t hx41) rfl rfl rfl rfl ⟨fun h=>h,trivial⟩ rfl) (OkD.q (triQG (x:=aB (decide (x33.2 < x41))) rfl rfl ⟨fun h=>h,⟨fun h=>h,trivial⟩⟩ rfl) ?_)
 refine OkD.q (triOr rfl rfl (fun h=>by rw [h];rfl) rfl) ?_
 refine OkD.x (aB (((decide ((s3.size : Int) < 3)) || (decide (x40 < x33.1))) || (decide (x33.2 < x41)))) rfl trivial rfl (OkD.q (triQG (x:=aS s3) rfl rfl trivial rfl) ?_)
 obtain ⟨x42,hx42,hr⟩:=bind_some hr
 refine OkD.q (triSIdxG (gO_t hx42) rfl rfl rfl rfl ⟨fun h=>h,trivial⟩ rfl) (OkD.q (triQG (x:=aB (decide (x42 < 128))) rfl rfl ⟨fun h=>h,trivial⟩ rfl) ?_)
 refine OkD.q (triOr rfl rfl (fun h=>by rw [h];rfl) rfl) ?_
 refine OkD.x (aB ((((decide ((s3.size : Int) < 3)) || (decide (x40 < x33.1))) || (decide (x33.2 < x41))) || (decide (x42 < 128)))) rfl trivial rfl (OkD.q (triQG (x:=aS s3) rfl rfl trivial rfl) ?_)
 obtain ⟨x43,hx43,hr⟩:=bind_some hr
 refine OkD.q (triSIdxG (gO_t hx43) rfl rfl rfl rfl ⟨fun h=>h,trivial⟩ rfl) (OkD.q (triQG (x:=aB (decide (191 < x43))) rfl rfl ⟨fun h=>h,trivial⟩ rfl) ?_)
 refine OkD.q (triOr rfl rfl (fun h=>by rw [h];rfl) rfl) ?_
 refine OkD.nil (by kernel_rfl) ?_
 refine Ok.cond (b:=((((decide ((s3.size : Int) < 3)) || (decide (x40 < x33.1))) || (decide (x33.2 < x41))) || (decide (x42 < 128))) || (decide (191 < x43))) rfl (fun h44=>?_) (fun h44=>?_)
 have hr:=selT h44 hr
 refine Ok.seq (Ok.region (OkOps.y (aB false) (OkOps.nil (Ok.ret ?_))))
 obtain rfl:=Option.some.inj hr
 exact ⟨_,rfl,.inl rfl,trivial⟩
 have hr:=selF h44 hr
 refine Ok.skip (Ok.region (OkOps.y (aS s3) ?_))
 obtain ⟨x45,hx45,hr⟩:=bind_some hr
 refine OkOps.q (triSSlc hx45 rfl rfl rfl (.inr ⟨_,rfl⟩) (.inl ⟨rfl,rfl⟩) rfl trivial rfl) (OkOps.y (aS x45) (OkOps.nil ?_))
 exact ⟨x45,hr,(Conv.mk (tau []) ⟨⟨_,rfl,.inl rfl⟩,trivial⟩ trivial rfl rfl rfl rfl)⟩
 have hr:=selF h39 hr
 refine Ok.seq (Ok.region (OkOps.y (aB ((IntKind.i64.wrap (bAnd .u8 x32 7)) == 4)) (OkOps.y (aB ((IntKind.i64.wrap (bAnd .u8 x32 7)) == 4)) (OkOps.nil ?_))))
 refine Ok.cond (b:=(IntKind.i64.wrap (bAnd .u8 x32 7)) == 4) rfl (fun h46=>?_) (fun h46=>?_)
 have hr:=selT h46 hr
 refine Ok.seq (Ok.seq (Ok.regionD (by kernel_rfl) (OkD.x (aS s3) rfl trivial rfl (OkD.x (aI (s3.size : Int)) rfl trivial rfl (OkD.x (aB (decide ((s3.size : Int) < 4))) rfl trivial rfl (OkD.x (aB (decide ((s3.size : Int) < 4))) rfl trivial rfl (OkD.q (triQG (x:=aS s3) rfl rfl trivial rfl) ?_)))))))
 obtain ⟨x47,hx47,hr⟩:=bind_some hr
 refine OkD.q (triSIdxG (gO_t hx47) rfl rfl rfl rfl ⟨fun h=>h,trivial⟩ rfl) (OkD.q (triQG (x:=.c (.loc 0 0)) rfl rfl trivial rfl) (OkD.q (triQG (x:=.c (.d (.v (.int .u8 x33.1)))) rfl rfl ⟨fun h=>h,trivial⟩ rfl) (OkD.q (triQG (x:=aB (decide (x47 < x33.1))) rfl rfl ⟨fun h=>h,⟨fun h=>h,trivial⟩⟩ rfl) ?_)))
 refine OkD.q (triOr rfl rfl (fun h=>by rw [h];rfl) rfl) ?_
 refine OkD.x (aB ((decide ((s3.size : Int) < 4)) || (decide (x47 < x33.1)))) rfl trivial rfl (OkD.q (triQG (x:=.c (.loc 0 1)) rfl rfl trivial rfl) (OkD.q (triQG (x:=.c (.d (.v (.int .u8 x33.2)))) rfl rfl ⟨fun h=>h,trivial⟩ rfl) (OkD.q (triQG (x:=aS s3) rfl rfl trivial rfl) ?_)))
 obtain ⟨x48,hx48,hr⟩:=bind_some hr
 refine OkD.q (triSIdxG (gO_t hx48) rfl rfl rfl rfl ⟨fun h=>h,trivial⟩ rfl) (OkD.q (triQG (x:=aB (decide (x33.2 < x48))) rfl rfl ⟨fun h=>h,⟨fun h=>h,trivial⟩⟩ rfl) ?_)
 refine OkD.q (triOr rfl rfl (fun h=>by rw [h];rfl) rfl) ?_
 refine OkD.x (aB (((decide ((s3.size : Int) < 4)) || (decide (x47 < x33.1))) || (decide (x33.2 < x48)))) rfl trivial rfl (OkD.q (triQG (x:=aS s3) rfl rfl trivial rfl) ?_)
 obtain ⟨x49,hx49,hr⟩:=bind_some hr
 refine OkD.q (triSIdxG (gO_t hx49) rfl rfl rfl rfl ⟨fun h=>h,trivial⟩ rfl) (OkD.q (triQG (x:=aB (decide (x49 < 128))) rfl rfl ⟨fun h=>h,trivial⟩ rfl) ?_)
 refine OkD.q (triOr rfl rfl (fun h=>by rw [h];rfl) rfl) ?_
 refine OkD.x (aB ((((decide ((s3.size : Int) < 4)) || (decide (x47 < x33.1))) || (decide (x33.2 < x48))) || (decide (x49 < 128)))) rfl trivial rfl (OkD.q (triQG (x:=aS s3) rfl rfl trivial rfl) ?_)
 obtain ⟨x50,hx50,hr⟩:=bind_some hr
 refine OkD.q (triSIdxG (gO_t hx50) rfl rfl rfl rfl ⟨fun h=>h,trivial⟩ rfl) (OkD.q (triQG (x:=aB (decide (191 < x50))) rfl rfl ⟨fun h=>h,trivial⟩ rfl) ?_)
 refine OkD.q (triOr rfl rfl (fun h=>by rw [h];rfl) rfl) ?_
 refine OkD.x (aB (((((decide ((s3.size : Int) < 4)) || (decide (x47 < x33.1))) || (decide (x33.2 < x48))) || (decide (x49 < 128))) || (decide (191 < x50)))) rfl trivial rfl (OkD.q (triQG (x:=aS s3) rfl rfl trivial rfl) ?_)
 obtain ⟨x51,hx51,hr⟩:=bind_some hr
 refine OkD.q (triSIdxG (gO_t hx51) rfl rfl rfl rfl ⟨fun h=>h,trivial⟩ rfl) (OkD.q (triQG (x:=aB (decide (x51 < 128))) rfl rfl ⟨fun h=>h,trivial⟩ rfl) ?_)
 refine OkD.q (triOr rfl rfl (fun h=>by rw [h];rfl) rfl) ?_
 refine OkD.x (aB ((((((decide ((s3.size : Int) < 4)) || (decide (x47 < x33.1))) || (decide (x33.2 < x48))) || (decide (x49 < 128))) || (decide (191 < x50))) || (decide (x51 < 128)))) rfl trivial rfl (OkD.q (triQG (x:=aS s3) rfl rfl trivial rfl) ?_)
 obtain ⟨x52,hx52,hr⟩:=bind_some hr
 refine OkD.q (triSIdxG (gO_t hx52) rfl rfl rfl rfl ⟨fun h=>h,trivial⟩ rfl) (OkD.q (triQG (x:=aB (decide (191 < x52))) rfl rfl ⟨fun h=>h,trivial⟩ rfl) ?_)
 refine OkD.q (triOr rfl rfl (fun h=>by rw [h];rfl) rfl) ?_
 refine OkD.nil (by kernel_rfl) ?_
 refine Ok.cond (b:=((((((decide ((s3.size : Int) < 4)) || (decide (x47 < x33.1))) || (decide (x33.2 < x48))) || (decide (x49 < 128))) || (decide (191 < x50))) || (decide (x51 < 128))) || (decide (191 < x52))) rfl (fun h53=>?_) (fun h53=>?_)
 have hr:=selT h53 hr
 refine Ok.seq (Ok.region (OkOps.y (aB false) (OkOps.nil (Ok.ret ?_))))
 obtain rfl:=Option.some.inj hr
 exact ⟨_,rfl,.inl rfl,trivial⟩
 have hr:=selF h53 hr
 refine Ok.skip (Ok.region (OkOps.y (aS s3) ?_))
 obtain ⟨x54,hx54,hr⟩:=bind_some hr
 refine OkOps.q (triSSlc hx54 rfl rfl rfl (.inr ⟨_,rfl⟩) (.inl ⟨rfl,rfl⟩) rfl trivial rfl) (OkOps.y (aS x54) (OkOps.nil ?_))
 exact ⟨x54,hr,(Conv.mk (tau []) ⟨⟨_,rfl,.inl rfl⟩,trivial⟩ trivial rfl rfl rfl rfl)⟩
 have hr:=selF h46 hr
 refine Ok.seq (Ok.region (OkOps.y (aB false) (OkOps.nil (Ok.ret ?_))))
 obtain rfl:=Option.some.inj hr
 exact ⟨_,rfl,.inl rfl,trivial⟩
 have hr:=selF h5 hr
 refine Ok.exit ?_
 exact ⟨(),hr,(Conv.mk (tau []) trivial trivial rfl rfl rfl rfl)⟩
theorem ex_listOf_c (t : AType) {r : AType} (hr : ex_listOf t = some r) : Con Tryd.prog 137 [.agg [cI t.Kind,.d (.sl (List.map AType.cs t.Of))]] [] (.s (.agg [cI r.Kind,.d (.sl (List.map AType.cs r.Of))])) []:=by
 unfold ex_listOf at hr
 refine Con.of_ok 6 0 [.cell 2 182] [(0,.s (.agg [cI t.Kind,.d (.sl (List.map AType.cs t.Of))]))] Tryd.func137 rfl rfl rfl rfl rfl rfl rfl rfl fun w g M ρ _=>(Ok.seq (Ok.region (OkOps.m 0 (triBox (j:=0) (cs:=[cI t.Kind,.d (.sl (List.map AType.cs t.Of))]) rfl rfl rfl rfl rfl) (OkOps.m 0 (triAlloc (j:=1) (cs:=[cI 0,.d (.v (.slice none 0 0))]) rfl rfl rfl rfl) (OkOps.nil (Ok.seq (Ok.region (OkOps.y (.agg [cI t.Kind,.d (.sl (List.map AType.cs t.Of))]) ?_))))))))
 refine OkOps.m 0 (triBST (sz:=2) (enc:=AType.cs) (j:=2) ([t]) rfl rfl rfl rfl rfl (rows:=[[dI t.Kind,.sl (List.map AType.cs t.Of)]]) (by simp only [List.map,AType.cs_eq]) rfl rfl (fun x=>by rw [AType.cs_eq];rfl) trivial rfl rfl) ?_
 refine OkOps.y (.agg [cI 4,.tl 2 (List.map AType.cs ([t]))]) (OkOps.w (triStore (cs':=[cI 4,.tl 2 (List.map AType.cs ([t]))]) rfl rfl rfl rfl rfl rfl rfl rfl rfl) (OkOps.nil (Ok.ret ?_)))
 obtain rfl:=Option.some.inj hr
 exact ⟨_,rfl,.inr rfl,trivial⟩
theorem ex_join_B_c (self0 : AType → AType → Option (AType × Bool)) (hself0 : ∀ (a : AType) (b : AType) {r : AType × Bool},self0 a b = some r → Con Tryd.prog 139 [.agg [cI a.Kind,.d (.sl (List.map AType.cs a.Of))],.agg [cI b.Kind,.d (.sl (List.map AType.cs b.Of))]] [] (.tup [.agg [cI r.1.Kind,.d (.sl (List.map AType.cs r.1.Of))],aB r.2]) []) (a : AType) (b : AType) {r : AType × Bool} (hr : ex_join_B self0 a b = some r) : Con Tryd.prog 139 [.agg [cI a.Kind,.d (.sl (List.map AType.cs a.Of))],.agg [cI b.Kind,.d (.sl (List.map AType.cs b.Of))]] [] (.tup [.agg [cI r.1.Kind,.d (.sl (List.map AType.cs r.1.Of))],aB r.2]) []:=by
 unfold ex_join_B at hr
 refine Con.of_ok 44 0 [.cell 4 182,.tmp 5] [(0,.s (.agg [cI a.Kind,.d (.sl (List.map AType.cs a.Of))])),(1,.s (.agg [cI b.Kind,.d (.sl (List.map AType.cs b.Of))]))] Tryd.func139 rfl rfl rfl rfl rfl rfl rfl rfl fun w g M ρ _=>(Ok.seq (Ok.region (OkOps.m 0 (triBox (j:=0) (cs:=[cI a.Kind,.d (.sl (List.map AType.cs a.Of))]) rfl rfl rfl rfl rfl) (OkOps.m 0 (triBox (j:=1) (cs:=[cI b.Kind,.d (.sl (List.map AType.cs b.Of))]) rfl rfl rfl rfl rfl) (OkOps.m 0 (triAlloc (j:=2) (cs:=[cI 0,.d (.v (.slice none 0 0))]) rfl rfl rfl rfl) (OkOps.y (aB false) (OkOps.nil (Ok.seq (Ok.block (Ok.seq (Ok.region (OkOps.y (.c (.loc 0 0)) (OkOps.y (aI a.Kind) (OkOps.y (.c (.loc 1 0)) (OkOps.y (aI b.Kind) ?_)))))))))))))))
 refine OkOps.y (aB (a.Kind != b.Kind)) (OkOps.y (aB (a.Kind != b.Kind)) (OkOps.nil ?_))
 refine Ok.cond (b:=a.Kind != b.Kind) rfl (fun h1=>?_) (fun h1=>?_)
 have hr:=selT h1 hr
 refine Ok.seq (Ok.region (OkOps.y (.agg [cI 0,.d (.v (.slice none 0 0))]) (OkOps.w (triStore (cs':=[cI 0,.d (.v (.slice none 0 0))]) rfl rfl rfl rfl rfl rfl rfl rfl rfl) (OkOps.y (aB false) (OkOps.nil (Ok.ret ?_))))))
 obtain rfl:=Option.some.inj hr
 exact ⟨_,rfl,.inr rfl,trivial⟩
 have hr:=selF h1 hr
 refine Ok.seq (Ok.region (OkOps.y (.c (.loc 0 1)) (OkOps.y (.c (.d (.sl (List.map AType.cs a.Of)))) (OkOps.q (triLen (enc:=AType.cs) a.Of rfl rfl trivial rfl) (OkOps.y (aB ((a.Of.length : Int) == 0)) (OkOps.y (aB ((a.Of.length : Int) == 0)) (OkOps.nil ?_)))))))
 refine Ok.cond (b:=(a.Of.length : Int) == 0) rfl (fun h2=>?_) (fun h2=>?_)
 have hr:=selT h2 hr
 refine Ok.seq (Ok.region (OkOps.y (.agg [cI b.Kind,.d (.sl (List.map AType.cs b.Of))]) (OkOps.w (triStore (cs':=[cI b.Kind,.d (.sl (List.map AType.cs b.Of))]) rfl rfl rfl rfl rfl rfl rfl rfl rfl) (OkOps.y (aB true) (OkOps.nil (Ok.ret ?_))))))
 obtain rfl:=Option.some.inj hr
 exact ⟨_,rfl,.inl rfl,trivial⟩
 have hr:=selF h2 hr
 refine Ok.seq (Ok.region (OkOps.y (.c (.loc 1 1)) (OkOps.y (.c (.d (.sl (List.map AType.cs b.Of)))) (OkOps.q (triLen (enc:=AType.cs) b.Of rfl rfl trivial rfl) (OkOps.y (aB ((b.Of.length : Int) == 0)) (OkOps.y (aB ((b.Of.length : Int) == 0)) (OkOps.nil ?_)))))))
 refine Ok.cond (b:=(b.Of.length : Int) == 0) rfl (fun h3=>?_) (fun h3=>?_)
 have hr:=selT h3 hr
 refine Ok.seq (Ok.region (OkOps.y (.agg [cI a.Kind,.d (.sl (List.map AType.cs a.Of))]) (OkOps.w (triStore (cs':=[cI a.Kind,.d (.sl (List.map AType.cs a.Of))]) rfl rfl rfl rfl rfl rfl rfl rfl rfl) (OkOps.y (aB true) (OkOps.nil (Ok.ret ?_))))))
 obtain rfl:=Option.some.inj hr
 exact ⟨_,rfl,.inl rfl,trivial⟩
 have hr:=selF h3 hr
 refine Ok.skip (Ok.seq (Ok.regionD (by kernel_rfl) (OkD.x (.c (.loc 0 1)) rfl trivial rfl (OkD.x (.c (.d (.sl (List.map AType.cs a.Of)))) rfl trivial rfl ?_))))
 obtain ⟨x4,hx4,hr⟩:=bind_some hr
 refine OkD.q (triIdx (enc:=AType.cs) (L:=a.Of) (row:=[dI x4.Kind,.sl (List.map AType.cs x4.Of)]) hx4 (AType.cs_eq _) rfl rfl rfl (fun x=>by rw [AType.cs_eq];rfl) trivial rfl) ?_
 refine OkD.x (.agg [cI x4.Kind,.d (.sl (List.map AType.cs x4.Of))]) rfl trivial rfl (OkD.x (.c (.loc 1 1)) rfl trivial rfl (OkD.x (.c (.d (.sl (List.map AType.cs b.Of)))) rfl trivial rfl ?_))
 obtain ⟨x5,hx5,hr⟩:=bind_some hr
 refine OkD.q (triIdx (enc:=AType.cs) (L:=b.Of) (row:=[dI x5.Kind,.sl (List.map AType.cs x5.Of)]) hx5 (AType.cs_eq _) rfl rfl rfl (fun x=>by rw [AType.cs_eq];rfl) trivial rfl) ?_
 refine OkD.x (.agg [cI x5.Kind,.d (.sl (List.map AType.cs x5.Of))]) rfl trivial rfl ?_
 obtain ⟨x6,hx6,hr⟩:=bind_some hr
 refine OkD.q (triCl (tau []) (.tup [.agg [cI x6.1.Kind,.d (.sl (List.map AType.cs x6.1.Of))],aB x6.2]) [] (hself0 _ _ hx6) rfl ⟨.inl rfl,.inl rfl,trivial⟩ trivial entry139 trivial) (OkD.q (triMv (v:=.tup [.agg [cI x6.1.Kind,.d (.sl (List.map AType.cs x6.1.Of))],aB x6.2]) rfl rfl) (OkD.x (.agg [cI x6.1.Kind,.d (.sl (List.map AType.cs x6.1.Of))]) rfl trivial rfl (OkD.x (aB x6.2) rfl trivial rfl (OkD.m 0 (triAlloc (j:=3) (cs:=[cI 0,.d (.v (.slice none 0 0))]) rfl rfl rfl rfl) (OkD.w (triStore (cs':=[cI x6.1.Kind,.d (.sl (List.map AType.cs x6.1.Of))]) rfl rfl rfl rfl rfl rfl rfl rfl rfl) (OkD.x (aB x6.2) rfl trivial rfl (OkD.nil (by kernel_rfl) (Ok.seq (Ok.seq (Ok.region (OkOps.y (aB x6.2) (OkOps.y (aB (!x6.2)) (OkOps.nil ?_)))))))))))))
 refine Ok.cond (b:=!x6.2) rfl (fun h7=>?_) (fun h7=>?_)
 have hr:=selT h7 hr
 refine Ok.seq (Ok.region (OkOps.y (.agg [cI 0,.d (.v (.slice none 0 0))]) (OkOps.w (triStore (cs':=[cI 0,.d (.v (.slice none 0 0))]) rfl rfl rfl rfl rfl rfl rfl rfl rfl) (OkOps.y (aB false) (OkOps.nil (Ok.ret ?_))))))
 obtain rfl:=Option.some.inj hr
 exact ⟨_,rfl,.inr rfl,trivial⟩
 have hr:=selF h7 hr
 refine Ok.skip (Ok.seq (Ok.region (OkOps.y (.agg [cI x6.1.Kind,.d (.sl (List.map AType.cs x6.1.Of))]) ?_)))
 obtain ⟨x8,hx8,hr⟩:=bind_some hr
 refine OkOps.q (triCl (tau []) (.s (.agg [cI x8.Kind,.d (.sl (List.map AType.cs x8.Of))])) [] (ex_listOf_c _ hx8) rfl ⟨.inl rfl,trivial⟩ trivial entry137 trivial) (OkOps.w (triStore (cs':=[cI x8.Kind,.d (.sl (List.map AType.cs x8.Of))]) rfl rfl rfl rfl rfl rfl rfl rfl rfl) (OkOps.y (aB true) (OkOps.nil (Ok.ret ?_))))
 obtain rfl:=Option.some.inj hr
 exact ⟨_,rfl,.inl rfl,trivial⟩
theorem ex_join_all : ∀ n : Nat,(∀ (a : AType) (b : AType) {r : AType × Bool},ex_join n a b = some r → Con Tryd.prog 139 [.agg [cI a.Kind,.d (.sl (List.map AType.cs a.Of))],.agg [cI b.Kind,.d (.sl (List.map AType.cs b.Of))]] [] (.tup [.agg [cI r.1.Kind,.d (.sl (List.map AType.cs r.1.Of))],aB r.2]) []) ∧ True:=by
 intro n
 induction n with
 | zero=>exact ⟨(by intros;rename_i hr;cases hr),trivial⟩
 | succ n ih=>exact ⟨(by intros;rename_i hr;exact ex_join_B_c _ ih.1 _ _ hr),trivial⟩
theorem ex_join_c (n : Nat) (a : AType) (b : AType) {r : AType × Bool} (hr : ex_join n a b = some r) : Con Tryd.prog 139 [.agg [cI a.Kind,.d (.sl (List.map AType.cs a.Of))],.agg [cI b.Kind,.d (.sl (List.map AType.cs b.Of))]] [] (.tup [.agg [cI r.1.Kind,.d (.sl (List.map AType.cs r.1.Of))],aB r.2]) []:=(ex_join_all n).1 a b hr
theorem ex_common_c (l : (List AType)) {r : AType × Bool} (hr : ex_common l = some r) : Con Tryd.prog 136 [.c (.d (.sl (List.map AType.cs l)))] [] (.tup [.agg [cI r.1.Kind,.d (.sl (List.map AType.cs r.1.Of))],aB r.2]) []:=by
 unfold ex_common at hr
 refine Con.of_ok 34 0 [.cell 2 182,.tmp 3] [(0,.s (.c (.d (.sl (List.map AType.cs l)))))] Tryd.func136 rfl rfl rfl rfl rfl rfl rfl rfl fun w g M ρ _=>(Ok.seq (Ok.region (OkOps.m 0 (triAlloc (j:=0) (cs:=[cI 0,.d (.v (.slice none 0 0))]) rfl rfl rfl rfl) (OkOps.y (aB false) (OkOps.nil (Ok.seq (Ok.seq (Ok.region (OkOps.y (.c (.d (.sl (List.map AType.cs l)))) (OkOps.q (triLen (enc:=AType.cs) l rfl rfl trivial rfl) (OkOps.y (aB ((l.length : Int) == 0)) (OkOps.nil ?_))))))))))))
 refine Ok.cond (b:=(l.length : Int) == 0) rfl (fun h1=>?_) (fun h1=>?_)
 have hr:=selT h1 hr
 refine Ok.seq (Ok.region (OkOps.y (.agg [cI 4,.d (.v (.slice none 0 0))]) (OkOps.w (triStore (cs':=[cI 4,.d (.v (.slice none 0 0))]) rfl rfl rfl rfl rfl rfl rfl rfl rfl) (OkOps.y (aB true) (OkOps.nil (Ok.ret ?_))))))
 obtain rfl:=Option.some.inj hr
 exact ⟨_,rfl,.inr rfl,trivial⟩
 have hr:=selF h1 hr
 refine Ok.skip (Ok.seq (Ok.region (OkOps.y (.c (.d (.sl (List.map AType.cs l)))) ?_)))
 obtain ⟨x2,hx2,hr⟩:=bind_some hr
 refine OkOps.q (triIdx (enc:=AType.cs) (L:=l) (row:=[dI x2.Kind,.sl (List.map AType.cs x2.Of)]) hx2 (AType.cs_eq _) rfl rfl rfl (fun x=>by rw [AType.cs_eq];rfl) trivial rfl) ?_
 refine OkOps.y (.agg [cI x2.Kind,.d (.sl (List.map AType.cs x2.Of))]) (OkOps.m 0 (triAlloc (j:=1) (cs:=[cI 0,.d (.v (.slice none 0 0))]) rfl rfl rfl rfl) (OkOps.w (triStore (cs':=[cI x2.Kind,.d (.sl (List.map AType.cs x2.Of))]) rfl rfl rfl rfl rfl rfl rfl rfl rfl) (OkOps.nil ?_)))
 obtain ⟨k4,hk4,hr⟩:=jn_some hr
 refine Ok.join (fun (s3 : Int × (List AType))=>⟨[(2,.s (.c (.loc 0 0))),(4,.s (.c (.loc 1 0)))],[(0,.blk [cI 0,.d (.v (.slice none 0 0))] 182),(1,.blk [cI s3.1,.d (.sl (List.map AType.cs s3.2))] 182)],0⟩) k4 r (fun s3 hr=>?_) ?_
 rw [hk4] at hr
 refine Ok.seq (Ok.region (OkOps.y (.agg [cI s3.1,.d (.sl (List.map AType.cs s3.2))]) ?_))
 obtain ⟨x5,hx5,hr⟩:=bind_some hr
 refine OkOps.q (triCl (tau []) (.s (.agg [cI x5.Kind,.d (.sl (List.map AType.cs x5.Of))])) [] (ex_listOf_c _ hx5) rfl ⟨.inl rfl,trivial⟩ trivial entry137 trivial) (OkOps.w (triStore (cs':=[cI x5.Kind,.d (.sl (List.map AType.cs x5.Of))]) rfl rfl rfl rfl rfl rfl rfl rfl rfl) (OkOps.y (aB true) (OkOps.nil (Ok.ret ?_))))
 obtain rfl:=Option.some.inj hr
 exact ⟨_,rfl,.inl rfl,trivial⟩
 clear hk4
 refine Ok.seq (Ok.region (OkOps.y (.c (.d (.sl (List.map AType.cs l)))) ?_))
 obtain ⟨x6,hx6,hr⟩:=bind_some hr
 refine OkOps.q (triSlc (enc:=AType.cs) (L:=l) hx6 rfl rfl rfl (.inr ⟨_,rfl⟩) (.inl ⟨rfl,rfl⟩) rfl (fun x=>by rw [AType.cs_eq];rfl) trivial rfl) ?_
 refine OkOps.q (triLen (enc:=AType.cs) x6 rfl rfl trivial rfl) (OkOps.y (aI 0) (OkOps.nil (Ok.block (Ok.loopK (fun (s7 : Int × Int × (List AType))=>⟨[(2,.s (.c (.loc 0 0))),(4,.s (.c (.loc 1 0))),(16,.s (.c (.d (.sl (List.map AType.cs x6))))),(17,.s (aI (x6.length : Int))),(18,.s (aI s7.1))],[(0,.blk [cI 0,.d (.v (.slice none 0 0))] 182),(1,.blk [cI s7.2.1,.d (.sl (List.map AType.cs s7.2.2))] 182)],0⟩) hr (Conv.mk (tau []) ⟨⟨_,rfl,.inl rfl⟩,⟨_,rfl,.inl rfl⟩,⟨_,rfl,.inl rfl⟩,⟨_,rfl,.inl rfl⟩,⟨_,rfl,.inl rfl⟩,trivial⟩ ⟨rfl,rfl,trivial⟩ rfl rfl rfl rfl) ?_))))
 clear hr
 intro again8 s7 hr
 unfold ex_common_L1 at hr
 refine Ok.seq (Ok.region (OkOps.y (aB (decide (s7.1 < (x6.length : Int)))) (OkOps.nil (Ok.seq ?_))))
 refine Ok.cond (b:=decide (s7.1 < (x6.length : Int))) rfl (fun h9=>?_) (fun h9=>?_)
 have hr:=selT h9 hr
 refine Ok.skip (Ok.seq (Ok.block (Ok.seq (Ok.region ?_))))
 obtain ⟨x10,hx10,hr⟩:=bind_some hr
 refine OkOps.q (triIdx (enc:=AType.cs) (L:=x6) (row:=[dI x10.Kind,.sl (List.map AType.cs x10.Of)]) hx10 (AType.cs_eq _) rfl rfl rfl (fun x=>by rw [AType.cs_eq];rfl) trivial rfl) ?_
 refine OkOps.y (.agg [cI x10.Kind,.d (.sl (List.map AType.cs x10.Of))]) (OkOps.m 0 (triAlloc (j:=2) (cs:=[cI 0,.d (.v (.slice none 0 0))]) rfl rfl rfl rfl) (OkOps.w (triStore (cs':=[cI x10.Kind,.d (.sl (List.map AType.cs x10.Of))]) rfl rfl rfl rfl rfl rfl rfl rfl rfl) (OkOps.nil (Ok.seq (Ok.region (OkOps.y (aB false) (OkOps.nil (Ok.seq (Ok.region (OkOps.y (.agg [cI s7.2.1,.d (.sl (List.map AType.cs s7.2.2))]) (OkOps.y (.agg [cI x10.Kind,.d (.sl (List.map AType.cs x10.Of))]) ?_)))))))))))
 obtain ⟨x11,hx11,hr⟩:=bind_some hr
 refine OkOps.q (triCl (tau []) (.tup [.agg [cI x11.1.Kind,.d (.sl (List.map AType.cs x11.1.Of))],aB x11.2]) [] (ex_join_c _ _ _ hx11) rfl ⟨.inl rfl,.inl rfl,trivial⟩ trivial entry139 trivial) (OkOps.q (triMv (v:=.tup [.agg [cI x11.1.Kind,.d (.sl (List.map AType.cs x11.1.Of))],aB x11.2]) rfl rfl) (OkOps.y (.agg [cI x11.1.Kind,.d (.sl (List.map AType.cs x11.1.Of))]) (OkOps.y (aB x11.2) (OkOps.w (triStore (cs':=[cI x11.1.Kind,.d (.sl (List.map AType.cs x11.1.Of))]) rfl rfl rfl rfl rfl rfl rfl rfl rfl) (OkOps.y (aB x11.2) (OkOps.nil (Ok.seq (Ok.region (OkOps.y (aB x11.2) (OkOps.y (aB (!x11.2)) (OkOps.nil ?_)))))))))))
 refine Ok.cond (b:=!x11.2) rfl (fun h12=>?_) (fun h12=>?_)
 have hr:=selT h12 hr
 refine Ok.seq (Ok.region (OkOps.y (.agg [cI 0,.d (.v (.slice none 0 0))]) (OkOps.w (triStore (cs':=[cI 0,.d (.v (.slice none 0 0))]) rfl rfl rfl rfl rfl rfl rfl rfl rfl) (OkOps.y (aB false) (OkOps.nil (Ok.ret ?_))))))
 obtain rfl:=Option.some.inj hr
 exact ⟨_,rfl,.inr rfl,trivial⟩
 have hr:=selF h12 hr
 refine Ok.skip (Ok.region (OkOps.y (aI (IntKind.i64.wrap (s7.1 + 1))) (OkOps.y (aI (IntKind.i64.wrap (s7.1 + 1))) (OkOps.nil ?_))))
 exact ⟨(IntKind.i64.wrap (s7.1 + 1),x11.1.Kind,x11.1.Of),hr,(Conv.mk (tau []) ⟨⟨_,rfl,.inl rfl⟩,⟨_,rfl,.inl rfl⟩,⟨_,rfl,.inl rfl⟩,⟨_,rfl,.inl rfl⟩,⟨_,rfl,.inl rfl⟩,trivial⟩ ⟨rfl,rfl,trivial⟩ rfl rfl rfl rfl)⟩
 have hr:=selF h9 hr
 refine Ok.exit ?_
 exact ⟨(s7.2.1,s7.2.2),hr,(Conv.mk (tau []) ⟨⟨_,rfl,.inl rfl⟩,⟨_,rfl,.inl rfl⟩,trivial⟩ ⟨rfl,rfl,trivial⟩ rfl rfl rfl rfl)⟩
theorem ex_check_B_c (self0 : AValue → Int → Int → Option (AType × Int × Int)) (hself0 : ∀ (v : AValue) (depth : Int) (p_n : Int) {r : AType × Int × Int},self0 v depth p_n = some r → Con Tryd.prog 131 [.agg [cI v.Kind,cI v.N,cS v.S,.d (.sl (List.map AValue.cs v.L))],aI depth,.c (.loc 0 0)] [(0,.blk [cI p_n] 3)] (.tup [.agg [cI r.1.Kind,.d (.sl (List.map AType.cs r.1.Of))],aI r.2.1]) [(0,.blk [cI r.2.2] 3)]) (v : AValue) (depth : Int) (p_n : Int) {r : AType × Int × Int} (hr : ex_check_B self0 v depth p_n = some r) : Con Tryd.prog 131 [.agg [cI v.Kind,cI v.N,cS v.S,.d (.sl (List.map AValue.cs v.L))],aI depth,.c (.loc 0 0)] [(0,.blk [cI p_n] 3)] (.tup [.agg [cI r.1.Kind,.d (.sl (List.map AType.cs r.1.Of))],aI r.2.1]) [(0,.blk [cI r.2.2] 3)]:=by
 unfold ex_check_B at hr
 refine Con.of_ok 121 0 [.cell 6 182,.tmp 7] [(0,.s (.agg [cI v.Kind,cI v.N,cS v.S,.d (.sl (List.map AValue.cs v.L))])),(1,.s (aI depth)),(2,.s (.c (.loc 0 0)))] Tryd.func131 rfl rfl rfl rfl rfl rfl rfl rfl fun w g M ρ _=>(Ok.seq (Ok.region (OkOps.m 0 (triBox (j:=1) (cs:=[cI v.Kind,cI v.N,cS v.S,.d (.sl (List.map AValue.cs v.L))]) rfl rfl rfl rfl rfl) (OkOps.m 0 (triAlloc (j:=2) (cs:=[cI 0,.d (.v (.slice none 0 0))]) rfl rfl rfl rfl) (OkOps.y (aI 0) (OkOps.nil (Ok.seq (Ok.seq (Ok.region (OkOps.y (.c (.loc 1 0)) (OkOps.y (aI v.Kind) (OkOps.y (aB (v.Kind == 4)) (OkOps.y (aB (v.Kind == 4)) (OkOps.q (triQG (x:=aI depth) rfl rfl trivial rfl) (OkOps.q (triQG (x:=aB (decide (depth ≥ 16))) rfl rfl ⟨fun h=>h,trivial⟩ rfl) ?_)))))))))))))))
 refine OkOps.q (triAnd rfl rfl (fun h=>h) rfl) (OkOps.nil ?_)
 refine Ok.cond (b:=(v.Kind == 4) && (decide (depth ≥ 16))) rfl (fun h1=>?_) (fun h1=>?_)
 have hr:=selT h1 hr
 refine Ok.seq (Ok.region (OkOps.y (.agg [cI 0,.d (.v (.slice none 0 0))]) (OkOps.w (triStore (cs':=[cI 0,.d (.v (.slice none 0 0))]) rfl rfl rfl rfl rfl rfl rfl rfl rfl) (OkOps.y (aI 8) (OkOps.nil (Ok.ret ?_))))))
 obtain rfl:=Option.some.inj hr
 exact ⟨_,rfl,.inr rfl,⟨rfl,trivial⟩⟩
 have hr:=selF h1 hr
 refine Ok.skip (Ok.seq (Ok.region (OkOps.y (.c (.loc 0 0)) (OkOps.y (.c (.loc 0 0)) (OkOps.y (aI p_n) (OkOps.y (aI (IntKind.i64.wrap (p_n + 1))) (OkOps.y (.c (.loc 0 0)) (OkOps.w (triStore (cs':=[cI (IntKind.i64.wrap (p_n + 1))]) rfl rfl rfl rfl rfl rfl rfl rfl rfl) (OkOps.nil (Ok.seq (Ok.block (Ok.seq (Ok.region (OkOps.y (.agg [cI v.Kind,cI v.N,cS v.S,.d (.sl (List.map AValue.cs v.L))]) ?_))))))))))))))
 obtain ⟨x2,hx2,hr⟩:=bind_some hr
 refine OkOps.q (triCl (tau []) (.s (aB x2)) [] (ex_fields_c _ hx2) rfl ⟨.inl rfl,trivial⟩ trivial entry133 trivial) (OkOps.y (aB (!x2)) (OkOps.y (aB (!x2)) (OkOps.nil ?_)))
 refine Ok.cond (b:=!x2) rfl (fun h3=>?_) (fun h3=>?_)
 have hr:=selT h3 hr
 refine Ok.seq (Ok.region (OkOps.y (.agg [cI 0,.d (.v (.slice none 0 0))]) (OkOps.w (triStore (cs':=[cI 0,.d (.v (.slice none 0 0))]) rfl rfl rfl rfl rfl rfl rfl rfl rfl) (OkOps.y (aI 9) (OkOps.nil (Ok.ret ?_))))))
 obtain rfl:=Option.some.inj hr
 exact ⟨_,rfl,.inr rfl,⟨rfl,trivial⟩⟩
 have hr:=selF h3 hr
 obtain ⟨k5,hk5,hr⟩:=jn_some hr
 refine Ok.join (fun (s4 : Bool)=>⟨[(1,.s (aI depth)),(2,.s (.c (.loc 0 0))),(3,.s (.c (.loc 1 0))),(6,.s (.c (.loc 2 0))),(33,.s (aB s4))],[(0,.blk [cI (IntKind.i64.wrap (p_n + 1))] 3),(1,.blk [cI v.Kind,cI v.N,cS v.S,.d (.sl (List.map AValue.cs v.L))] 62),(2,.blk [cI 0,.d (.v (.slice none 0 0))] 182)],0⟩) k5 r (fun s4 hr=>?_) ?_
 rw [hk5] at hr
 refine Ok.cond (b:=s4) rfl (fun h6=>?_) (fun h6=>?_)
 have hr:=selT h6 hr
 refine Ok.seq (Ok.region (OkOps.y (.agg [cI 0,.d (.v (.slice none 0 0))]) (OkOps.w (triStore (cs':=[cI 0,.d (.v (.slice none 0 0))]) rfl rfl rfl rfl rfl rfl rfl rfl rfl) (OkOps.y (aI 1) (OkOps.nil (Ok.ret ?_))))))
 obtain rfl:=Option.some.inj hr
 exact ⟨_,rfl,.inr rfl,⟨rfl,trivial⟩⟩
 have hr:=selF h6 hr
 refine Ok.seq (Ok.region (OkOps.y (.c (.loc 1 2)) (OkOps.y (aS v.S) (OkOps.y (aI (v.S.size : Int)) (OkOps.y (aB (decide ((v.S.size : Int) > 2000))) (OkOps.y (aB (decide ((v.S.size : Int) > 2000))) (OkOps.q (triQG (x:=.c (.loc 1 3)) rfl rfl trivial rfl) (OkOps.q (triQG (x:=.c (.d (.sl (List.map AValue.cs v.L)))) rfl rfl ⟨fun h=>h,trivial⟩ rfl) (OkOps.q (triLenG (enc:=AValue.cs) v.L rfl rfl rfl ⟨fun h=>h,trivial⟩ rfl) (OkOps.q (triQG (x:=aB (decide ((v.L.length : Int) > 100))) rfl rfl ⟨fun h=>h,trivial⟩ rfl) ?_))))))))))
 refine OkOps.q (triOr rfl rfl (fun h=>by rw [h];rfl) rfl) ?_
 refine OkOps.y (aB ((decide ((v.S.size : Int) > 2000)) || (decide ((v.L.length : Int) > 100)))) (OkOps.q (triQG (x:=.c (.loc 0 0)) rfl rfl trivial rfl) (OkOps.q (triQG (x:=.c (.loc 0 0)) rfl rfl ⟨fun h=>h,trivial⟩ rfl) (OkOps.q (triQG (x:=aI (IntKind.i64.wrap (p_n + 1))) rfl rfl ⟨fun h=>h,trivial⟩ rfl) (OkOps.q (triQG (x:=aB (decide ((IntKind.i64.wrap (p_n + 1)) > 1000))) rfl rfl ⟨fun h=>h,trivial⟩ rfl) ?_))))
 refine OkOps.q (triOr rfl rfl (fun h=>by rw [h];rfl) rfl) ?_
 refine OkOps.y (aB (((decide ((v.S.size : Int) > 2000)) || (decide ((v.L.length : Int) > 100))) || (decide ((IntKind.i64.wrap (p_n + 1)) > 1000)))) (OkOps.nil ?_)
 refine Ok.cond (b:=((decide ((v.S.size : Int) > 2000)) || (decide ((v.L.length : Int) > 100))) || (decide ((IntKind.i64.wrap (p_n + 1)) > 1000))) rfl (fun h7=>?_) (fun h7=>?_)
 have hr:=selT h7 hr
 refine Ok.seq (Ok.region (OkOps.y (.agg [cI 0,.d (.v (.slice none 0 0))]) (OkOps.w (triStore (cs':=[cI 0,.d (.v (.slice none 0 0))]) rfl rfl rfl rfl rfl rfl rfl rfl rfl) (OkOps.y (aI 2) (OkOps.nil (Ok.ret ?_))))))
 obtain rfl:=Option.some.inj hr
 exact ⟨_,rfl,.inr rfl,⟨rfl,trivial⟩⟩
 have hr:=selF h7 hr
 refine Ok.seq (Ok.region (OkOps.y (.c (.loc 1 2)) (OkOps.y (aS v.S) ?_)))
 obtain ⟨x8,hx8,hr⟩:=bind_some hr
 refine OkOps.q (triCl (tau []) (.s (aB x8)) [] (unicode_utf8_ValidString_c _ hx8) rfl ⟨.inl rfl,trivial⟩ trivial entry135 trivial) (OkOps.y (aB (!x8)) (OkOps.y (aB (!x8)) (OkOps.nil ?_)))
 refine Ok.cond (b:=!x8) rfl (fun h9=>?_) (fun h9=>?_)
 have hr:=selT h9 hr
 refine Ok.seq (Ok.region (OkOps.y (.agg [cI 0,.d (.v (.slice none 0 0))]) (OkOps.w (triStore (cs':=[cI 0,.d (.v (.slice none 0 0))]) rfl rfl rfl rfl rfl rfl rfl rfl rfl) (OkOps.y (aI 3) (OkOps.nil (Ok.ret ?_))))))
 obtain rfl:=Option.some.inj hr
 exact ⟨_,rfl,.inr rfl,⟨rfl,trivial⟩⟩
 have hr:=selF h9 hr
 refine Ok.seq (Ok.region (OkOps.y (.c (.loc 1 0)) (OkOps.y (aI v.Kind) (OkOps.y (aB (v.Kind != 4)) (OkOps.y (aB (v.Kind != 4)) (OkOps.nil ?_))))))
 refine Ok.cond (b:=v.Kind != 4) rfl (fun h10=>?_) (fun h10=>?_)
 have hr:=selT h10 hr
 refine Ok.seq (Ok.region (OkOps.y (.c (.loc 1 0)) (OkOps.y (aI v.Kind) (OkOps.y (.agg [cI v.Kind,.d (.v (.slice none 0 0))]) (OkOps.w (triStore (cs':=[cI v.Kind,.d (.v (.slice none 0 0))]) rfl rfl rfl rfl rfl rfl rfl rfl rfl) (OkOps.y (aI 0) (OkOps.nil (Ok.ret ?_))))))))
 obtain rfl:=Option.some.inj hr
 exact ⟨_,rfl,.inr rfl,⟨rfl,trivial⟩⟩
 have hr:=selF h10 hr
 refine Ok.skip (Ok.seq (Ok.region (OkOps.y (.c (.d (.v (.slice none 0 0)))) (OkOps.nil ?_))))
 obtain ⟨k12,hk12,hr⟩:=jn_some hr
 refine Ok.join (fun (s11 : (List AType) × Int)=>⟨[(6,.s (.c (.loc 2 0))),(8,.s (.c (.tl 1004 (List.map AType.cs s11.1))))],[(0,.blk [cI s11.2] 3),(2,.blk [cI 0,.d (.v (.slice none 0 0))] 182),(1004,.tail 2)],0⟩) k12 r (fun s11 hr=>?_) ?_
 rw [hk12] at hr
 refine Ok.seq (Ok.region (OkOps.y (.c (.tl 1004 (List.map AType.cs s11.1))) ?_))
 obtain ⟨x13,hx13,hr⟩:=bind_some hr
 refine OkOps.q (triCl (tau []) (.tup [.agg [cI x13.1.Kind,.d (.sl (List.map AType.cs x13.1.Of))],aB x13.2]) [] (ex_common_c _ hx13) rfl ⟨.inr rfl,trivial⟩ trivial entry136 trivial) (OkOps.q (triMv (v:=.tup [.agg [cI x13.1.Kind,.d (.sl (List.map AType.cs x13.1.Of))],aB x13.2]) rfl rfl) (OkOps.y (.agg [cI x13.1.Kind,.d (.sl (List.map AType.cs x13.1.Of))]) (OkOps.y (aB x13.2) (OkOps.m 0 (triAlloc (j:=3) (cs:=[cI 0,.d (.v (.slice none 0 0))]) rfl rfl rfl rfl) (OkOps.w (triStore (cs':=[cI x13.1.Kind,.d (.sl (List.map AType.cs x13.1.Of))]) rfl rfl rfl rfl rfl rfl rfl rfl rfl) (OkOps.y (aB x13.2) (OkOps.nil (Ok.seq (Ok.seq (Ok.region (OkOps.y (aB x13.2) (OkOps.y (aB (!x13.2)) (OkOps.nil ?_)))))))))))))
 refine Ok.cond (b:=!x13.2) rfl (fun h14=>?_) (fun h14=>?_)
 have hr:=selT h14 hr
 refine Ok.seq (Ok.region (OkOps.y (.agg [cI 0,.d (.v (.slice none 0 0))]) (OkOps.w (triStore (cs':=[cI 0,.d (.v (.slice none 0 0))]) rfl rfl rfl rfl rfl rfl rfl rfl rfl) (OkOps.y (aI 5) (OkOps.nil (Ok.ret ?_))))))
 obtain rfl:=Option.some.inj hr
 exact ⟨_,rfl,.inr rfl,⟨rfl,trivial⟩⟩
 have hr:=selF h14 hr
 refine Ok.skip (Ok.seq (Ok.region (OkOps.y (.agg [cI x13.1.Kind,.d (.sl (List.map AType.cs x13.1.Of))]) (OkOps.w (triStore (cs':=[cI x13.1.Kind,.d (.sl (List.map AType.cs x13.1.Of))]) rfl rfl rfl rfl rfl rfl rfl rfl rfl) (OkOps.y (aI 0) (OkOps.nil (Ok.ret ?_)))))))
 obtain rfl:=Option.some.inj hr
 exact ⟨_,rfl,.inl rfl,⟨rfl,trivial⟩⟩
 clear hk12
 refine Ok.seq (Ok.region (OkOps.y (.c (.loc 1 3)) (OkOps.y (.c (.d (.sl (List.map AValue.cs v.L)))) (OkOps.q (triLen (enc:=AValue.cs) v.L rfl rfl trivial rfl) (OkOps.y (aI 0) (OkOps.nil (Ok.block (Ok.loopK (fun (s15 : (List AType) × Int × Int)=>⟨[(1,.s (aI depth)),(2,.s (.c (.loc 0 0))),(6,.s (.c (.loc 2 0))),(8,.s (.c (.tl 1007 (List.map AType.cs s15.1)))),(89,.s (.c (.d (.sl (List.map AValue.cs v.L))))),(90,.s (aI (v.L.length : Int))),(91,.s (aI s15.2.1))],[(0,.blk [cI s15.2.2] 3),(2,.blk [cI 0,.d (.v (.slice none 0 0))] 182),(1007,.tail 2)],0⟩) hr (Conv.trans (Conv.nil 8 1009 2 0 rfl rfl) (Conv.mk (tau [(1007,1009)]) ⟨⟨_,rfl,.inl rfl⟩,⟨_,rfl,.inl rfl⟩,⟨_,rfl,.inl rfl⟩,⟨_,rfl,.inl rfl⟩,⟨_,rfl,.inl rfl⟩,⟨_,rfl,.inl rfl⟩,⟨_,rfl,.inl rfl⟩,trivial⟩ ⟨rfl,rfl,rfl,trivial⟩ rfl rfl rfl rfl)) ?_))))))))
 clear hr
 intro again16 s15 hr
 unfold ex_check_L1 at hr
 refine Ok.seq (Ok.region (OkOps.y (aB (decide (s15.2.1 < (v.L.length : Int)))) (OkOps.nil (Ok.seq ?_))))
 refine Ok.cond (b:=decide (s15.2.1 < (v.L.length : Int))) rfl (fun h17=>?_) (fun h17=>?_)
 have hr:=selT h17 hr
 refine Ok.skip (Ok.seq (Ok.block (Ok.seq (Ok.region ?_))))
 obtain ⟨x18,hx18,hr⟩:=bind_some hr
 refine OkOps.q (triIdx (enc:=AValue.cs) (L:=v.L) (row:=[dI x18.Kind,dI x18.N,dS x18.S,.sl (List.map AValue.cs x18.L)]) hx18 (AValue.cs_eq _) rfl rfl rfl (fun x=>by rw [AValue.cs_eq];rfl) trivial rfl) ?_
 refine OkOps.y (.agg [cI x18.Kind,cI x18.N,cS x18.S,.d (.sl (List.map AValue.cs x18.L))]) (OkOps.m 0 (triAlloc (j:=4) (cs:=[cI 0,cI 0,cS ByteArray.empty,.d (.v (.slice none 0 0))]) rfl rfl rfl rfl) (OkOps.w (triStore (cs':=[cI x18.Kind,cI x18.N,cS x18.S,.d (.sl (List.map AValue.cs x18.L))]) rfl rfl rfl rfl rfl rfl rfl rfl rfl) (OkOps.nil (Ok.seq (Ok.region (OkOps.y (.agg [cI x18.Kind,cI x18.N,cS x18.S,.d (.sl (List.map AValue.cs x18.L))]) (OkOps.y (aI depth) (OkOps.y (aI (IntKind.i64.wrap (depth + 1))) (OkOps.y (.c (.loc 0 0)) ?_)))))))))
 obtain ⟨x19,hx19,hr⟩:=bind_some hr
 refine OkOps.m 0 (triCl (tau [(0,0)]) (.tup [.agg [cI x19.1.Kind,.d (.sl (List.map AType.cs x19.1.Of))],aI x19.2.1]) [(0,.blk [cI x19.2.2] 3)] (hself0 _ _ _ hx19) rfl ⟨.inl rfl,.inl rfl,.inl rfl,trivial⟩ trivial entry131 ⟨rfl,trivial⟩) (OkOps.q (triMv (v:=.tup [.agg [cI x19.1.Kind,.d (.sl (List.map AType.cs x19.1.Of))],aI x19.2.1]) rfl rfl) (OkOps.y (.agg [cI x19.1.Kind,.d (.sl (List.map AType.cs x19.1.Of))]) (OkOps.y (aI x19.2.1) (OkOps.m 0 (triAlloc (j:=5) (cs:=[cI 0,.d (.v (.slice none 0 0))]) rfl rfl rfl rfl) (OkOps.w (triStore (cs':=[cI x19.1.Kind,.d (.sl (List.map AType.cs x19.1.Of))]) rfl rfl rfl rfl rfl rfl rfl rfl rfl) (OkOps.y (aI x19.2.1) (OkOps.nil (Ok.seq (Ok.seq (Ok.region (OkOps.y (aI x19.2.1) (OkOps.y (aB (x19.2.1 != 0)) (OkOps.nil ?_)))))))))))))
 refine Ok.cond (b:=x19.2.1 != 0) rfl (fun h20=>?_) (fun h20=>?_)
 have hr:=selT h20 hr
 refine Ok.seq (Ok.region (OkOps.y (.agg [cI 0,.d (.v (.slice none 0 0))]) (OkOps.y (aI x19.2.1) (OkOps.w (triStore (cs':=[cI 0,.d (.v (.slice none 0 0))]) rfl rfl rfl rfl rfl rfl rfl rfl rfl) (OkOps.y (aI x19.2.1) (OkOps.nil (Ok.ret ?_)))))))
 obtain rfl:=Option.some.inj hr
 exact ⟨_,rfl,.inr rfl,⟨rfl,trivial⟩⟩
 have hr:=selF h20 hr
 refine Ok.skip (Ok.region (OkOps.y (.c (.tl 1007 (List.map AType.cs s15.1))) (OkOps.y (.agg [cI x19.1.Kind,.d (.sl (List.map AType.cs x19.1.Of))]) ?_)))
 refine OkOps.m 0 (triBST (sz:=2) (enc:=AType.cs) (j:=6) ([x19.1]) rfl rfl rfl rfl rfl (rows:=[[dI x19.1.Kind,.sl (List.map AType.cs x19.1.Of)]]) (by simp only [List.map,AType.cs_eq]) rfl rfl (fun x=>by rw [AType.cs_eq];rfl) trivial rfl rfl) ?_
 obtain ⟨x21,hx21,hr⟩:=bind_some hr
 refine OkOps.m2 0 (triApp (enc:=AType.cs) (L:=s15.1) (X:=[x19.1]) (j:=1007) (j':=7) hx21 rfl rfl rfl rfl rfl rfl (fun x=>by rw [AType.cs_eq];rfl) (fun x=>by rw [AType.cs_eq];rfl) (by decide) trivial rfl rfl) ?_
 refine OkOps.y (.c (.tl 7 (List.map AType.cs x21))) (OkOps.nil (Ok.region (OkOps.y (aI (IntKind.i64.wrap (s15.2.1 + 1))) (OkOps.y (aI (IntKind.i64.wrap (s15.2.1 + 1))) (OkOps.nil ?_)))))
 exact ⟨(x21,IntKind.i64.wrap (s15.2.1 + 1),x19.2.2),hr,(Conv.mk (tau [(1007,7)]) ⟨⟨_,rfl,.inl rfl⟩,⟨_,rfl,.inl rfl⟩,⟨_,rfl,.inl rfl⟩,⟨_,rfl,.inl rfl⟩,⟨_,rfl,.inl rfl⟩,⟨_,rfl,.inl rfl⟩,⟨_,rfl,.inl rfl⟩,trivial⟩ ⟨rfl,rfl,rfl,trivial⟩ rfl rfl rfl rfl)⟩
 have hr:=selF h17 hr
 refine Ok.exit ?_
 exact ⟨(s15.1,s15.2.2),hr,(Conv.mk (tau [(1004,1007)]) ⟨⟨_,rfl,.inl rfl⟩,⟨_,rfl,.inl rfl⟩,trivial⟩ ⟨rfl,rfl,rfl,trivial⟩ rfl rfl rfl rfl)⟩
 clear hk5
 refine Ok.seq (Ok.region (OkOps.y (.c (.loc 1 0)) (OkOps.y (aI v.Kind) (OkOps.y (aB (v.Kind == 1)) (OkOps.y (aB (v.Kind == 1)) (OkOps.q (triQG (x:=.c (.loc 1 1)) rfl rfl trivial rfl) (OkOps.q (triQG (x:=aI v.N) rfl rfl ⟨fun h=>h,trivial⟩ rfl) ?_)))))))
 obtain ⟨x22,hx22,hr⟩:=bind_some hr
 refine OkOps.q (triCallG (x:=aB x22) (fun hg=>ex_within_c _ (gO_t hx22 hg)) rfl rfl ⟨.inl rfl,trivial⟩ ⟨fun h=>h,trivial⟩ entry134 rfl rfl rfl) (OkOps.q (triQG (x:=aB (!x22)) rfl rfl ⟨fun h=>h,trivial⟩ rfl) (OkOps.q (triAnd rfl rfl (fun h=>h) rfl) (OkOps.y (aB ((v.Kind == 1) && (!x22))) (OkOps.nil ?_))))
 refine Ok.cond (b:=(v.Kind == 1) && (!x22)) rfl (fun h23=>?_) (fun h23=>?_)
 have hr:=selT h23 hr
 refine Ok.skip ?_
 exact ⟨(v.Kind == 1) && (!x22),hr,(Conv.mk (tau []) ⟨⟨_,rfl,.inl rfl⟩,⟨_,rfl,.inl rfl⟩,⟨_,rfl,.inl rfl⟩,⟨_,rfl,.inl rfl⟩,⟨_,rfl,.inl rfl⟩,trivial⟩ ⟨rfl,rfl,rfl,trivial⟩ rfl rfl rfl rfl)⟩
 have hr:=selF h23 hr
 refine Ok.region (OkOps.y (.c (.loc 1 0)) (OkOps.y (aI v.Kind) (OkOps.y (aB (v.Kind == 2)) (OkOps.y (aB (v.Kind == 2)) (OkOps.q (triQG (x:=.c (.loc 1 1)) rfl rfl trivial rfl) (OkOps.q (triQG (x:=aI v.N) rfl rfl ⟨fun h=>h,trivial⟩ rfl) (OkOps.q (triQG (x:=aB (v.N != 0)) rfl rfl ⟨fun h=>h,trivial⟩ rfl) (OkOps.q (triAnd rfl rfl (fun h=>h) rfl) (OkOps.y (aB ((v.Kind == 2) && (v.N != 0))) (OkOps.q (triQG (x:=.c (.loc 1 1)) rfl rfl trivial rfl) (OkOps.q (triQG (x:=aI v.N) rfl rfl ⟨fun h=>h,trivial⟩ rfl) (OkOps.q (triQG (x:=aB (v.N != 1)) rfl rfl ⟨fun h=>h,trivial⟩ rfl) (OkOps.q (triAnd rfl rfl (fun h=>h) rfl) (OkOps.y (aB (((v.Kind == 2) && (v.N != 0)) && (v.N != 1))) (OkOps.nil ?_)))))))))))))))
 exact ⟨((v.Kind == 2) && (v.N != 0)) && (v.N != 1),hr,(Conv.mk (tau []) ⟨⟨_,rfl,.inl rfl⟩,⟨_,rfl,.inl rfl⟩,⟨_,rfl,.inl rfl⟩,⟨_,rfl,.inl rfl⟩,⟨_,rfl,.inl rfl⟩,trivial⟩ ⟨rfl,rfl,rfl,trivial⟩ rfl rfl rfl rfl)⟩
theorem ex_check_all : ∀ n : Nat,(∀ (v : AValue) (depth : Int) (p_n : Int) {r : AType × Int × Int},ex_check n v depth p_n = some r → Con Tryd.prog 131 [.agg [cI v.Kind,cI v.N,cS v.S,.d (.sl (List.map AValue.cs v.L))],aI depth,.c (.loc 0 0)] [(0,.blk [cI p_n] 3)] (.tup [.agg [cI r.1.Kind,.d (.sl (List.map AType.cs r.1.Of))],aI r.2.1]) [(0,.blk [cI r.2.2] 3)]) ∧ True:=by
 intro n
 induction n with
 | zero=>exact ⟨(by intros;rename_i hr;cases hr),trivial⟩
 | succ n ih=>exact ⟨(by intros;rename_i hr;exact ex_check_B_c _ ih.1 _ _ _ hr),trivial⟩
theorem ex_check_c (n : Nat) (v : AValue) (depth : Int) (p_n : Int) {r : AType × Int × Int} (hr : ex_check n v depth p_n = some r) : Con Tryd.prog 131 [.agg [cI v.Kind,cI v.N,cS v.S,.d (.sl (List.map AValue.cs v.L))],aI depth,.c (.loc 0 0)] [(0,.blk [cI p_n] 3)] (.tup [.agg [cI r.1.Kind,.d (.sl (List.map AType.cs r.1.Of))],aI r.2.1]) [(0,.blk [cI r.2.2] 3)]:=(ex_check_all n).1 v depth p_n hr
theorem ex_copyType_B_c (self0 : AType → Option AType) (hself0 : ∀ (t : AType) {r : AType},self0 t = some r → Con Tryd.prog 132 [.agg [cI t.Kind,.d (.sl (List.map AType.cs t.Of))]] [] (.s (.agg [cI r.Kind,.d (.sl (List.map AType.cs r.Of))])) []) (t : AType) {r : AType} (hr : ex_copyType_B self0 t = some r) : Con Tryd.prog 132 [.agg [cI t.Kind,.d (.sl (List.map AType.cs t.Of))]] [] (.s (.agg [cI r.Kind,.d (.sl (List.map AType.cs r.Of))])) []:=by
 unfold ex_copyType_B at hr
 refine Con.of_ok 16 0 [.cell 2 182] [(0,.s (.agg [cI t.Kind,.d (.sl (List.map AType.cs t.Of))]))] Tryd.func132 rfl rfl rfl rfl rfl rfl rfl rfl fun w g M ρ _=>(Ok.seq (Ok.region (OkOps.m 0 (triBox (j:=0) (cs:=[cI t.Kind,.d (.sl (List.map AType.cs t.Of))]) rfl rfl rfl rfl rfl) (OkOps.m 0 (triAlloc (j:=1) (cs:=[cI 0,.d (.v (.slice none 0 0))]) rfl rfl rfl rfl) (OkOps.nil (Ok.seq (Ok.seq (Ok.region (OkOps.y (.c (.loc 0 1)) (OkOps.y (.c (.d (.sl (List.map AType.cs t.Of)))) (OkOps.q (triLen (enc:=AType.cs) t.Of rfl rfl trivial rfl) (OkOps.y (aB ((t.Of.length : Int) == 0)) (OkOps.nil ?_)))))))))))))
 refine Ok.cond (b:=(t.Of.length : Int) == 0) rfl (fun h1=>?_) (fun h1=>?_)
 have hr:=selT h1 hr
 refine Ok.seq (Ok.region (OkOps.y (.c (.loc 0 0)) (OkOps.y (aI t.Kind) (OkOps.y (.agg [cI t.Kind,.d (.v (.slice none 0 0))]) (OkOps.w (triStore (cs':=[cI t.Kind,.d (.v (.slice none 0 0))]) rfl rfl rfl rfl rfl rfl rfl rfl rfl) (OkOps.nil (Ok.ret ?_)))))))
 obtain rfl:=Option.some.inj hr
 exact ⟨_,rfl,.inr rfl,trivial⟩
 have hr:=selF h1 hr
 refine Ok.skip (Ok.seq (Ok.region (OkOps.y (.c (.loc 0 1)) (OkOps.y (.c (.d (.sl (List.map AType.cs t.Of)))) ?_))))
 obtain ⟨x2,hx2,hr⟩:=bind_some hr
 refine OkOps.q (triIdx (enc:=AType.cs) (L:=t.Of) (row:=[dI x2.Kind,.sl (List.map AType.cs x2.Of)]) hx2 (AType.cs_eq _) rfl rfl rfl (fun x=>by rw [AType.cs_eq];rfl) trivial rfl) ?_
 refine OkOps.y (.agg [cI x2.Kind,.d (.sl (List.map AType.cs x2.Of))]) ?_
 obtain ⟨x3,hx3,hr⟩:=bind_some hr
 refine OkOps.q (triCl (tau []) (.s (.agg [cI x3.Kind,.d (.sl (List.map AType.cs x3.Of))])) [] (hself0 _ hx3) rfl ⟨.inl rfl,trivial⟩ trivial entry132 trivial) ?_
 obtain ⟨x4,hx4,hr⟩:=bind_some hr
 refine OkOps.q (triCl (tau []) (.s (.agg [cI x4.Kind,.d (.sl (List.map AType.cs x4.Of))])) [] (ex_listOf_c _ hx4) rfl ⟨.inl rfl,trivial⟩ trivial entry137 trivial) (OkOps.w (triStore (cs':=[cI x4.Kind,.d (.sl (List.map AType.cs x4.Of))]) rfl rfl rfl rfl rfl rfl rfl rfl rfl) (OkOps.nil (Ok.ret ?_)))
 obtain rfl:=Option.some.inj hr
 exact ⟨_,rfl,.inl rfl,trivial⟩
theorem ex_copyType_all : ∀ n : Nat,(∀ (t : AType) {r : AType},ex_copyType n t = some r → Con Tryd.prog 132 [.agg [cI t.Kind,.d (.sl (List.map AType.cs t.Of))]] [] (.s (.agg [cI r.Kind,.d (.sl (List.map AType.cs r.Of))])) []) ∧ True:=by
 intro n
 induction n with
 | zero=>exact ⟨(by intros;rename_i hr;cases hr),trivial⟩
 | succ n ih=>exact ⟨(by intros;rename_i hr;exact ex_copyType_B_c _ ih.1 _ hr),trivial⟩
theorem ex_copyType_c (n : Nat) (t : AType) {r : AType} (hr : ex_copyType n t = some r) : Con Tryd.prog 132 [.agg [cI t.Kind,.d (.sl (List.map AType.cs t.Of))]] [] (.s (.agg [cI r.Kind,.d (.sl (List.map AType.cs r.Of))])) []:=(ex_copyType_all n).1 t hr
theorem ex_TypeOf_c (v : AValue) {r : AType × Int} (hr : ex_TypeOf v = some r) : Con Tryd.prog 130 [.agg [cI v.Kind,cI v.N,cS v.S,.d (.sl (List.map AValue.cs v.L))]] [] (.tup [.agg [cI r.1.Kind,.d (.sl (List.map AType.cs r.1.Of))],aI r.2]) []:=by
 unfold ex_TypeOf at hr
 refine Con.of_ok 18 0 [.cell 2 182,.tmp 3] [(0,.s (.agg [cI v.Kind,cI v.N,cS v.S,.d (.sl (List.map AValue.cs v.L))]))] Tryd.func130 rfl rfl rfl rfl rfl rfl rfl rfl fun w g M ρ _=>(Ok.seq (Ok.region (OkOps.m 0 (triBox (j:=0) (cs:=[cI v.Kind,cI v.N,cS v.S,.d (.sl (List.map AValue.cs v.L))]) rfl rfl rfl rfl rfl) (OkOps.m 0 (triAlloc (j:=1) (cs:=[cI 0,.d (.v (.slice none 0 0))]) rfl rfl rfl rfl) (OkOps.y (aI 0) (OkOps.nil (Ok.seq (Ok.region (OkOps.m 0 (triAlloc (j:=2) (cs:=[cI 0]) rfl rfl rfl rfl) (OkOps.w (triStore (cs':=[cI 0]) rfl rfl rfl rfl rfl rfl rfl rfl rfl) (OkOps.nil (Ok.seq (Ok.region (OkOps.y (.agg [cI v.Kind,cI v.N,cS v.S,.d (.sl (List.map AValue.cs v.L))]) ?_))))))))))))))
 obtain ⟨x1,hx1,hr⟩:=bind_some hr
 refine OkOps.m 0 (triCl (tau [(0,2)]) (.tup [.agg [cI x1.1.Kind,.d (.sl (List.map AType.cs x1.1.Of))],aI x1.2.1]) [(2,.blk [cI x1.2.2] 3)] (ex_check_c _ _ _ _ hx1) rfl ⟨.inl rfl,.inl rfl,.inl rfl,trivial⟩ trivial entry131 ⟨rfl,trivial⟩) (OkOps.q (triMv (v:=.tup [.agg [cI x1.1.Kind,.d (.sl (List.map AType.cs x1.1.Of))],aI x1.2.1]) rfl rfl) (OkOps.y (.agg [cI x1.1.Kind,.d (.sl (List.map AType.cs x1.1.Of))]) (OkOps.y (aI x1.2.1) (OkOps.m 0 (triAlloc (j:=3) (cs:=[cI 0,.d (.v (.slice none 0 0))]) rfl rfl rfl rfl) (OkOps.w (triStore (cs':=[cI x1.1.Kind,.d (.sl (List.map AType.cs x1.1.Of))]) rfl rfl rfl rfl rfl rfl rfl rfl rfl) (OkOps.y (aI x1.2.1) (OkOps.nil (Ok.seq (Ok.seq (Ok.region (OkOps.y (aI x1.2.1) (OkOps.y (aB (x1.2.1 != 0)) (OkOps.nil ?_)))))))))))))
 refine Ok.cond (b:=x1.2.1 != 0) rfl (fun h2=>?_) (fun h2=>?_)
 have hr:=selT h2 hr
 refine Ok.seq (Ok.region (OkOps.y (.agg [cI 0,.d (.v (.slice none 0 0))]) (OkOps.y (aI x1.2.1) (OkOps.w (triStore (cs':=[cI 0,.d (.v (.slice none 0 0))]) rfl rfl rfl rfl rfl rfl rfl rfl rfl) (OkOps.y (aI x1.2.1) (OkOps.nil (Ok.ret ?_)))))))
 obtain rfl:=Option.some.inj hr
 exact ⟨_,rfl,.inr rfl,trivial⟩
 have hr:=selF h2 hr
 refine Ok.skip (Ok.seq (Ok.region (OkOps.y (.agg [cI x1.1.Kind,.d (.sl (List.map AType.cs x1.1.Of))]) ?_)))
 obtain ⟨x3,hx3,hr⟩:=bind_some hr
 refine OkOps.q (triCl (tau []) (.s (.agg [cI x3.Kind,.d (.sl (List.map AType.cs x3.Of))])) [] (ex_copyType_c _ _ hx3) rfl ⟨.inl rfl,trivial⟩ trivial entry132 trivial) (OkOps.w (triStore (cs':=[cI x3.Kind,.d (.sl (List.map AType.cs x3.Of))]) rfl rfl rfl rfl rfl rfl rfl rfl rfl) (OkOps.y (aI 0) (OkOps.nil (Ok.ret ?_))))
 obtain rfl:=Option.some.inj hr
 exact ⟨_,rfl,.inl rfl,trivial⟩
theorem ex_Check_c (v : AValue) {r : Int} (hr : ex_Check v = some r) : Con Tryd.prog 129 [.agg [cI v.Kind,cI v.N,cS v.S,.d (.sl (List.map AValue.cs v.L))]] [] (.s (aI r)) []:=by
 unfold ex_Check at hr
 refine Con.of_ok 11 0 [.tmp 2] [(0,.s (.agg [cI v.Kind,cI v.N,cS v.S,.d (.sl (List.map AValue.cs v.L))]))] Tryd.func129 rfl rfl rfl rfl rfl rfl rfl rfl fun w g M ρ _=>(Ok.seq (Ok.region (OkOps.m 0 (triBox (j:=0) (cs:=[cI v.Kind,cI v.N,cS v.S,.d (.sl (List.map AValue.cs v.L))]) rfl rfl rfl rfl rfl) (OkOps.y (aI 0) (OkOps.nil (Ok.seq (Ok.region (OkOps.y (.agg [cI v.Kind,cI v.N,cS v.S,.d (.sl (List.map AValue.cs v.L))]) ?_))))))))
 obtain ⟨x1,hx1,hr⟩:=bind_some hr
 refine OkOps.q (triCl (tau []) (.tup [.agg [cI x1.1.Kind,.d (.sl (List.map AType.cs x1.1.Of))],aI x1.2]) [] (ex_TypeOf_c _ hx1) rfl ⟨.inl rfl,trivial⟩ trivial entry130 trivial) (OkOps.q (triMv (v:=.tup [.agg [cI x1.1.Kind,.d (.sl (List.map AType.cs x1.1.Of))],aI x1.2]) rfl rfl) (OkOps.y (.agg [cI x1.1.Kind,.d (.sl (List.map AType.cs x1.1.Of))]) (OkOps.y (aI x1.2) (OkOps.m 0 (triAlloc (j:=1) (cs:=[cI 0,.d (.v (.slice none 0 0))]) rfl rfl rfl rfl) (OkOps.w (triStore (cs':=[cI x1.1.Kind,.d (.sl (List.map AType.cs x1.1.Of))]) rfl rfl rfl rfl rfl rfl rfl rfl rfl) (OkOps.y (aI x1.2) (OkOps.nil (Ok.seq (Ok.region (OkOps.y (aI x1.2) (OkOps.y (aI x1.2) (OkOps.nil (Ok.ret ?_)))))))))))))
 obtain rfl:=Option.some.inj hr
 exact ⟨_,rfl,.inl rfl,trivial⟩
end Go.Proofs.YtfoigppmcelgfaaDoor
end
section
set_option maxRecDepth 100000
namespace Go.Proofs.YtfoigppmcelgfaaDoor
open Go Go.E2
theorem vw_attributes_c (l : (List Attr)) {r : Int} (hr : vw_attributes l = some r) : Con Tryd.prog 123 [.c (.d (.sl (List.map Attr.cs l)))] [] (.s (aI r)) []:=by
 unfold vw_attributes at hr
 refine Con.of_ok 39 0 [.tmp 2] [(0,.s (.c (.d (.sl (List.map Attr.cs l)))))] Tryd.func123 rfl rfl rfl rfl rfl rfl rfl rfl fun w g M ρ _=>(Ok.seq (Ok.region (OkOps.y (aI 0) (OkOps.nil ?_))))
 obtain ⟨k2,hk2,hr⟩:=jn_some hr
 refine Ok.join (fun (s1 : Unit)=>⟨[],[],0⟩) k2 r (fun s1 hr=>?_) ?_
 rw [hk2] at hr
 refine Ok.seq (Ok.region (OkOps.y (aI 0) (OkOps.nil (Ok.ret ?_))))
 obtain rfl:=Option.some.inj hr
 exact ⟨_,rfl,.inl rfl,trivial⟩
 clear hk2
 refine Ok.seq (Ok.region (OkOps.y (.c (.d (.sl (List.map Attr.cs l)))) (OkOps.q (triLen (enc:=Attr.cs) l rfl rfl trivial rfl) (OkOps.y (aI 0) (OkOps.nil (Ok.block (Ok.loopK (fun (s3 : Int)=>⟨[(0,.s (.c (.d (.sl (List.map Attr.cs l))))),(6,.s (.c (.d (.sl (List.map Attr.cs l))))),(7,.s (aI (l.length : Int))),(8,.s (aI s3))],[],0⟩) hr (Conv.mk (tau []) ⟨⟨_,rfl,.inl rfl⟩,⟨_,rfl,.inl rfl⟩,⟨_,rfl,.inl rfl⟩,⟨_,rfl,.inl rfl⟩,trivial⟩ trivial rfl rfl rfl rfl) ?_)))))))
 clear hr
 intro again4 s3 hr
 unfold vw_attributes_L1 at hr
 refine Ok.seq (Ok.region (OkOps.y (aB (decide (s3 < (l.length : Int)))) (OkOps.nil (Ok.seq ?_))))
 refine Ok.cond (b:=decide (s3 < (l.length : Int))) rfl (fun h5=>?_) (fun h5=>?_)
 have hr:=selT h5 hr
 refine Ok.skip (Ok.seq (Ok.block (Ok.seq (Ok.region (OkOps.y (aI s3) ?_)))))
 obtain ⟨x6,hx6,hr⟩:=bind_some hr
 refine OkOps.q (triIdx (enc:=Attr.cs) (L:=l) (row:=[dS x6.Name,dI x6.Value.Kind,dI x6.Value.N,dS x6.Value.S,.sl (List.map AValue.cs x6.Value.L)]) hx6 rfl rfl rfl rfl (fun _=>rfl) trivial rfl) (OkOps.y (.agg [cS x6.Name,cI x6.Value.Kind,cI x6.Value.N,cS x6.Value.S,.d (.sl (List.map AValue.cs x6.Value.L))]) (OkOps.m 0 (triAlloc (j:=0) (cs:=[cS ByteArray.empty,cI 0,cI 0,cS ByteArray.empty,.d (.v (.slice none 0 0))]) rfl rfl rfl rfl) (OkOps.y (aI s3) (OkOps.w (triStore (cs':=[cS x6.Name,cI x6.Value.Kind,cI x6.Value.N,cS x6.Value.S,.d (.sl (List.map AValue.cs x6.Value.L))]) rfl rfl rfl rfl rfl rfl rfl rfl rfl) (OkOps.nil (Ok.seq (Ok.block (Ok.seq (Ok.region (OkOps.y (.c (.loc 0 0)) (OkOps.y (aS x6.Name) ?_)))))))))))
 obtain ⟨x7,hx7,hr⟩:=bind_some hr
 refine OkOps.q (triCl (tau []) (.s (aB x7)) [] (ex_Name_c _ hx7) rfl ⟨.inl rfl,trivial⟩ trivial entry128 trivial) (OkOps.y (aB (!x7)) (OkOps.y (aB (!x7)) (OkOps.nil ?_)))
 refine Ok.cond (b:=!x7) rfl (fun h8=>?_) (fun h8=>?_)
 have hr:=selT h8 hr
 refine Ok.seq (Ok.region (OkOps.y (aI 4) (OkOps.nil (Ok.ret ?_))))
 obtain rfl:=Option.some.inj hr
 exact ⟨_,rfl,.inl rfl,trivial⟩
 have hr:=selF h8 hr
 refine Ok.seq (Ok.regionD (by kernel_rfl) (OkD.x (aI s3) rfl trivial rfl (OkD.x (aB (decide (s3 > 0))) rfl trivial rfl (OkD.x (aB (decide (s3 > 0))) rfl trivial rfl (OkD.q (triQG (x:=.c (.d (.sl (List.map Attr.cs l)))) rfl rfl trivial rfl) (OkD.q (triQG (x:=aI s3) rfl rfl trivial rfl) (OkD.q (triQG (x:=aI (IntKind.i64.wrap (s3 - 1))) rfl rfl ⟨fun h=>h,trivial⟩ rfl) ?_)))))))
 obtain ⟨x9,hx9,hr⟩:=bind_some hr
 refine OkD.q (triIdxG (enc:=Attr.cs) (L:=l) (row:=[dS x9.Name,dI x9.Value.Kind,dI x9.Value.N,dS x9.Value.S,.sl (List.map AValue.cs x9.Value.L)]) (gO_t hx9) rfl rfl rfl rfl rfl (fun _=>rfl) ⟨fun h=>h,⟨fun h=>h,trivial⟩⟩ rfl) (OkD.q (triQG (x:=.c (.pt [dS x9.Name,dI x9.Value.Kind,dI x9.Value.N,dS x9.Value.S,.sl (List.map AValue.cs x9.Value.L)])) rfl rfl ⟨fun h=>h,trivial⟩ rfl) (OkD.q (triQG (x:=aS x9.Name) rfl rfl ⟨fun h=>h,trivial⟩ rfl) (OkD.q (triQG (x:=.c (.loc 0 0)) rfl rfl trivial rfl) (OkD.q (triQG (x:=aS x6.Name) rfl rfl ⟨fun h=>h,trivial⟩ rfl) (OkD.q (triQG (x:=aB (!(Op.bytesLess x9.Name.toList x6.Name.toList))) rfl rfl ⟨fun h=>h,⟨fun h=>h,trivial⟩⟩ rfl) (OkD.q (triAnd rfl rfl (fun h=>h) rfl) (OkD.x (aB ((decide (s3 > 0)) && (!(Op.bytesLess x9.Name.toList x6.Name.toList)))) rfl trivial rfl (OkD.nil (by kernel_rfl) ?_))))))))
 refine Ok.cond (b:=(decide (s3 > 0)) && (!(Op.bytesLess x9.Name.toList x6.Name.toList))) rfl (fun h10=>?_) (fun h10=>?_)
 have hr:=selT h10 hr
 refine Ok.seq (Ok.region (OkOps.y (aI 10) (OkOps.nil (Ok.ret ?_))))
 obtain rfl:=Option.some.inj hr
 exact ⟨_,rfl,.inl rfl,trivial⟩
 have hr:=selF h10 hr
 refine Ok.skip (Ok.seq (Ok.region (OkOps.y (.c (.loc 0 1)) (OkOps.y (.agg [cI x6.Value.Kind,cI x6.Value.N,cS x6.Value.S,.d (.sl (List.map AValue.cs x6.Value.L))]) ?_))))
 obtain ⟨x11,hx11,hr⟩:=bind_some hr
 refine OkOps.q (triCl (tau []) (.s (aI x11)) [] (ex_Check_c _ hx11) rfl ⟨.inl rfl,trivial⟩ trivial entry129 trivial) (OkOps.y (aI x11) (OkOps.nil (Ok.seq (Ok.region (OkOps.y (aI x11) (OkOps.y (aB (x11 != 0)) (OkOps.nil ?_)))))))
 refine Ok.cond (b:=x11 != 0) rfl (fun h12=>?_) (fun h12=>?_)
 have hr:=selT h12 hr
 refine Ok.seq (Ok.region (OkOps.y (aI x11) (OkOps.y (aI x11) (OkOps.nil (Ok.ret ?_)))))
 obtain rfl:=Option.some.inj hr
 exact ⟨_,rfl,.inl rfl,trivial⟩
 have hr:=selF h12 hr
 refine Ok.skip (Ok.region (OkOps.y (aI (IntKind.i64.wrap (s3 + 1))) (OkOps.y (aI (IntKind.i64.wrap (s3 + 1))) (OkOps.nil ?_))))
 exact ⟨IntKind.i64.wrap (s3 + 1),hr,(Conv.mk (tau []) ⟨⟨_,rfl,.inl rfl⟩,⟨_,rfl,.inl rfl⟩,⟨_,rfl,.inl rfl⟩,⟨_,rfl,.inl rfl⟩,trivial⟩ trivial rfl rfl rfl rfl)⟩
 have hr:=selF h5 hr
 refine Ok.exit ?_
 exact ⟨(),hr,(Conv.mk (tau []) trivial trivial rfl rfl rfl rfl)⟩
theorem vw_actions_c (l : (List Action)) {r : Int} (hr : vw_actions l = some r) : Con Tryd.prog 124 [.c (.d (.sl (List.map Action.cs l)))] [] (.s (aI r)) []:=by
 unfold vw_actions at hr
 refine Con.of_ok 65 0 [.tmp 2] [(0,.s (.c (.d (.sl (List.map Action.cs l)))))] Tryd.func124 rfl rfl rfl rfl rfl rfl rfl rfl fun w g M ρ _=>(Ok.seq (Ok.region (OkOps.y (aI 0) (OkOps.nil ?_))))
 obtain ⟨k2,hk2,hr⟩:=jn_some hr
 refine Ok.join (fun (s1 : Unit)=>⟨[],[],0⟩) k2 r (fun s1 hr=>?_) ?_
 rw [hk2] at hr
 refine Ok.seq (Ok.region (OkOps.y (aI 0) (OkOps.nil (Ok.ret ?_))))
 obtain rfl:=Option.some.inj hr
 exact ⟨_,rfl,.inl rfl,trivial⟩
 clear hk2
 refine Ok.seq (Ok.region (OkOps.y (.c (.d (.sl (List.map Action.cs l)))) (OkOps.q (triLen (enc:=Action.cs) l rfl rfl trivial rfl) (OkOps.y (aI 0) (OkOps.nil (Ok.block (Ok.loopK (fun (s3 : Int)=>⟨[(0,.s (.c (.d (.sl (List.map Action.cs l))))),(8,.s (.c (.d (.sl (List.map Action.cs l))))),(9,.s (aI (l.length : Int))),(10,.s (aI s3))],[],0⟩) hr (Conv.mk (tau []) ⟨⟨_,rfl,.inl rfl⟩,⟨_,rfl,.inl rfl⟩,⟨_,rfl,.inl rfl⟩,⟨_,rfl,.inl rfl⟩,trivial⟩ trivial rfl rfl rfl rfl) ?_)))))))
 clear hr
 intro again4 s3 hr
 unfold vw_actions_L2 at hr
 refine Ok.seq (Ok.region (OkOps.y (aB (decide (s3 < (l.length : Int)))) (OkOps.nil (Ok.seq ?_))))
 refine Ok.cond (b:=decide (s3 < (l.length : Int))) rfl (fun h5=>?_) (fun h5=>?_)
 have hr:=selT h5 hr
 refine Ok.skip ?_
 obtain ⟨k7,hk7,hr⟩:=jn_some hr
 refine Ok.join (fun (s6 : Unit)=>⟨[(0,.s (.c (.d (.sl (List.map Action.cs l))))),(8,.s (.c (.d (.sl (List.map Action.cs l))))),(9,.s (aI (l.length : Int))),(10,.s (aI s3))],[],0⟩) k7 r (fun s6 hr=>?_) ?_
 rw [hk7] at hr
 refine Ok.region (OkOps.y (aI (IntKind.i64.wrap (s3 + 1))) (OkOps.y (aI (IntKind.i64.wrap (s3 + 1))) (OkOps.nil ?_)))
 exact ⟨IntKind.i64.wrap (s3 + 1),hr,(Conv.mk (tau []) ⟨⟨_,rfl,.inl rfl⟩,⟨_,rfl,.inl rfl⟩,⟨_,rfl,.inl rfl⟩,⟨_,rfl,.inl rfl⟩,trivial⟩ trivial rfl rfl rfl rfl)⟩
 clear hk7
 refine Ok.block (Ok.seq (Ok.region (OkOps.y (aI s3) ?_)))
 obtain ⟨x8,hx8,hr⟩:=bind_some hr
 refine OkOps.q (triIdx (enc:=Action.cs) (L:=l) (row:=[dS x8.Event,dS x8.Instance,dS x8.Handler,.sl (List.map AValue.cs x8.Args)]) hx8 rfl rfl rfl rfl (fun _=>rfl) trivial rfl) (OkOps.y (.agg [cS x8.Event,cS x8.Instance,cS x8.Handler,.d (.sl (List.map AValue.cs x8.Args))]) (OkOps.m 0 (triAlloc (j:=0) (cs:=[cS ByteArray.empty,cS ByteArray.empty,cS ByteArray.empty,.d (.v (.slice none 0 0))]) rfl rfl rfl rfl) (OkOps.y (aI s3) (OkOps.w (triStore (cs':=[cS x8.Event,cS x8.Instance,cS x8.Handler,.d (.sl (List.map AValue.cs x8.Args))]) rfl rfl rfl rfl rfl rfl rfl rfl rfl) (OkOps.nil (Ok.seq (Ok.block (Ok.seq (Ok.region (OkOps.y (.c (.loc 0 0)) (OkOps.y (aS x8.Event) ?_)))))))))))
 obtain ⟨x9,hx9,hr⟩:=bind_some hr
 refine OkOps.q (triCl (tau []) (.s (aB x9)) [] (ex_Name_c _ hx9) rfl ⟨.inl rfl,trivial⟩ trivial entry128 trivial) (OkOps.y (aB (!x9)) (OkOps.y (aB (!x9)) (OkOps.q (triQG (x:=.c (.loc 0 2)) rfl rfl trivial rfl) (OkOps.q (triQG (x:=aS x8.Handler) rfl rfl ⟨fun h=>h,trivial⟩ rfl) ?_))))
 obtain ⟨x10,hx10,hr⟩:=bind_some hr
 refine OkOps.q (triCallG (x:=aB x10) (fun hg=>ex_Name_c _ (gO_t hx10 hg)) rfl rfl ⟨.inl rfl,trivial⟩ ⟨fun h=>h,trivial⟩ entry128 rfl rfl rfl) (OkOps.q (triQG (x:=aB (!x10)) rfl rfl ⟨fun h=>h,trivial⟩ rfl) ?_)
 refine OkOps.q (triOr rfl rfl (fun h=>by rw [h];rfl) rfl) ?_
 refine OkOps.y (aB ((!x9) || (!x10))) (OkOps.nil ?_)
 refine Ok.cond (b:=(!x9) || (!x10)) rfl (fun h11=>?_) (fun h11=>?_)
 have hr:=selT h11 hr
 refine Ok.seq (Ok.region (OkOps.y (aI 4) (OkOps.nil (Ok.ret ?_))))
 obtain rfl:=Option.some.inj hr
 exact ⟨_,rfl,.inl rfl,trivial⟩
 have hr:=selF h11 hr
 refine Ok.seq (Ok.regionD (by kernel_rfl) (OkD.x (aI s3) rfl trivial rfl (OkD.x (aB (decide (s3 > 0))) rfl trivial rfl (OkD.x (aB (decide (s3 > 0))) rfl trivial rfl (OkD.q (triQG (x:=.c (.d (.sl (List.map Action.cs l)))) rfl rfl trivial rfl) (OkD.q (triQG (x:=aI s3) rfl rfl trivial rfl) (OkD.q (triQG (x:=aI (IntKind.i64.wrap (s3 - 1))) rfl rfl ⟨fun h=>h,trivial⟩ rfl) ?_)))))))
 obtain ⟨x12,hx12,hr⟩:=bind_some hr
 refine OkD.q (triIdxG (enc:=Action.cs) (L:=l) (row:=[dS x12.Event,dS x12.Instance,dS x12.Handler,.sl (List.map AValue.cs x12.Args)]) (gO_t hx12) rfl rfl rfl rfl rfl (fun _=>rfl) ⟨fun h=>h,⟨fun h=>h,trivial⟩⟩ rfl) (OkD.q (triQG (x:=.c (.pt [dS x12.Event,dS x12.Instance,dS x12.Handler,.sl (List.map AValue.cs x12.Args)])) rfl rfl ⟨fun h=>h,trivial⟩ rfl) (OkD.q (triQG (x:=aS x12.Event) rfl rfl ⟨fun h=>h,trivial⟩ rfl) (OkD.q (triQG (x:=.c (.loc 0 0)) rfl rfl trivial rfl) (OkD.q (triQG (x:=aS x8.Event) rfl rfl ⟨fun h=>h,trivial⟩ rfl) (OkD.q (triQG (x:=aB (!(Op.bytesLess x12.Event.toList x8.Event.toList))) rfl rfl ⟨fun h=>h,⟨fun h=>h,trivial⟩⟩ rfl) (OkD.q (triAnd rfl rfl (fun h=>h) rfl) (OkD.x (aB ((decide (s3 > 0)) && (!(Op.bytesLess x12.Event.toList x8.Event.toList)))) rfl trivial rfl (OkD.nil (by kernel_rfl) ?_))))))))
 refine Ok.cond (b:=(decide (s3 > 0)) && (!(Op.bytesLess x12.Event.toList x8.Event.toList))) rfl (fun h13=>?_) (fun h13=>?_)
 have hr:=selT h13 hr
 refine Ok.seq (Ok.region (OkOps.y (aI 10) (OkOps.nil (Ok.ret ?_))))
 obtain rfl:=Option.some.inj hr
 exact ⟨_,rfl,.inl rfl,trivial⟩
 have hr:=selF h13 hr
 refine Ok.seq (Ok.region (OkOps.y (.c (.loc 0 1)) (OkOps.y (aS x8.Instance) (OkOps.y (aI (x8.Instance.size : Int)) (OkOps.y (aB (decide ((x8.Instance.size : Int) > 400))) (OkOps.y (aB (decide ((x8.Instance.size : Int) > 400))) (OkOps.q (triQG (x:=.c (.loc 0 3)) rfl rfl trivial rfl) (OkOps.q (triQG (x:=.c (.d (.sl (List.map AValue.cs x8.Args)))) rfl rfl ⟨fun h=>h,trivial⟩ rfl) (OkOps.q (triLenG (enc:=AValue.cs) x8.Args rfl rfl rfl ⟨fun h=>h,trivial⟩ rfl) (OkOps.q (triQG (x:=aB (decide ((x8.Args.length : Int) > 100))) rfl rfl ⟨fun h=>h,trivial⟩ rfl) ?_))))))))))
 refine OkOps.q (triOr rfl rfl (fun h=>by rw [h];rfl) rfl) ?_
 refine OkOps.y (aB ((decide ((x8.Instance.size : Int) > 400)) || (decide ((x8.Args.length : Int) > 100)))) (OkOps.nil ?_)
 refine Ok.cond (b:=(decide ((x8.Instance.size : Int) > 400)) || (decide ((x8.Args.length : Int) > 100))) rfl (fun h14=>?_) (fun h14=>?_)
 have hr:=selT h14 hr
 refine Ok.seq (Ok.region (OkOps.y (aI 2) (OkOps.nil (Ok.ret ?_))))
 obtain rfl:=Option.some.inj hr
 exact ⟨_,rfl,.inl rfl,trivial⟩
 have hr:=selF h14 hr
 refine Ok.skip (Ok.seq (Ok.region (OkOps.y (.c (.loc 0 3)) (OkOps.y (.c (.d (.sl (List.map AValue.cs x8.Args)))) (OkOps.q (triLen (enc:=AValue.cs) x8.Args rfl rfl trivial rfl) (OkOps.y (aI 0) (OkOps.nil ?_)))))))
 obtain ⟨k16,hk16,hr⟩:=jn_some hr
 refine Ok.joinEnd (fun (s15 : Unit)=>⟨[(0,.s (.c (.d (.sl (List.map Action.cs l))))),(8,.s (.c (.d (.sl (List.map Action.cs l))))),(9,.s (aI (l.length : Int))),(10,.s (aI s3))],[],0⟩) k16 r (fun s15 hr=>?_) ?_
 rw [hk16] at hr
 exact ⟨(),hr,(Conv.mk (tau []) ⟨⟨_,rfl,.inl rfl⟩,⟨_,rfl,.inl rfl⟩,⟨_,rfl,.inl rfl⟩,⟨_,rfl,.inl rfl⟩,trivial⟩ trivial rfl rfl rfl rfl)⟩
 clear hk16
 refine Ok.block (Ok.loopK (fun (s17 : Int)=>⟨[(0,.s (.c (.d (.sl (List.map Action.cs l))))),(8,.s (.c (.d (.sl (List.map Action.cs l))))),(9,.s (aI (l.length : Int))),(10,.s (aI s3)),(52,.s (.c (.d (.sl (List.map AValue.cs x8.Args))))),(53,.s (aI (x8.Args.length : Int))),(54,.s (aI s17))],[],0⟩) hr (Conv.mk (tau []) ⟨⟨_,rfl,.inl rfl⟩,⟨_,rfl,.inl rfl⟩,⟨_,rfl,.inl rfl⟩,⟨_,rfl,.inl rfl⟩,⟨_,rfl,.inl rfl⟩,⟨_,rfl,.inl rfl⟩,⟨_,rfl,.inl rfl⟩,trivial⟩ trivial rfl rfl rfl rfl) ?_)
 clear hr
 intro again18 s17 hr
 unfold vw_actions_L1 at hr
 refine Ok.seq (Ok.region (OkOps.y (aB (decide (s17 < (x8.Args.length : Int)))) (OkOps.nil (Ok.seq ?_))))
 refine Ok.cond (b:=decide (s17 < (x8.Args.length : Int))) rfl (fun h19=>?_) (fun h19=>?_)
 have hr:=selT h19 hr
 refine Ok.skip (Ok.seq (Ok.block (Ok.seq (Ok.region ?_))))
 obtain ⟨x20,hx20,hr⟩:=bind_some hr
 refine OkOps.q (triIdx (enc:=AValue.cs) (L:=x8.Args) (row:=[dI x20.Kind,dI x20.N,dS x20.S,.sl (List.map AValue.cs x20.L)]) hx20 (AValue.cs_eq _) rfl rfl rfl (fun x=>by rw [AValue.cs_eq];rfl) trivial rfl) ?_
 refine OkOps.y (.agg [cI x20.Kind,cI x20.N,cS x20.S,.d (.sl (List.map AValue.cs x20.L))]) (OkOps.m 0 (triAlloc (j:=1) (cs:=[cI 0,cI 0,cS ByteArray.empty,.d (.v (.slice none 0 0))]) rfl rfl rfl rfl) (OkOps.w (triStore (cs':=[cI x20.Kind,cI x20.N,cS x20.S,.d (.sl (List.map AValue.cs x20.L))]) rfl rfl rfl rfl rfl rfl rfl rfl rfl) (OkOps.nil (Ok.seq (Ok.region (OkOps.y (.agg [cI x20.Kind,cI x20.N,cS x20.S,.d (.sl (List.map AValue.cs x20.L))]) ?_))))))
 obtain ⟨x21,hx21,hr⟩:=bind_some hr
 refine OkOps.q (triCl (tau []) (.s (aI x21)) [] (ex_Check_c _ hx21) rfl ⟨.inl rfl,trivial⟩ trivial entry129 trivial) (OkOps.y (aI x21) (OkOps.nil (Ok.seq (Ok.region (OkOps.y (aI x21) (OkOps.y (aB (x21 != 0)) (OkOps.nil ?_)))))))
 refine Ok.cond (b:=x21 != 0) rfl (fun h22=>?_) (fun h22=>?_)
 have hr:=selT h22 hr
 refine Ok.seq (Ok.region (OkOps.y (aI x21) (OkOps.y (aI x21) (OkOps.nil (Ok.ret ?_)))))
 obtain rfl:=Option.some.inj hr
 exact ⟨_,rfl,.inl rfl,trivial⟩
 have hr:=selF h22 hr
 refine Ok.skip (Ok.region (OkOps.y (aI (IntKind.i64.wrap (s17 + 1))) (OkOps.y (aI (IntKind.i64.wrap (s17 + 1))) (OkOps.nil ?_))))
 exact ⟨IntKind.i64.wrap (s17 + 1),hr,(Conv.mk (tau []) ⟨⟨_,rfl,.inl rfl⟩,⟨_,rfl,.inl rfl⟩,⟨_,rfl,.inl rfl⟩,⟨_,rfl,.inl rfl⟩,⟨_,rfl,.inl rfl⟩,⟨_,rfl,.inl rfl⟩,⟨_,rfl,.inl rfl⟩,trivial⟩ trivial rfl rfl rfl rfl)⟩
 have hr:=selF h19 hr
 refine Ok.exit ?_
 exact ⟨(),hr,(Conv.mk (tau []) ⟨⟨_,rfl,.inl rfl⟩,⟨_,rfl,.inl rfl⟩,⟨_,rfl,.inl rfl⟩,⟨_,rfl,.inl rfl⟩,trivial⟩ trivial rfl rfl rfl rfl)⟩
 have hr:=selF h5 hr
 refine Ok.exit ?_
 exact ⟨(),hr,(Conv.mk (tau []) trivial trivial rfl rfl rfl rfl)⟩
theorem vw_validate_B_c (self0 : View → Int → Int → Option (Int × Int)) (hself0 : ∀ (v : View) (depth : Int) (p_n : Int) {r : Int × Int},self0 v depth p_n = some r → Con Tryd.prog 113 [.agg [cI v.Kind,cS v.Key,.d (.sl (List.map Attr.cs v.Attrs)),.d (.sl (List.map Action.cs v.Actions)),.d (.sl (List.map View.cs v.Kids))],aI depth,.c (.loc 0 0)] [(0,.blk [cI p_n] 3)] (.s (aI r.1)) [(0,.blk [cI r.2] 3)]) (v : View) (depth : Int) (p_n : Int) {r : Int × Int} (hr : vw_validate_B self0 v depth p_n = some r) : Con Tryd.prog 113 [.agg [cI v.Kind,cS v.Key,.d (.sl (List.map Attr.cs v.Attrs)),.d (.sl (List.map Action.cs v.Actions)),.d (.sl (List.map View.cs v.Kids))],aI depth,.c (.loc 0 0)] [(0,.blk [cI p_n] 3)] (.s (aI r.1)) [(0,.blk [cI r.2] 3)]:=by
 unfold vw_validate_B at hr
 refine Con.of_ok 108 0 [.tmp 6] [(0,.s (.agg [cI v.Kind,cS v.Key,.d (.sl (List.map Attr.cs v.Attrs)),.d (.sl (List.map Action.cs v.Actions)),.d (.sl (List.map View.cs v.Kids))])),(1,.s (aI depth)),(2,.s (.c (.loc 0 0)))] Tryd.func113 rfl rfl rfl rfl rfl rfl rfl rfl fun w g M ρ _=>(Ok.seq (Ok.region (OkOps.m 0 (triBox (j:=1) (cs:=[cI v.Kind,cS v.Key,.d (.sl (List.map Attr.cs v.Attrs)),.d (.sl (List.map Action.cs v.Actions)),.d (.sl (List.map View.cs v.Kids))]) rfl rfl rfl rfl rfl) (OkOps.y (aI 0) (OkOps.nil (Ok.seq (Ok.region (OkOps.y (.c (.loc 0 0)) (OkOps.y (.c (.loc 0 0)) (OkOps.y (aI p_n) (OkOps.y (aI (IntKind.i64.wrap (p_n + 1))) (OkOps.y (.c (.loc 0 0)) (OkOps.w (triStore (cs':=[cI (IntKind.i64.wrap (p_n + 1))]) rfl rfl rfl rfl rfl rfl rfl rfl rfl) (OkOps.nil (Ok.seq ?_)))))))))))))))
 refine Ok.block (Ok.seq (Ok.region (OkOps.y (aI depth) (OkOps.y (aB (decide (depth > 16))) (OkOps.y (aB (decide (depth > 16))) (OkOps.nil ?_))))))
 refine Ok.cond (b:=decide (depth > 16)) rfl (fun h1=>?_) (fun h1=>?_)
 have hr:=selT h1 hr
 refine Ok.seq (Ok.region (OkOps.y (aI 8) (OkOps.nil (Ok.ret ?_))))
 obtain rfl:=Option.some.inj hr
 exact ⟨_,rfl,.inl rfl,⟨rfl,trivial⟩⟩
 have hr:=selF h1 hr
 refine Ok.seq (Ok.region (OkOps.y (.c (.loc 0 0)) (OkOps.y (.c (.loc 0 0)) (OkOps.y (aI (IntKind.i64.wrap (p_n + 1))) (OkOps.y (aB (decide ((IntKind.i64.wrap (p_n + 1)) > 400))) (OkOps.y (aB (decide ((IntKind.i64.wrap (p_n + 1)) > 400))) (OkOps.nil ?_)))))))
 refine Ok.cond (b:=decide ((IntKind.i64.wrap (p_n + 1)) > 400)) rfl (fun h2=>?_) (fun h2=>?_)
 have hr:=selT h2 hr
 refine Ok.seq (Ok.region (OkOps.y (aI 2) (OkOps.nil (Ok.ret ?_))))
 obtain rfl:=Option.some.inj hr
 exact ⟨_,rfl,.inl rfl,⟨rfl,trivial⟩⟩
 have hr:=selF h2 hr
 refine Ok.seq (Ok.region (OkOps.y (.c (.loc 1 0)) (OkOps.y (aI v.Kind) (OkOps.y (aB (decide (v.Kind < 1))) (OkOps.y (aB (decide (v.Kind < 1))) (OkOps.q (triQG (x:=.c (.loc 1 0)) rfl rfl trivial rfl) (OkOps.q (triQG (x:=aI v.Kind) rfl rfl ⟨fun h=>h,trivial⟩ rfl) (OkOps.q (triQG (x:=aB (decide (v.Kind > 13))) rfl rfl ⟨fun h=>h,trivial⟩ rfl) ?_))))))))
 refine OkOps.q (triOr rfl rfl (fun h=>by rw [h];rfl) rfl) ?_
 refine OkOps.y (aB ((decide (v.Kind < 1)) || (decide (v.Kind > 13)))) (OkOps.nil ?_)
 refine Ok.cond (b:=(decide (v.Kind < 1)) || (decide (v.Kind > 13))) rfl (fun h3=>?_) (fun h3=>?_)
 have hr:=selT h3 hr
 refine Ok.seq (Ok.region (OkOps.y (aI 9) (OkOps.nil (Ok.ret ?_))))
 obtain rfl:=Option.some.inj hr
 exact ⟨_,rfl,.inl rfl,⟨rfl,trivial⟩⟩
 have hr:=selF h3 hr
 refine Ok.seq (Ok.region (OkOps.y (.c (.loc 1 1)) (OkOps.y (aS v.Key) ?_)))
 obtain ⟨x4,hx4,hr⟩:=bind_some hr
 refine OkOps.q (triCl (tau []) (.s (aB x4)) [] (vw_Key_c _ hx4) rfl ⟨.inl rfl,trivial⟩ trivial entry122 trivial) (OkOps.y (aB (!x4)) (OkOps.y (aB (!x4)) (OkOps.nil ?_)))
 refine Ok.cond (b:=!x4) rfl (fun h5=>?_) (fun h5=>?_)
 have hr:=selT h5 hr
 refine Ok.seq (Ok.region (OkOps.y (aI 4) (OkOps.nil (Ok.ret ?_))))
 obtain rfl:=Option.some.inj hr
 exact ⟨_,rfl,.inl rfl,⟨rfl,trivial⟩⟩
 have hr:=selF h5 hr
 refine Ok.seq (Ok.region (OkOps.y (.c (.loc 1 2)) (OkOps.y (.c (.d (.sl (List.map Attr.cs v.Attrs)))) (OkOps.q (triLen (enc:=Attr.cs) v.Attrs rfl rfl trivial rfl) (OkOps.y (aB (decide ((v.Attrs.length : Int) > 24))) (OkOps.y (aB (decide ((v.Attrs.length : Int) > 24))) (OkOps.q (triQG (x:=.c (.loc 1 3)) rfl rfl trivial rfl) (OkOps.q (triQG (x:=.c (.d (.sl (List.map Action.cs v.Actions)))) rfl rfl ⟨fun h=>h,trivial⟩ rfl) (OkOps.q (triLenG (enc:=Action.cs) v.Actions rfl rfl rfl ⟨fun h=>h,trivial⟩ rfl) (OkOps.q (triQG (x:=aB (decide ((v.Actions.length : Int) > 24))) rfl rfl ⟨fun h=>h,trivial⟩ rfl) ?_))))))))))
 refine OkOps.q (triOr rfl rfl (fun h=>by rw [h];rfl) rfl) ?_
 refine OkOps.y (aB ((decide ((v.Attrs.length : Int) > 24)) || (decide ((v.Actions.length : Int) > 24)))) (OkOps.q (triQG (x:=.c (.loc 1 4)) rfl rfl trivial rfl) (OkOps.q (triQG (x:=.c (.d (.sl (List.map View.cs v.Kids)))) rfl rfl ⟨fun h=>h,trivial⟩ rfl) (OkOps.q (triLenG (enc:=View.cs) v.Kids rfl rfl rfl ⟨fun h=>h,trivial⟩ rfl) (OkOps.q (triQG (x:=aB (decide ((v.Kids.length : Int) > 100))) rfl rfl ⟨fun h=>h,trivial⟩ rfl) ?_))))
 refine OkOps.q (triOr rfl rfl (fun h=>by rw [h];rfl) rfl) ?_
 refine OkOps.y (aB (((decide ((v.Attrs.length : Int) > 24)) || (decide ((v.Actions.length : Int) > 24))) || (decide ((v.Kids.length : Int) > 100)))) (OkOps.nil ?_)
 refine Ok.cond (b:=((decide ((v.Attrs.length : Int) > 24)) || (decide ((v.Actions.length : Int) > 24))) || (decide ((v.Kids.length : Int) > 100))) rfl (fun h6=>?_) (fun h6=>?_)
 have hr:=selT h6 hr
 refine Ok.seq (Ok.region (OkOps.y (aI 2) (OkOps.nil (Ok.ret ?_))))
 obtain rfl:=Option.some.inj hr
 exact ⟨_,rfl,.inl rfl,⟨rfl,trivial⟩⟩
 have hr:=selF h6 hr
 refine Ok.skip (Ok.seq (Ok.seq (Ok.region (OkOps.y (.c (.loc 1 2)) (OkOps.y (.c (.d (.sl (List.map Attr.cs v.Attrs)))) ?_)))))
 obtain ⟨x7,hx7,hr⟩:=bind_some hr
 refine OkOps.q (triCl (tau []) (.s (aI x7)) [] (vw_attributes_c _ hx7) rfl ⟨.inl rfl,trivial⟩ trivial entry123 trivial) (OkOps.y (aI x7) (OkOps.nil (Ok.seq (Ok.region (OkOps.y (aI x7) (OkOps.y (aB (x7 != 0)) (OkOps.nil ?_)))))))
 refine Ok.cond (b:=x7 != 0) rfl (fun h8=>?_) (fun h8=>?_)
 have hr:=selT h8 hr
 refine Ok.seq (Ok.region (OkOps.y (aI x7) (OkOps.y (aI x7) (OkOps.nil (Ok.ret ?_)))))
 obtain rfl:=Option.some.inj hr
 exact ⟨_,rfl,.inl rfl,⟨rfl,trivial⟩⟩
 have hr:=selF h8 hr
 refine Ok.skip (Ok.seq (Ok.seq (Ok.region (OkOps.y (.c (.loc 1 3)) (OkOps.y (.c (.d (.sl (List.map Action.cs v.Actions)))) ?_)))))
 obtain ⟨x9,hx9,hr⟩:=bind_some hr
 refine OkOps.q (triCl (tau []) (.s (aI x9)) [] (vw_actions_c _ hx9) rfl ⟨.inl rfl,trivial⟩ trivial entry124 trivial) (OkOps.y (aI x9) (OkOps.nil (Ok.seq (Ok.region (OkOps.y (aI x9) (OkOps.y (aB (x9 != 0)) (OkOps.nil ?_)))))))
 refine Ok.cond (b:=x9 != 0) rfl (fun h10=>?_) (fun h10=>?_)
 have hr:=selT h10 hr
 refine Ok.seq (Ok.region (OkOps.y (aI x9) (OkOps.y (aI x9) (OkOps.nil (Ok.ret ?_)))))
 obtain rfl:=Option.some.inj hr
 exact ⟨_,rfl,.inl rfl,⟨rfl,trivial⟩⟩
 have hr:=selF h10 hr
 refine Ok.skip (Ok.seq (Ok.region (OkOps.m 0 (triMkM (j:=2) false rfl rfl) (OkOps.y (.c (.own 2)) (OkOps.nil ?_)))))
 obtain ⟨k12,hk12,hr⟩:=jn_some hr
 refine Ok.join (fun (s11 : Unit)=>⟨[(1,.s (aI depth)),(2,.s (.c (.loc 0 0))),(3,.s (.c (.loc 1 0)))],[(0,.blk [cI (IntKind.i64.wrap (p_n + 1))] 3),(1,.blk [cI v.Kind,cS v.Key,.d (.sl (List.map Attr.cs v.Attrs)),.d (.sl (List.map Action.cs v.Actions)),.d (.sl (List.map View.cs v.Kids))] 29)],0⟩) k12 r (fun s11 hr=>?_) ?_
 rw [hk12] at hr
 obtain ⟨k14,hk14,hr⟩:=jn_some hr
 refine Ok.join (fun (s13 : Int)=>⟨[],[(0,.blk [cI s13] 3)],0⟩) k14 r (fun s13 hr=>?_) ?_
 rw [hk14] at hr
 refine Ok.seq (Ok.region (OkOps.y (aI 0) (OkOps.nil (Ok.ret ?_))))
 obtain rfl:=Option.some.inj hr
 exact ⟨_,rfl,.inl rfl,⟨rfl,trivial⟩⟩
 clear hk14
 refine Ok.seq (Ok.region (OkOps.y (.c (.loc 1 4)) (OkOps.y (.c (.d (.sl (List.map View.cs v.Kids)))) (OkOps.q (triLen (enc:=View.cs) v.Kids rfl rfl trivial rfl) (OkOps.y (aI 0) (OkOps.nil (Ok.block (Ok.loopK (fun (s15 : Int × Int)=>⟨[(1,.s (aI depth)),(2,.s (.c (.loc 0 0))),(93,.s (.c (.d (.sl (List.map View.cs v.Kids))))),(94,.s (aI (v.Kids.length : Int))),(95,.s (aI s15.1))],[(0,.blk [cI s15.2] 3)],0⟩) hr (Conv.mk (tau []) ⟨⟨_,rfl,.inl rfl⟩,⟨_,rfl,.inl rfl⟩,⟨_,rfl,.inl rfl⟩,⟨_,rfl,.inl rfl⟩,⟨_,rfl,.inl rfl⟩,trivial⟩ ⟨rfl,trivial⟩ rfl rfl rfl rfl) ?_))))))))
 clear hr
 intro again16 s15 hr
 unfold vw_validate_L1 at hr
 refine Ok.seq (Ok.region (OkOps.y (aB (decide (s15.1 < (v.Kids.length : Int)))) (OkOps.nil (Ok.seq ?_))))
 refine Ok.cond (b:=decide (s15.1 < (v.Kids.length : Int))) rfl (fun h17=>?_) (fun h17=>?_)
 have hr:=selT h17 hr
 refine Ok.skip (Ok.seq (Ok.block (Ok.seq (Ok.region ?_))))
 obtain ⟨x18,hx18,hr⟩:=bind_some hr
 refine OkOps.q (triIdx (enc:=View.cs) (L:=v.Kids) (row:=[dI x18.Kind,dS x18.Key,.sl (List.map Attr.cs x18.Attrs),.sl (List.map Action.cs x18.Actions),.sl (List.map View.cs x18.Kids)]) hx18 (View.cs_eq _) rfl rfl rfl (fun x=>by rw [View.cs_eq];rfl) trivial rfl) ?_
 refine OkOps.y (.agg [cI x18.Kind,cS x18.Key,.d (.sl (List.map Attr.cs x18.Attrs)),.d (.sl (List.map Action.cs x18.Actions)),.d (.sl (List.map View.cs x18.Kids))]) (OkOps.m 0 (triAlloc (j:=3) (cs:=[cI 0,cS ByteArray.empty,.d (.v (.slice none 0 0)),.d (.v (.slice none 0 0)),.d (.v (.slice none 0 0))]) rfl rfl rfl rfl) (OkOps.w (triStore (cs':=[cI x18.Kind,cS x18.Key,.d (.sl (List.map Attr.cs x18.Attrs)),.d (.sl (List.map Action.cs x18.Actions)),.d (.sl (List.map View.cs x18.Kids))]) rfl rfl rfl rfl rfl rfl rfl rfl rfl) (OkOps.nil (Ok.seq (Ok.region (OkOps.y (.agg [cI x18.Kind,cS x18.Key,.d (.sl (List.map Attr.cs x18.Attrs)),.d (.sl (List.map Action.cs x18.Actions)),.d (.sl (List.map View.cs x18.Kids))]) (OkOps.y (aI depth) (OkOps.y (aI (IntKind.i64.wrap (depth + 1))) (OkOps.y (.c (.loc 0 0)) ?_)))))))))
 obtain ⟨x19,hx19,hr⟩:=bind_some hr
 refine OkOps.m 0 (triCl (tau [(0,0)]) (.s (aI x19.1)) [(0,.blk [cI x19.2] 3)] (hself0 _ _ _ hx19) rfl ⟨.inl rfl,.inl rfl,.inl rfl,trivial⟩ trivial entry113 ⟨rfl,trivial⟩) (OkOps.y (aI x19.1) (OkOps.nil (Ok.seq (Ok.region (OkOps.y (aI x19.1) (OkOps.y (aB (x19.1 != 0)) (OkOps.nil ?_)))))))
 refine Ok.cond (b:=x19.1 != 0) rfl (fun h20=>?_) (fun h20=>?_)
 have hr:=selT h20 hr
 refine Ok.seq (Ok.region (OkOps.y (aI x19.1) (OkOps.y (aI x19.1) (OkOps.nil (Ok.ret ?_)))))
 obtain rfl:=Option.some.inj hr
 exact ⟨_,rfl,.inl rfl,⟨rfl,trivial⟩⟩
 have hr:=selF h20 hr
 refine Ok.skip (Ok.region (OkOps.y (aI (IntKind.i64.wrap (s15.1 + 1))) (OkOps.y (aI (IntKind.i64.wrap (s15.1 + 1))) (OkOps.nil ?_))))
 exact ⟨(IntKind.i64.wrap (s15.1 + 1),x19.2),hr,(Conv.mk (tau []) ⟨⟨_,rfl,.inl rfl⟩,⟨_,rfl,.inl rfl⟩,⟨_,rfl,.inl rfl⟩,⟨_,rfl,.inl rfl⟩,⟨_,rfl,.inl rfl⟩,trivial⟩ ⟨rfl,trivial⟩ rfl rfl rfl rfl)⟩
 have hr:=selF h17 hr
 refine Ok.exit ?_
 exact ⟨s15.2,hr,(Conv.mk (tau []) trivial ⟨rfl,trivial⟩ rfl rfl rfl rfl)⟩
 clear hk12
 refine Ok.seq (Ok.region (OkOps.y (.c (.loc 1 4)) (OkOps.y (.c (.d (.sl (List.map View.cs v.Kids)))) (OkOps.q (triLen (enc:=View.cs) v.Kids rfl rfl trivial rfl) (OkOps.y (aI 0) (OkOps.nil (Ok.block (Ok.loopK (fun (s21 : Int × (List (Str × Bool)))=>⟨[(1,.s (aI depth)),(2,.s (.c (.loc 0 0))),(3,.s (.c (.loc 1 0))),(9,.s (.c (.own 2))),(73,.s (.c (.d (.sl (List.map View.cs v.Kids))))),(74,.s (aI (v.Kids.length : Int))),(75,.s (aI s21.1))],[(0,.blk [cI (IntKind.i64.wrap (p_n + 1))] 3),(1,.blk [cI v.Kind,cS v.Key,.d (.sl (List.map Attr.cs v.Attrs)),.d (.sl (List.map Action.cs v.Actions)),.d (.sl (List.map View.cs v.Kids))] 29),(2,.mp false (encM kStr eBool s21.2))],0⟩) hr (Conv.mk (tau []) ⟨⟨_,rfl,.inl rfl⟩,⟨_,rfl,.inl rfl⟩,⟨_,rfl,.inl rfl⟩,⟨_,rfl,.inl rfl⟩,⟨_,rfl,.inl rfl⟩,⟨_,rfl,.inl rfl⟩,⟨_,rfl,.inl rfl⟩,trivial⟩ ⟨rfl,rfl,rfl,trivial⟩ rfl rfl rfl rfl) ?_))))))))
 clear hr
 intro again22 s21 hr
 unfold vw_validate_L2 at hr
 refine Ok.seq (Ok.region (OkOps.y (aB (decide (s21.1 < (v.Kids.length : Int)))) (OkOps.nil (Ok.seq ?_))))
 refine Ok.cond (b:=decide (s21.1 < (v.Kids.length : Int))) rfl (fun h23=>?_) (fun h23=>?_)
 have hr:=selT h23 hr
 refine Ok.skip (Ok.seq (Ok.block (Ok.seq (Ok.region ?_))))
 obtain ⟨x24,hx24,hr⟩:=bind_some hr
 refine OkOps.q (triIdx (enc:=View.cs) (L:=v.Kids) (row:=[dI x24.Kind,dS x24.Key,.sl (List.map Attr.cs x24.Attrs),.sl (List.map Action.cs x24.Actions),.sl (List.map View.cs x24.Kids)]) hx24 (View.cs_eq _) rfl rfl rfl (fun x=>by rw [View.cs_eq];rfl) trivial rfl) ?_
 refine OkOps.y (.agg [cI x24.Kind,cS x24.Key,.d (.sl (List.map Attr.cs x24.Attrs)),.d (.sl (List.map Action.cs x24.Actions)),.d (.sl (List.map View.cs x24.Kids))]) (OkOps.m 0 (triAlloc (j:=4) (cs:=[cI 0,cS ByteArray.empty,.d (.v (.slice none 0 0)),.d (.v (.slice none 0 0)),.d (.v (.slice none 0 0))]) rfl rfl rfl rfl) (OkOps.w (triStore (cs':=[cI x24.Kind,cS x24.Key,.d (.sl (List.map Attr.cs x24.Attrs)),.d (.sl (List.map Action.cs x24.Actions)),.d (.sl (List.map View.cs x24.Kids))]) rfl rfl rfl rfl rfl rfl rfl rfl rfl) (OkOps.nil (Ok.seq (Ok.seq (Ok.region (OkOps.y (.c (.loc 4 1)) (OkOps.y (aS x24.Key) (OkOps.y (aB (!(x24.Key.toList == (ByteArray.mk #[]).toList))) (OkOps.y (aB (!(x24.Key.toList == (ByteArray.mk #[]).toList))) (OkOps.q (triQG (x:=.c (.own 2)) rfl rfl trivial rfl) (OkOps.q (triQG (x:=.c (.loc 4 1)) rfl rfl trivial rfl) (OkOps.q (triQG (x:=aS x24.Key) rfl rfl ⟨fun h=>h,trivial⟩ rfl) ?_)))))))))))))
 obtain ⟨x25,hx25,hr⟩:=bind_some hr
 refine OkOps.q (triLookG (agg:=false) (ek:=kStr) (ev:=eBool) (L:=s21.2) (r:=aB x25.1) (gO_t hx25) rfl rfl rfl rfl (keyStr Tryd.underlying9) rfl rfl (fun _ _=>rfl) rfl ⟨fun h=>h,⟨fun h=>h,trivial⟩⟩ rfl) (OkOps.q (triAnd rfl rfl (fun h=>h) rfl) (OkOps.nil ?_))
 refine Ok.cond (b:=(!(x24.Key.toList == (ByteArray.mk #[]).toList)) && x25.1) rfl (fun h26=>?_) (fun h26=>?_)
 have hr:=selT h26 hr
 refine Ok.seq (Ok.region (OkOps.y (aI 6) (OkOps.nil (Ok.ret ?_))))
 obtain rfl:=Option.some.inj hr
 exact ⟨_,rfl,.inl rfl,⟨rfl,trivial⟩⟩
 have hr:=selF h26 hr
 refine Ok.skip (Ok.region (OkOps.y (.c (.own 2)) (OkOps.y (.c (.loc 4 1)) (OkOps.y (aS x24.Key) (OkOps.w (triMapUp (ek:=kStr) (ev:=eBool) (L:=s21.2) (z:=true) rfl rfl rfl rfl rfl rfl (keyStr Tryd.underlying9) (fun _ _=>rfl) rfl trivial) (OkOps.nil (Ok.region (OkOps.y (aI (IntKind.i64.wrap (s21.1 + 1))) (OkOps.y (aI (IntKind.i64.wrap (s21.1 + 1))) (OkOps.nil ?_))))))))))
 exact ⟨(IntKind.i64.wrap (s21.1 + 1),msetL s21.2 x24.Key true),hr,(Conv.mk (tau []) ⟨⟨_,rfl,.inl rfl⟩,⟨_,rfl,.inl rfl⟩,⟨_,rfl,.inl rfl⟩,⟨_,rfl,.inl rfl⟩,⟨_,rfl,.inl rfl⟩,⟨_,rfl,.inl rfl⟩,⟨_,rfl,.inl rfl⟩,trivial⟩ ⟨rfl,rfl,rfl,trivial⟩ rfl rfl rfl rfl)⟩
 have hr:=selF h23 hr
 refine Ok.exit ?_
 exact ⟨(),hr,(Conv.mk (tau []) ⟨⟨_,rfl,.inl rfl⟩,⟨_,rfl,.inl rfl⟩,⟨_,rfl,.inl rfl⟩,trivial⟩ ⟨rfl,rfl,trivial⟩ rfl rfl rfl rfl)⟩
theorem vw_validate_all : ∀ n : Nat,(∀ (v : View) (depth : Int) (p_n : Int) {r : Int × Int},vw_validate n v depth p_n = some r → Con Tryd.prog 113 [.agg [cI v.Kind,cS v.Key,.d (.sl (List.map Attr.cs v.Attrs)),.d (.sl (List.map Action.cs v.Actions)),.d (.sl (List.map View.cs v.Kids))],aI depth,.c (.loc 0 0)] [(0,.blk [cI p_n] 3)] (.s (aI r.1)) [(0,.blk [cI r.2] 3)]) ∧ True:=by
 intro n
 induction n with
 | zero=>exact ⟨(by intros;rename_i hr;cases hr),trivial⟩
 | succ n ih=>exact ⟨(by intros;rename_i hr;exact vw_validate_B_c _ ih.1 _ _ _ hr),trivial⟩
theorem vw_validate_c (n : Nat) (v : View) (depth : Int) (p_n : Int) {r : Int × Int} (hr : vw_validate n v depth p_n = some r) : Con Tryd.prog 113 [.agg [cI v.Kind,cS v.Key,.d (.sl (List.map Attr.cs v.Attrs)),.d (.sl (List.map Action.cs v.Actions)),.d (.sl (List.map View.cs v.Kids))],aI depth,.c (.loc 0 0)] [(0,.blk [cI p_n] 3)] (.s (aI r.1)) [(0,.blk [cI r.2] 3)]:=(vw_validate_all n).1 v depth p_n hr
theorem vw_Validate_c (v : View) {r : Int} (hr : vw_Validate v = some r) : Con Tryd.prog 103 [.agg [cI v.Kind,cS v.Key,.d (.sl (List.map Attr.cs v.Attrs)),.d (.sl (List.map Action.cs v.Actions)),.d (.sl (List.map View.cs v.Kids))]] [] (.s (aI r)) []:=by
 unfold vw_Validate at hr
 refine Con.of_ok 6 0 [.tmp 2] [(0,.s (.agg [cI v.Kind,cS v.Key,.d (.sl (List.map Attr.cs v.Attrs)),.d (.sl (List.map Action.cs v.Actions)),.d (.sl (List.map View.cs v.Kids))]))] Tryd.func103 rfl rfl rfl rfl rfl rfl rfl rfl fun w g M ρ _=>(Ok.seq (Ok.region (OkOps.m 0 (triBox (j:=0) (cs:=[cI v.Kind,cS v.Key,.d (.sl (List.map Attr.cs v.Attrs)),.d (.sl (List.map Action.cs v.Actions)),.d (.sl (List.map View.cs v.Kids))]) rfl rfl rfl rfl rfl) (OkOps.y (aI 0) (OkOps.nil (Ok.seq (Ok.region (OkOps.m 0 (triAlloc (j:=1) (cs:=[cI 0]) rfl rfl rfl rfl) (OkOps.w (triStore (cs':=[cI 0]) rfl rfl rfl rfl rfl rfl rfl rfl rfl) (OkOps.nil (Ok.seq (Ok.region (OkOps.y (.agg [cI v.Kind,cS v.Key,.d (.sl (List.map Attr.cs v.Attrs)),.d (.sl (List.map Action.cs v.Actions)),.d (.sl (List.map View.cs v.Kids))]) ?_)))))))))))))
 obtain ⟨x1,hx1,hr⟩:=bind_some hr
 refine OkOps.m 0 (triCl (tau [(0,1)]) (.s (aI x1.1)) [(1,.blk [cI x1.2] 3)] (vw_validate_c _ _ _ _ hx1) rfl ⟨.inl rfl,.inl rfl,.inl rfl,trivial⟩ trivial entry113 ⟨rfl,trivial⟩) (OkOps.y (aI x1.1) (OkOps.nil (Ok.ret ?_)))
 obtain rfl:=Option.some.inj hr
 exact ⟨_,rfl,.inl rfl,trivial⟩
theorem vw_value_B_c (self0 : AValue → Option AValue) (self1 : (List AValue) → Option (List AValue)) (_hself0 : ∀ (v : AValue) {r : AValue},self0 v = some r → Con Tryd.prog 88 [.agg [cI v.Kind,cI v.N,cS v.S,.d (.sl (List.map AValue.cs v.L))]] [] (.s (.agg [cI r.Kind,cI r.N,cS r.S,.d (.sl (List.map AValue.cs r.L))])) []) (hself1 : ∀ (l : (List AValue)) {r : (List AValue)},self1 l = some r → Con Tryd.prog 89 [.c (.d (.sl (List.map AValue.cs l)))] [] (.s (.c (.d (.sl (List.map AValue.cs r))))) []) (v : AValue) {r : AValue} (hr : vw_value_B self0 self1 v = some r) : Con Tryd.prog 88 [.agg [cI v.Kind,cI v.N,cS v.S,.d (.sl (List.map AValue.cs v.L))]] [] (.s (.agg [cI r.Kind,cI r.N,cS r.S,.d (.sl (List.map AValue.cs r.L))])) []:=by
 unfold vw_value_B at hr
 refine Con.of_ok 8 0 [.cell 2 62] [(0,.s (.agg [cI v.Kind,cI v.N,cS v.S,.d (.sl (List.map AValue.cs v.L))]))] Tryd.func88 rfl rfl rfl rfl rfl rfl rfl rfl fun w g M ρ _=>(Ok.seq (Ok.region (OkOps.m 0 (triBox (j:=0) (cs:=[cI v.Kind,cI v.N,cS v.S,.d (.sl (List.map AValue.cs v.L))]) rfl rfl rfl rfl rfl) (OkOps.m 0 (triAlloc (j:=1) (cs:=[cI 0,cI 0,cS ByteArray.empty,.d (.v (.slice none 0 0))]) rfl rfl rfl rfl) (OkOps.nil (Ok.seq (Ok.region (OkOps.y (.c (.loc 0 3)) (OkOps.y (.c (.d (.sl (List.map AValue.cs v.L)))) ?_)))))))))
 obtain ⟨x1,hx1,hr⟩:=bind_some hr
 refine OkOps.q (triCl (tau []) (.s (.c (.d (.sl (List.map AValue.cs x1))))) [] (hself1 _ hx1) rfl ⟨.inl rfl,trivial⟩ trivial entry89 trivial) (OkOps.y (.c (.loc 0 3)) (OkOps.w (triStore (cs':=[cI v.Kind,cI v.N,cS v.S,.d (.sl (List.map AValue.cs x1))]) rfl rfl rfl rfl rfl rfl rfl rfl rfl) (OkOps.nil (Ok.seq (Ok.region (OkOps.y (.agg [cI v.Kind,cI v.N,cS v.S,.d (.sl (List.map AValue.cs x1))]) (OkOps.w (triStore (cs':=[cI v.Kind,cI v.N,cS v.S,.d (.sl (List.map AValue.cs x1))]) rfl rfl rfl rfl rfl rfl rfl rfl rfl) (OkOps.nil (Ok.ret ?_)))))))))
 obtain rfl:=Option.some.inj hr
 exact ⟨_,rfl,.inl rfl,trivial⟩
theorem vw_values_B_c (self0 : AValue → Option AValue) (self1 : (List AValue) → Option (List AValue)) (hself0 : ∀ (v : AValue) {r : AValue},self0 v = some r → Con Tryd.prog 88 [.agg [cI v.Kind,cI v.N,cS v.S,.d (.sl (List.map AValue.cs v.L))]] [] (.s (.agg [cI r.Kind,cI r.N,cS r.S,.d (.sl (List.map AValue.cs r.L))])) []) (_hself1 : ∀ (l : (List AValue)) {r : (List AValue)},self1 l = some r → Con Tryd.prog 89 [.c (.d (.sl (List.map AValue.cs l)))] [] (.s (.c (.d (.sl (List.map AValue.cs r))))) []) (l : (List AValue)) {r : (List AValue)} (hr : vw_values_B self0 self1 l = some r) : Con Tryd.prog 89 [.c (.d (.sl (List.map AValue.cs l)))] [] (.s (.c (.d (.sl (List.map AValue.cs r))))) []:=by
 unfold vw_values_B at hr
 refine Con.of_ok 19 0 [.tmp 2] [(0,.s (.c (.d (.sl (List.map AValue.cs l)))))] Tryd.func89 rfl rfl rfl rfl rfl rfl rfl rfl fun w g M ρ _=>(Ok.seq (Ok.region (OkOps.y (.c (.d (.v (.slice none 0 0)))) (OkOps.nil (Ok.seq (Ok.region (OkOps.y (.c (.d (.v (.slice none 0 0)))) (OkOps.nil ?_))))))))
 obtain ⟨k2,hk2,hr⟩:=jn_some hr
 refine Ok.join (fun (s1 : (List AValue))=>⟨[(3,.s (.c (.tl 1004 (List.map AValue.cs s1))))],[(1004,.tail 4)],0⟩) k2 r (fun s1 hr=>?_) ?_
 rw [hk2] at hr
 refine Ok.seq (Ok.region (OkOps.y (.c (.tl 1004 (List.map AValue.cs s1))) (OkOps.y (.c (.tl 1004 (List.map AValue.cs s1))) (OkOps.nil (Ok.ret ?_)))))
 obtain rfl:=Option.some.inj hr
 exact ⟨_,rfl,.inr rfl,trivial⟩
 clear hk2
 refine Ok.seq (Ok.region (OkOps.y (.c (.d (.sl (List.map AValue.cs l)))) (OkOps.q (triLen (enc:=AValue.cs) l rfl rfl trivial rfl) (OkOps.y (aI 0) (OkOps.nil (Ok.block (Ok.loopK (fun (s3 : (List AValue) × Int)=>⟨[(3,.s (.c (.tl 1007 (List.map AValue.cs s3.1)))),(6,.s (.c (.d (.sl (List.map AValue.cs l))))),(7,.s (aI (l.length : Int))),(8,.s (aI s3.2))],[(1007,.tail 4)],0⟩) hr (Conv.trans (Conv.nil 3 1009 4 0 rfl rfl) (Conv.mk (tau [(1007,1009)]) ⟨⟨_,rfl,.inl rfl⟩,⟨_,rfl,.inl rfl⟩,⟨_,rfl,.inl rfl⟩,⟨_,rfl,.inl rfl⟩,trivial⟩ ⟨rfl,trivial⟩ rfl rfl rfl rfl)) ?_)))))))
 clear hr
 intro again4 s3 hr
 unfold vw_values_L1 at hr
 refine Ok.seq (Ok.region (OkOps.y (aB (decide (s3.2 < (l.length : Int)))) (OkOps.nil (Ok.seq ?_))))
 refine Ok.cond (b:=decide (s3.2 < (l.length : Int))) rfl (fun h5=>?_) (fun h5=>?_)
 have hr:=selT h5 hr
 refine Ok.skip (Ok.seq (Ok.block (Ok.seq (Ok.region ?_))))
 obtain ⟨x6,hx6,hr⟩:=bind_some hr
 refine OkOps.q (triIdx (enc:=AValue.cs) (L:=l) (row:=[dI x6.Kind,dI x6.N,dS x6.S,.sl (List.map AValue.cs x6.L)]) hx6 (AValue.cs_eq _) rfl rfl rfl (fun x=>by rw [AValue.cs_eq];rfl) trivial rfl) ?_
 refine OkOps.y (.agg [cI x6.Kind,cI x6.N,cS x6.S,.d (.sl (List.map AValue.cs x6.L))]) (OkOps.m 0 (triAlloc (j:=0) (cs:=[cI 0,cI 0,cS ByteArray.empty,.d (.v (.slice none 0 0))]) rfl rfl rfl rfl) (OkOps.w (triStore (cs':=[cI x6.Kind,cI x6.N,cS x6.S,.d (.sl (List.map AValue.cs x6.L))]) rfl rfl rfl rfl rfl rfl rfl rfl rfl) (OkOps.nil (Ok.region (OkOps.y (.c (.tl 1007 (List.map AValue.cs s3.1))) (OkOps.y (.agg [cI x6.Kind,cI x6.N,cS x6.S,.d (.sl (List.map AValue.cs x6.L))]) ?_))))))
 obtain ⟨x7,hx7,hr⟩:=bind_some hr
 refine OkOps.q (triCl (tau []) (.s (.agg [cI x7.Kind,cI x7.N,cS x7.S,.d (.sl (List.map AValue.cs x7.L))])) [] (hself0 _ hx7) rfl ⟨.inl rfl,trivial⟩ trivial entry88 trivial) ?_
 refine OkOps.m 0 (triBST (sz:=4) (enc:=AValue.cs) (j:=1) ([x7]) rfl rfl rfl rfl rfl (rows:=[[dI x7.Kind,dI x7.N,dS x7.S,.sl (List.map AValue.cs x7.L)]]) (by simp only [List.map,AValue.cs_eq]) rfl rfl (fun x=>by rw [AValue.cs_eq];rfl) trivial rfl rfl) ?_
 obtain ⟨x8,hx8,hr⟩:=bind_some hr
 refine OkOps.m2 0 (triApp (enc:=AValue.cs) (L:=s3.1) (X:=[x7]) (j:=1007) (j':=2) hx8 rfl rfl rfl rfl rfl rfl (fun x=>by rw [AValue.cs_eq];rfl) (fun x=>by rw [AValue.cs_eq];rfl) (by decide) trivial rfl rfl) ?_
 refine OkOps.y (.c (.tl 2 (List.map AValue.cs x8))) (OkOps.nil (Ok.region (OkOps.y (aI (IntKind.i64.wrap (s3.2 + 1))) (OkOps.y (aI (IntKind.i64.wrap (s3.2 + 1))) (OkOps.nil ?_)))))
 exact ⟨(x8,IntKind.i64.wrap (s3.2 + 1)),hr,(Conv.mk (tau [(1007,2)]) ⟨⟨_,rfl,.inl rfl⟩,⟨_,rfl,.inl rfl⟩,⟨_,rfl,.inl rfl⟩,⟨_,rfl,.inl rfl⟩,trivial⟩ ⟨rfl,trivial⟩ rfl rfl rfl rfl)⟩
 have hr:=selF h5 hr
 refine Ok.exit ?_
 exact ⟨s3.1,hr,(Conv.mk (tau [(1004,1007)]) ⟨⟨_,rfl,.inl rfl⟩,trivial⟩ ⟨rfl,trivial⟩ rfl rfl rfl rfl)⟩
theorem vw_value_all : ∀ n : Nat,(∀ (v : AValue) {r : AValue},vw_value n v = some r → Con Tryd.prog 88 [.agg [cI v.Kind,cI v.N,cS v.S,.d (.sl (List.map AValue.cs v.L))]] [] (.s (.agg [cI r.Kind,cI r.N,cS r.S,.d (.sl (List.map AValue.cs r.L))])) []) ∧ (∀ (l : (List AValue)) {r : (List AValue)},vw_values n l = some r → Con Tryd.prog 89 [.c (.d (.sl (List.map AValue.cs l)))] [] (.s (.c (.d (.sl (List.map AValue.cs r))))) []) ∧ True:=by
 intro n
 induction n with
 | zero=>exact ⟨(by intros;rename_i hr;cases hr),(by intros;rename_i hr;cases hr),trivial⟩
 | succ n ih=>exact ⟨(by intros;rename_i hr;exact vw_value_B_c _ _ ih.1 ih.2.1 _ hr),(by intros;rename_i hr;exact vw_values_B_c _ _ ih.1 ih.2.1 _ hr),trivial⟩
theorem vw_value_c (n : Nat) (v : AValue) {r : AValue} (hr : vw_value n v = some r) : Con Tryd.prog 88 [.agg [cI v.Kind,cI v.N,cS v.S,.d (.sl (List.map AValue.cs v.L))]] [] (.s (.agg [cI r.Kind,cI r.N,cS r.S,.d (.sl (List.map AValue.cs r.L))])) []:=(vw_value_all n).1 v hr
theorem vw_preorder_B_c (self0 : (List (Int × Node)) → Int → Option (List Int)) (hself0 : ∀ (nodes : (List (Int × Node))) (id : Int) {r : (List Int)},self0 nodes id = some r → Con Tryd.prog 94 [.c (.d (.mp true (encM (kInt .i64) Node.cs nodes))),aI id] [] (.s (.c (.d (.sl (List.map (eInt .i64) r))))) []) (nodes : (List (Int × Node))) (id : Int) {r : (List Int)} (hr : vw_preorder_B self0 nodes id = some r) : Con Tryd.prog 94 [.c (.d (.mp true (encM (kInt .i64) Node.cs nodes))),aI id] [] (.s (.c (.d (.sl (List.map (eInt .i64) r))))) []:=by
 unfold vw_preorder_B at hr
 refine Con.of_ok 26 0 [.tmp 4] [(0,.s (.c (.d (.mp true (encM (kInt .i64) Node.cs nodes))))),(1,.s (aI id))] Tryd.func94 rfl rfl rfl rfl rfl rfl rfl rfl fun w g M ρ _=>(Ok.seq (Ok.region (OkOps.y (.c (.d (.v (.slice none 0 0)))) (OkOps.nil (Ok.seq (Ok.region (OkOps.y (aI id) (OkOps.m 0 (triBST (sz:=1) (enc:=(eInt .i64)) (j:=0) ([id]) rfl rfl rfl rfl rfl rfl rfl rfl (fun _=>rfl) trivial rfl rfl) (OkOps.y (.c (.tl 0 (List.map (eInt .i64) ([id])))) (OkOps.nil ?_))))))))))
 obtain ⟨k2,hk2,hr⟩:=jn_some hr
 refine Ok.join (fun (s1 : (List Int))=>⟨[(5,.s (.c (.tl 1003 (List.map (eInt .i64) s1))))],[(1003,.tail 1)],0⟩) k2 r (fun s1 hr=>?_) ?_
 rw [hk2] at hr
 refine Ok.seq (Ok.region (OkOps.y (.c (.tl 1003 (List.map (eInt .i64) s1))) (OkOps.y (.c (.tl 1003 (List.map (eInt .i64) s1))) (OkOps.nil (Ok.ret ?_)))))
 obtain rfl:=Option.some.inj hr
 exact ⟨_,rfl,.inr rfl,trivial⟩
 clear hk2
 refine Ok.seq (Ok.region (OkOps.y (.c (.d (.mp true (encM (kInt .i64) Node.cs nodes)))) (OkOps.y (aI id) ?_)))
 obtain ⟨x3,hx3,hr⟩:=bind_some hr
 refine OkOps.q (triLook (agg:=true) (ek:=(kInt .i64)) (ev:=Node.cs) (L:=nodes) (r:=.agg [cI x3.1.ID,cI x3.1.Parent,cI x3.1.Kind,cS x3.1.Key,.d (.sl (List.map Attr.cs x3.1.Attrs)),.d (.sl (List.map Action.cs x3.1.Actions)),.d (.sl (List.map (eInt .i64) x3.1.Kids))]) hx3 rfl rfl rfl (keyInt Tryd.underlying3) rfl rfl (fun h=>by cases h) rfl trivial rfl) ?_
 refine OkOps.y (.c (.d (.sl (List.map (eInt .i64) x3.1.Kids)))) (OkOps.q (triLen (enc:=(eInt .i64)) x3.1.Kids rfl rfl trivial rfl) (OkOps.y (aI 0) (OkOps.nil (Ok.block (Ok.loopK (fun (s4 : (List Int) × Int)=>⟨[(0,.s (.c (.d (.mp true (encM (kInt .i64) Node.cs nodes))))),(5,.s (.c (.tl 1005 (List.map (eInt .i64) s4.1)))),(13,.s (.c (.d (.sl (List.map (eInt .i64) x3.1.Kids))))),(14,.s (aI (x3.1.Kids.length : Int))),(15,.s (aI s4.2))],[(1005,.tail 1)],0⟩) hr (Conv.mk (tau [(1005,0)]) ⟨⟨_,rfl,.inl rfl⟩,⟨_,rfl,.inl rfl⟩,⟨_,rfl,.inl rfl⟩,⟨_,rfl,.inl rfl⟩,⟨_,rfl,.inl rfl⟩,trivial⟩ ⟨rfl,trivial⟩ rfl rfl rfl rfl) ?_)))))
 clear hr
 intro again5 s4 hr
 unfold vw_preorder_L1 at hr
 refine Ok.seq (Ok.region (OkOps.y (aB (decide (s4.2 < (x3.1.Kids.length : Int)))) (OkOps.nil (Ok.seq ?_))))
 refine Ok.cond (b:=decide (s4.2 < (x3.1.Kids.length : Int))) rfl (fun h6=>?_) (fun h6=>?_)
 have hr:=selT h6 hr
 refine Ok.skip (Ok.seq (Ok.block (Ok.seq (Ok.region ?_))))
 obtain ⟨x7,hx7,hr⟩:=bind_some hr
 refine OkOps.q (triIdx (enc:=(eInt .i64)) (L:=x3.1.Kids) (row:=[dI x7]) hx7 rfl rfl rfl rfl (fun _=>rfl) trivial rfl) (OkOps.y (aI x7) (OkOps.y (aI x7) (OkOps.nil (Ok.region (OkOps.y (.c (.tl 1005 (List.map (eInt .i64) s4.1))) (OkOps.y (.c (.d (.mp true (encM (kInt .i64) Node.cs nodes)))) (OkOps.y (aI x7) ?_)))))))
 obtain ⟨x8,hx8,hr⟩:=bind_some hr
 refine OkOps.q (triCl (tau []) (.s (.c (.d (.sl (List.map (eInt .i64) x8))))) [] (hself0 _ _ hx8) rfl ⟨.inl rfl,.inl rfl,trivial⟩ trivial entry94 trivial) ?_
 obtain ⟨x9,hx9,hr⟩:=bind_some hr
 refine OkOps.m2 0 (triApp (enc:=(eInt .i64)) (L:=s4.1) (X:=x8) (j:=1005) (j':=1) hx9 rfl rfl rfl rfl rfl rfl (fun _=>rfl) (fun _=>rfl) (by decide) trivial rfl rfl) (OkOps.y (.c (.tl 1 (List.map (eInt .i64) x9))) (OkOps.nil (Ok.region (OkOps.y (aI (IntKind.i64.wrap (s4.2 + 1))) (OkOps.y (aI (IntKind.i64.wrap (s4.2 + 1))) (OkOps.nil ?_))))))
 exact ⟨(x9,IntKind.i64.wrap (s4.2 + 1)),hr,(Conv.mk (tau [(1005,1)]) ⟨⟨_,rfl,.inl rfl⟩,⟨_,rfl,.inl rfl⟩,⟨_,rfl,.inl rfl⟩,⟨_,rfl,.inl rfl⟩,⟨_,rfl,.inl rfl⟩,trivial⟩ ⟨rfl,trivial⟩ rfl rfl rfl rfl)⟩
 have hr:=selF h6 hr
 refine Ok.exit ?_
 exact ⟨s4.1,hr,(Conv.mk (tau [(1003,1005)]) ⟨⟨_,rfl,.inl rfl⟩,trivial⟩ ⟨rfl,trivial⟩ rfl rfl rfl rfl)⟩
theorem vw_preorder_all : ∀ n : Nat,(∀ (nodes : (List (Int × Node))) (id : Int) {r : (List Int)},vw_preorder n nodes id = some r → Con Tryd.prog 94 [.c (.d (.mp true (encM (kInt .i64) Node.cs nodes))),aI id] [] (.s (.c (.d (.sl (List.map (eInt .i64) r))))) []) ∧ True:=by
 intro n
 induction n with
 | zero=>exact ⟨(by intros;rename_i hr;cases hr),trivial⟩
 | succ n ih=>exact ⟨(by intros;rename_i hr;exact vw_preorder_B_c _ ih.1 _ _ hr),trivial⟩
theorem vw_preorder_c (n : Nat) (nodes : (List (Int × Node))) (id : Int) {r : (List Int)} (hr : vw_preorder n nodes id = some r) : Con Tryd.prog 94 [.c (.d (.mp true (encM (kInt .i64) Node.cs nodes))),aI id] [] (.s (.c (.d (.sl (List.map (eInt .i64) r))))) []:=(vw_preorder_all n).1 nodes id hr
theorem vw_graph_c (t : Tree) {r : (List (Int × Node)) × Bool} (hr : vw_graph t = some r) : Con Tryd.prog 101 [.agg [cI t.Root,cI t.Next,.d (.sl (List.map Node.cs t.Nodes))]] [] (.tup [.c (.d (.mp true (encM (kInt .i64) Node.cs r.1))),aB r.2]) []:=by
 unfold vw_graph at hr
 refine Con.of_ok 139 0 [.tmp 2,.tmp 3] [(0,.s (.agg [cI t.Root,cI t.Next,.d (.sl (List.map Node.cs t.Nodes))]))] Tryd.func101 rfl rfl rfl rfl rfl rfl rfl rfl fun w g M ρ _=>(Ok.seq (Ok.region (OkOps.m 0 (triBox (j:=0) (cs:=[cI t.Root,cI t.Next,.d (.sl (List.map Node.cs t.Nodes))]) rfl rfl rfl rfl rfl) (OkOps.y (.c (.d (.v (.map none)))) (OkOps.y (aB false) (OkOps.nil (Ok.seq (Ok.seq (Ok.region (OkOps.y (.c (.loc 0 1)) (OkOps.y (aI t.Next) (OkOps.y (aB (decide (t.Next < 2))) (OkOps.y (aB (decide (t.Next < 2))) (OkOps.q (triQG (x:=.c (.loc 0 1)) rfl rfl trivial rfl) (OkOps.q (triQG (x:=aI t.Next) rfl rfl ⟨fun h=>h,trivial⟩ rfl) ?_)))))))))))))))
 refine OkOps.q (triQG (x:=aB (decide (t.Next > 1099511627776))) rfl rfl ⟨fun h=>h,trivial⟩ rfl) ?_
 refine OkOps.q (triOr rfl rfl (fun h=>by rw [h];rfl) rfl) ?_
 refine OkOps.y (aB ((decide (t.Next < 2)) || (decide (t.Next > 1099511627776)))) (OkOps.q (triQG (x:=.c (.loc 0 2)) rfl rfl trivial rfl) (OkOps.q (triQG (x:=.c (.d (.sl (List.map Node.cs t.Nodes)))) rfl rfl ⟨fun h=>h,trivial⟩ rfl) (OkOps.q (triLenG (enc:=Node.cs) t.Nodes rfl rfl rfl ⟨fun h=>h,trivial⟩ rfl) (OkOps.q (triQG (x:=aB (decide ((t.Nodes.length : Int) < 1))) rfl rfl ⟨fun h=>h,trivial⟩ rfl) ?_))))
 refine OkOps.q (triOr rfl rfl (fun h=>by rw [h];rfl) rfl) ?_
 refine OkOps.y (aB (((decide (t.Next < 2)) || (decide (t.Next > 1099511627776))) || (decide ((t.Nodes.length : Int) < 1)))) (OkOps.q (triQG (x:=.c (.loc 0 2)) rfl rfl trivial rfl) (OkOps.q (triQG (x:=.c (.d (.sl (List.map Node.cs t.Nodes)))) rfl rfl ⟨fun h=>h,trivial⟩ rfl) (OkOps.q (triLenG (enc:=Node.cs) t.Nodes rfl rfl rfl ⟨fun h=>h,trivial⟩ rfl) (OkOps.q (triQG (x:=aB (decide ((t.Nodes.length : Int) > 400))) rfl rfl ⟨fun h=>h,trivial⟩ rfl) ?_))))
 refine OkOps.q (triOr rfl rfl (fun h=>by rw [h];rfl) rfl) ?_
 refine OkOps.nil ?_
 refine Ok.cond (b:=(((decide (t.Next < 2)) || (decide (t.Next > 1099511627776))) || (decide ((t.Nodes.length : Int) < 1))) || (decide ((t.Nodes.length : Int) > 400))) rfl (fun h1=>?_) (fun h1=>?_)
 have hr:=selT h1 hr
 refine Ok.seq (Ok.region (OkOps.y (.c (.d (.v (.map none)))) (OkOps.y (aB false) (OkOps.nil (Ok.conv (Conv.nilM 2 true rfl) (Ok.ret ?_))))))
 obtain rfl:=Option.some.inj hr
 exact ⟨_,rfl,.inl rfl,trivial⟩
 have hr:=selF h1 hr
 refine Ok.skip (Ok.seq (Ok.region (OkOps.m 0 (triMkM (j:=1) true rfl rfl) (OkOps.y (.c (.own 1)) (OkOps.nil (Ok.seq (Ok.region (OkOps.y (aI 0) (OkOps.nil ?_)))))))))
 obtain ⟨k3,hk3,hr⟩:=jn_some hr
 refine Ok.join (fun (s2 : (List (Int × Node)))=>⟨[(1,.s (.c (.loc 0 0))),(4,.s (.c (.own 1)))],[(0,.blk [cI t.Root,cI t.Next,.d (.sl (List.map Node.cs t.Nodes))] 46),(1,.mp true (encM (kInt .i64) Node.cs s2))],0⟩) k3 r (fun s2 hr=>?_) ?_
 rw [hk3] at hr
 refine Ok.seq (Ok.seq (Ok.region (OkOps.y (.c (.own 1)) (OkOps.y (.c (.loc 0 0)) (OkOps.y (aI t.Root) ?_)))))
 obtain ⟨x4,hx4,hr⟩:=bind_some hr
 refine OkOps.q (triLookT (agg:=true) (ek:=(kInt .i64)) (ev:=Node.cs) (L:=s2) (r:=.agg [cI x4.1.ID,cI x4.1.Parent,cI x4.1.Kind,cS x4.1.Key,.d (.sl (List.map Attr.cs x4.1.Attrs)),.d (.sl (List.map Action.cs x4.1.Actions)),.d (.sl (List.map (eInt .i64) x4.1.Kids))]) hx4 rfl rfl rfl (keyInt Tryd.underlying3) rfl rfl (fun h=>by cases h) rfl trivial rfl) ?_
 refine OkOps.q (triMv (v:=.tup [.agg [cI x4.1.ID,cI x4.1.Parent,cI x4.1.Kind,cS x4.1.Key,.d (.sl (List.map Attr.cs x4.1.Attrs)),.d (.sl (List.map Action.cs x4.1.Actions)),.d (.sl (List.map (eInt .i64) x4.1.Kids))],aB x4.2]) rfl rfl) (OkOps.y (.agg [cI x4.1.ID,cI x4.1.Parent,cI x4.1.Kind,cS x4.1.Key,.d (.sl (List.map Attr.cs x4.1.Attrs)),.d (.sl (List.map Action.cs x4.1.Actions)),.d (.sl (List.map (eInt .i64) x4.1.Kids))]) (OkOps.y (aB x4.2) (OkOps.m 0 (triAlloc (j:=2) (cs:=[cI 0,cI 0,cI 0,cS ByteArray.empty,.d (.v (.slice none 0 0)),.d (.v (.slice none 0 0)),.d (.v (.slice none 0 0))]) rfl rfl rfl rfl) (OkOps.w (triStore (cs':=[cI x4.1.ID,cI x4.1.Parent,cI x4.1.Kind,cS x4.1.Key,.d (.sl (List.map Attr.cs x4.1.Attrs)),.d (.sl (List.map Action.cs x4.1.Actions)),.d (.sl (List.map (eInt .i64) x4.1.Kids))]) rfl rfl rfl rfl rfl rfl rfl rfl rfl) (OkOps.y (aB x4.2) (OkOps.nil (Ok.seq (Ok.region (OkOps.y (aB x4.2) (OkOps.y (aB (!x4.2)) (OkOps.nil ?_)))))))))))
 refine Ok.cond (b:=!x4.2) rfl (fun h5=>?_) (fun h5=>?_)
 have hr:=selT h5 hr
 refine Ok.seq (Ok.region (OkOps.y (.c (.d (.v (.map none)))) (OkOps.y (aB false) (OkOps.nil (Ok.conv (Conv.nilM 2 true rfl) (Ok.ret ?_))))))
 obtain rfl:=Option.some.inj hr
 exact ⟨_,rfl,.inl rfl,trivial⟩
 have hr:=selF h5 hr
 refine Ok.skip (Ok.seq (Ok.region (OkOps.m 0 (triMkM (j:=3) false rfl rfl) (OkOps.y (.c (.loc 0 0)) (OkOps.y (aI t.Root) (OkOps.w (triMapIns (ek:=(kInt .i64)) (ev:=eBool) (L:=([] : (List (Int × Bool)))) (z:=true) rfl rfl rfl rfl rfl rfl (keyInt Tryd.underlying3) (fun _ _=>rfl) rfl trivial) (OkOps.y (.c (.own 3)) (OkOps.y (.c (.own 3)) (OkOps.nil ?_)))))))))
 obtain ⟨k7,hk7,hr⟩:=jn_some hr
 refine Ok.join (fun (s6 : (List (Int × Bool)))=>⟨[(1,.s (.c (.loc 0 0))),(4,.s (.c (.own 1))),(10,.s (.c (.own 3)))],[(0,.blk [cI t.Root,cI t.Next,.d (.sl (List.map Node.cs t.Nodes))] 46),(1,.mp true (encM (kInt .i64) Node.cs s2)),(3,.mp false (encM (kInt .i64) eBool s6))],0⟩) k7 r (fun s6 hr=>?_) ?_
 rw [hk7] at hr
 refine Ok.seq (Ok.seq (Ok.region (OkOps.y (.c (.own 3)) (OkOps.q (triLenM (ek:=(kInt .i64)) (ev:=eBool) s6 rfl rfl trivial rfl) (OkOps.y (.c (.own 1)) (OkOps.q (triLenM (ek:=(kInt .i64)) (ev:=Node.cs) s2 rfl rfl trivial rfl) (OkOps.y (aB ((s6.length : Int) != (s2.length : Int))) (OkOps.nil ?_))))))))
 refine Ok.cond (b:=(s6.length : Int) != (s2.length : Int)) rfl (fun h8=>?_) (fun h8=>?_)
 have hr:=selT h8 hr
 refine Ok.seq (Ok.region (OkOps.y (.c (.d (.v (.map none)))) (OkOps.y (aB false) (OkOps.nil (Ok.conv (Conv.nilM 2 true rfl) (Ok.ret ?_))))))
 obtain rfl:=Option.some.inj hr
 exact ⟨_,rfl,.inl rfl,trivial⟩
 have hr:=selF h8 hr
 refine Ok.skip (Ok.seq (Ok.region (OkOps.y (.c (.own 1)) (OkOps.y (.c (.own 1)) (OkOps.y (.c (.loc 0 0)) (OkOps.y (aI t.Root) (OkOps.conv (Conv.freezeM [(4,.s (.c (.d (.mp true (encM (kInt .i64) Node.cs s2))))),(127,.s (.c (.d (.mp true (encM (kInt .i64) Node.cs s2))))),(130,.s (.c (.d (.mp true (encM (kInt .i64) Node.cs s2))))),(131,.s (.c (.d (.mp true (encM (kInt .i64) Node.cs s2)))))] [] 1 0 rfl ⟨⟨_,rfl,rfl⟩,⟨_,rfl,rfl⟩,⟨_,rfl,rfl⟩,⟨_,rfl,rfl⟩,trivial⟩ trivial) ?_)))))))
 obtain ⟨x9,hx9,hr⟩:=bind_some hr
 refine OkOps.q (triCl (tau []) (.s (.c (.d (.sl (List.map (eInt .i64) x9))))) [] (vw_preorder_c _ _ _ hx9) rfl ⟨.inl rfl,.inl rfl,trivial⟩ trivial entry94 trivial) (OkOps.q (triLen (enc:=(eInt .i64)) x9 rfl rfl trivial rfl) (OkOps.y (.c (.d (.mp true (encM (kInt .i64) Node.cs s2)))) (OkOps.q (triLenM (ek:=(kInt .i64)) (ev:=Node.cs) s2 rfl rfl trivial rfl) (OkOps.y (aB ((x9.length : Int) == (s2.length : Int))) (OkOps.y (.c (.d (.mp true (encM (kInt .i64) Node.cs s2)))) (OkOps.y (aB ((x9.length : Int) == (s2.length : Int))) (OkOps.nil (Ok.ret ?_))))))))
 obtain rfl:=Option.some.inj hr
 exact ⟨_,rfl,.inl rfl,trivial⟩
 clear hk7
 refine Ok.seq (Ok.region (OkOps.y (.c (.loc 0 2)) (OkOps.y (.c (.d (.sl (List.map Node.cs t.Nodes)))) (OkOps.q (triLen (enc:=Node.cs) t.Nodes rfl rfl trivial rfl) (OkOps.y (aI 0) (OkOps.nil (Ok.block (Ok.loopK (fun (s10 : Int × (List (Int × Bool)))=>⟨[(1,.s (.c (.loc 0 0))),(4,.s (.c (.own 1))),(10,.s (.c (.own 3))),(88,.s (.c (.d (.sl (List.map Node.cs t.Nodes))))),(89,.s (aI (t.Nodes.length : Int))),(90,.s (aI s10.1))],[(0,.blk [cI t.Root,cI t.Next,.d (.sl (List.map Node.cs t.Nodes))] 46),(1,.mp true (encM (kInt .i64) Node.cs s2)),(3,.mp false (encM (kInt .i64) eBool s10.2))],0⟩) hr (Conv.mk (tau []) ⟨⟨_,rfl,.inl rfl⟩,⟨_,rfl,.inl rfl⟩,⟨_,rfl,.inl rfl⟩,⟨_,rfl,.inl rfl⟩,⟨_,rfl,.inl rfl⟩,⟨_,rfl,.inl rfl⟩,trivial⟩ ⟨rfl,rfl,rfl,trivial⟩ rfl rfl rfl rfl) ?_))))))))
 clear hr
 intro again11 s10 hr
 unfold vw_graph_L2 at hr
 refine Ok.seq (Ok.region (OkOps.y (aB (decide (s10.1 < (t.Nodes.length : Int)))) (OkOps.nil (Ok.seq ?_))))
 refine Ok.cond (b:=decide (s10.1 < (t.Nodes.length : Int))) rfl (fun h12=>?_) (fun h12=>?_)
 have hr:=selT h12 hr
 refine Ok.skip ?_
 obtain ⟨k14,hk14,hr⟩:=jn_some hr
 refine Ok.join (fun (s13 : (List (Int × Bool)))=>⟨[(1,.s (.c (.loc 0 0))),(4,.s (.c (.own 1))),(10,.s (.c (.own 3))),(88,.s (.c (.d (.sl (List.map Node.cs t.Nodes))))),(89,.s (aI (t.Nodes.length : Int))),(90,.s (aI s10.1))],[(0,.blk [cI t.Root,cI t.Next,.d (.sl (List.map Node.cs t.Nodes))] 46),(1,.mp true (encM (kInt .i64) Node.cs s2)),(3,.mp false (encM (kInt .i64) eBool s13))],0⟩) k14 r (fun s13 hr=>?_) ?_
 rw [hk14] at hr
 refine Ok.region (OkOps.y (aI (IntKind.i64.wrap (s10.1 + 1))) (OkOps.y (aI (IntKind.i64.wrap (s10.1 + 1))) (OkOps.nil ?_)))
 exact ⟨(IntKind.i64.wrap (s10.1 + 1),s13),hr,(Conv.mk (tau []) ⟨⟨_,rfl,.inl rfl⟩,⟨_,rfl,.inl rfl⟩,⟨_,rfl,.inl rfl⟩,⟨_,rfl,.inl rfl⟩,⟨_,rfl,.inl rfl⟩,⟨_,rfl,.inl rfl⟩,trivial⟩ ⟨rfl,rfl,rfl,trivial⟩ rfl rfl rfl rfl)⟩
 clear hk14
 refine Ok.block (Ok.seq (Ok.region ?_))
 obtain ⟨x15,hx15,hr⟩:=bind_some hr
 refine OkOps.q (triIdx (enc:=Node.cs) (L:=t.Nodes) (row:=[dI x15.ID,dI x15.Parent,dI x15.Kind,dS x15.Key,.sl (List.map Attr.cs x15.Attrs),.sl (List.map Action.cs x15.Actions),.sl (List.map (eInt .i64) x15.Kids)]) hx15 rfl rfl rfl rfl (fun _=>rfl) trivial rfl) (OkOps.y (.agg [cI x15.ID,cI x15.Parent,cI x15.Kind,cS x15.Key,.d (.sl (List.map Attr.cs x15.Attrs)),.d (.sl (List.map Action.cs x15.Actions)),.d (.sl (List.map (eInt .i64) x15.Kids))]) (OkOps.m 0 (triAlloc (j:=4) (cs:=[cI 0,cI 0,cI 0,cS ByteArray.empty,.d (.v (.slice none 0 0)),.d (.v (.slice none 0 0)),.d (.v (.slice none 0 0))]) rfl rfl rfl rfl) (OkOps.w (triStore (cs':=[cI x15.ID,cI x15.Parent,cI x15.Kind,cS x15.Key,.d (.sl (List.map Attr.cs x15.Attrs)),.d (.sl (List.map Action.cs x15.Actions)),.d (.sl (List.map (eInt .i64) x15.Kids))]) rfl rfl rfl rfl rfl rfl rfl rfl rfl) (OkOps.nil (Ok.seq (Ok.region (OkOps.y (.c (.loc 4 6)) (OkOps.y (.c (.d (.sl (List.map (eInt .i64) x15.Kids)))) (OkOps.q (triLen (enc:=(eInt .i64)) x15.Kids rfl rfl trivial rfl) (OkOps.y (aI 0) (OkOps.nil ?_)))))))))))
 obtain ⟨k17,hk17,hr⟩:=jn_some hr
 refine Ok.joinEnd (fun (s16 : (List (Int × Bool)))=>⟨[(1,.s (.c (.loc 0 0))),(4,.s (.c (.own 1))),(10,.s (.c (.own 3))),(88,.s (.c (.d (.sl (List.map Node.cs t.Nodes))))),(89,.s (aI (t.Nodes.length : Int))),(90,.s (aI s10.1))],[(0,.blk [cI t.Root,cI t.Next,.d (.sl (List.map Node.cs t.Nodes))] 46),(1,.mp true (encM (kInt .i64) Node.cs s2)),(3,.mp false (encM (kInt .i64) eBool s16))],0⟩) k17 r (fun s16 hr=>?_) ?_
 rw [hk17] at hr
 exact ⟨s16,hr,(Conv.mk (tau []) ⟨⟨_,rfl,.inl rfl⟩,⟨_,rfl,.inl rfl⟩,⟨_,rfl,.inl rfl⟩,⟨_,rfl,.inl rfl⟩,⟨_,rfl,.inl rfl⟩,⟨_,rfl,.inl rfl⟩,trivial⟩ ⟨rfl,rfl,rfl,trivial⟩ rfl rfl rfl rfl)⟩
 clear hk17
 refine Ok.block (Ok.loopK (fun (s18 : Int × (List (Int × Bool)))=>⟨[(1,.s (.c (.loc 0 0))),(4,.s (.c (.own 1))),(10,.s (.c (.own 3))),(12,.s (.c (.loc 4 0))),(88,.s (.c (.d (.sl (List.map Node.cs t.Nodes))))),(89,.s (aI (t.Nodes.length : Int))),(90,.s (aI s10.1)),(95,.s (.c (.d (.sl (List.map (eInt .i64) x15.Kids))))),(96,.s (aI (x15.Kids.length : Int))),(97,.s (aI s18.1))],[(0,.blk [cI t.Root,cI t.Next,.d (.sl (List.map Node.cs t.Nodes))] 46),(1,.mp true (encM (kInt .i64) Node.cs s2)),(3,.mp false (encM (kInt .i64) eBool s18.2)),(4,.blk [cI x15.ID,cI x15.Parent,cI x15.Kind,cS x15.Key,.d (.sl (List.map Attr.cs x15.Attrs)),.d (.sl (List.map Action.cs x15.Actions)),.d (.sl (List.map (eInt .i64) x15.Kids))] 96)],0⟩) hr (Conv.mk (tau []) ⟨⟨_,rfl,.inl rfl⟩,⟨_,rfl,.inl rfl⟩,⟨_,rfl,.inl rfl⟩,⟨_,rfl,.inl rfl⟩,⟨_,rfl,.inl rfl⟩,⟨_,rfl,.inl rfl⟩,⟨_,rfl,.inl rfl⟩,⟨_,rfl,.inl rfl⟩,⟨_,rfl,.inl rfl⟩,⟨_,rfl,.inl rfl⟩,trivial⟩ ⟨rfl,rfl,rfl,rfl,trivial⟩ rfl rfl rfl rfl) ?_)
 clear hr
 intro again19 s18 hr
 unfold vw_graph_L1 at hr
 refine Ok.seq (Ok.region (OkOps.y (aB (decide (s18.1 < (x15.Kids.length : Int)))) (OkOps.nil (Ok.seq ?_))))
 refine Ok.cond (b:=decide (s18.1 < (x15.Kids.length : Int))) rfl (fun h20=>?_) (fun h20=>?_)
 have hr:=selT h20 hr
 refine Ok.skip (Ok.seq (Ok.block (Ok.seq (Ok.region ?_))))
 obtain ⟨x21,hx21,hr⟩:=bind_some hr
 refine OkOps.q (triIdx (enc:=(eInt .i64)) (L:=x15.Kids) (row:=[dI x21]) hx21 rfl rfl rfl rfl (fun _=>rfl) trivial rfl) (OkOps.y (aI x21) (OkOps.y (aI x21) (OkOps.nil (Ok.seq (Ok.seq (Ok.region (OkOps.y (.c (.own 1)) (OkOps.y (aI x21) ?_))))))))
 obtain ⟨x22,hx22,hr⟩:=bind_some hr
 refine OkOps.q (triLookT (agg:=true) (ek:=(kInt .i64)) (ev:=Node.cs) (L:=s2) (r:=.agg [cI x22.1.ID,cI x22.1.Parent,cI x22.1.Kind,cS x22.1.Key,.d (.sl (List.map Attr.cs x22.1.Attrs)),.d (.sl (List.map Action.cs x22.1.Actions)),.d (.sl (List.map (eInt .i64) x22.1.Kids))]) hx22 rfl rfl rfl (keyInt Tryd.underlying3) rfl rfl (fun h=>by cases h) rfl trivial rfl) ?_
 refine OkOps.q (triMv (v:=.tup [.agg [cI x22.1.ID,cI x22.1.Parent,cI x22.1.Kind,cS x22.1.Key,.d (.sl (List.map Attr.cs x22.1.Attrs)),.d (.sl (List.map Action.cs x22.1.Actions)),.d (.sl (List.map (eInt .i64) x22.1.Kids))],aB x22.2]) rfl rfl) (OkOps.y (.agg [cI x22.1.ID,cI x22.1.Parent,cI x22.1.Kind,cS x22.1.Key,.d (.sl (List.map Attr.cs x22.1.Attrs)),.d (.sl (List.map Action.cs x22.1.Actions)),.d (.sl (List.map (eInt .i64) x22.1.Kids))]) (OkOps.y (aB x22.2) (OkOps.m 0 (triAlloc (j:=5) (cs:=[cI 0,cI 0,cI 0,cS ByteArray.empty,.d (.v (.slice none 0 0)),.d (.v (.slice none 0 0)),.d (.v (.slice none 0 0))]) rfl rfl rfl rfl) (OkOps.w (triStore (cs':=[cI x22.1.ID,cI x22.1.Parent,cI x22.1.Kind,cS x22.1.Key,.d (.sl (List.map Attr.cs x22.1.Attrs)),.d (.sl (List.map Action.cs x22.1.Actions)),.d (.sl (List.map (eInt .i64) x22.1.Kids))]) rfl rfl rfl rfl rfl rfl rfl rfl rfl) (OkOps.y (aB x22.2) (OkOps.nil (Ok.seq (Ok.region (OkOps.y (aB x22.2) (OkOps.y (aB (!x22.2)) (OkOps.y (aB (!x22.2)) (OkOps.q (triQG (x:=.c (.loc 5 1)) rfl rfl trivial rfl) (OkOps.q (triQG (x:=aI x22.1.Parent) rfl rfl ⟨fun h=>h,trivial⟩ rfl) (OkOps.q (triQG (x:=.c (.loc 4 0)) rfl rfl trivial rfl) (OkOps.q (triQG (x:=aI x15.ID) rfl rfl ⟨fun h=>h,trivial⟩ rfl) ?_)))))))))))))))
 refine OkOps.q (triQG (x:=aB (x22.1.Parent != x15.ID)) rfl rfl ⟨fun h=>h,⟨fun h=>h,trivial⟩⟩ rfl) ?_
 refine OkOps.q (triOr rfl rfl (fun h=>by rw [h];rfl) rfl) ?_
 refine OkOps.y (aB ((!x22.2) || (x22.1.Parent != x15.ID))) (OkOps.q (triQG (x:=.c (.own 3)) rfl rfl trivial rfl) (OkOps.q (triQG (x:=aI x21) rfl rfl trivial rfl) ?_))
 obtain ⟨x23,hx23,hr⟩:=bind_some hr
 refine OkOps.q (triLookG (agg:=false) (ek:=(kInt .i64)) (ev:=eBool) (L:=s18.2) (r:=aB x23.1) (gO_t hx23) rfl rfl rfl rfl (keyInt Tryd.underlying3) rfl rfl (fun _ _=>rfl) rfl ⟨fun h=>h,⟨fun h=>h,trivial⟩⟩ rfl) ?_
 refine OkOps.q (triOr rfl rfl (fun h=>by rw [h];rfl) rfl) ?_
 refine OkOps.nil ?_
 refine Ok.cond (b:=((!x22.2) || (x22.1.Parent != x15.ID)) || x23.1) rfl (fun h24=>?_) (fun h24=>?_)
 have hr:=selT h24 hr
 refine Ok.seq (Ok.region (OkOps.y (.c (.d (.v (.map none)))) (OkOps.y (aB false) (OkOps.nil (Ok.conv (Conv.nilM 2 true rfl) (Ok.ret ?_))))))
 obtain rfl:=Option.some.inj hr
 exact ⟨_,rfl,.inl rfl,trivial⟩
 have hr:=selF h24 hr
 refine Ok.skip (Ok.region (OkOps.y (.c (.own 3)) (OkOps.y (aI x21) (OkOps.w (triMapUp (ek:=(kInt .i64)) (ev:=eBool) (L:=s18.2) (z:=true) rfl rfl rfl rfl rfl rfl (keyInt Tryd.underlying3) (fun _ _=>rfl) rfl trivial) (OkOps.nil (Ok.region (OkOps.y (aI (IntKind.i64.wrap (s18.1 + 1))) (OkOps.y (aI (IntKind.i64.wrap (s18.1 + 1))) (OkOps.nil ?_)))))))))
 exact ⟨(IntKind.i64.wrap (s18.1 + 1),msetL s18.2 x21 true),hr,(Conv.mk (tau []) ⟨⟨_,rfl,.inl rfl⟩,⟨_,rfl,.inl rfl⟩,⟨_,rfl,.inl rfl⟩,⟨_,rfl,.inl rfl⟩,⟨_,rfl,.inl rfl⟩,⟨_,rfl,.inl rfl⟩,⟨_,rfl,.inl rfl⟩,⟨_,rfl,.inl rfl⟩,⟨_,rfl,.inl rfl⟩,⟨_,rfl,.inl rfl⟩,trivial⟩ ⟨rfl,rfl,rfl,rfl,trivial⟩ rfl rfl rfl rfl)⟩
 have hr:=selF h20 hr
 refine Ok.exit ?_
 exact ⟨s18.2,hr,(Conv.mk (tau []) ⟨⟨_,rfl,.inl rfl⟩,⟨_,rfl,.inl rfl⟩,⟨_,rfl,.inl rfl⟩,⟨_,rfl,.inl rfl⟩,⟨_,rfl,.inl rfl⟩,⟨_,rfl,.inl rfl⟩,trivial⟩ ⟨rfl,rfl,rfl,trivial⟩ rfl rfl rfl rfl)⟩
 have hr:=selF h12 hr
 refine Ok.exit ?_
 exact ⟨s10.2,hr,(Conv.mk (tau []) ⟨⟨_,rfl,.inl rfl⟩,⟨_,rfl,.inl rfl⟩,⟨_,rfl,.inl rfl⟩,trivial⟩ ⟨rfl,rfl,rfl,trivial⟩ rfl rfl rfl rfl)⟩
 clear hk3
 refine Ok.seq (Ok.region (OkOps.y (.c (.loc 0 2)) (OkOps.y (.c (.d (.sl (List.map Node.cs t.Nodes)))) (OkOps.q (triLen (enc:=Node.cs) t.Nodes rfl rfl trivial rfl) (OkOps.y (aI 0) (OkOps.nil (Ok.block (Ok.loopK (fun (s25 : Int × Int × (List (Int × Node)))=>⟨[(1,.s (.c (.loc 0 0))),(4,.s (.c (.own 1))),(5,.s (aI s25.1)),(39,.s (.c (.d (.sl (List.map Node.cs t.Nodes))))),(40,.s (aI (t.Nodes.length : Int))),(41,.s (aI s25.2.1))],[(0,.blk [cI t.Root,cI t.Next,.d (.sl (List.map Node.cs t.Nodes))] 46),(1,.mp true (encM (kInt .i64) Node.cs s25.2.2))],0⟩) hr (Conv.mk (tau []) ⟨⟨_,rfl,.inl rfl⟩,⟨_,rfl,.inl rfl⟩,⟨_,rfl,.inl rfl⟩,⟨_,rfl,.inl rfl⟩,⟨_,rfl,.inl rfl⟩,⟨_,rfl,.inl rfl⟩,trivial⟩ ⟨rfl,rfl,trivial⟩ rfl rfl rfl rfl) ?_))))))))
 clear hr
 intro again26 s25 hr
 unfold vw_graph_L3 at hr
 refine Ok.seq (Ok.region (OkOps.y (aB (decide (s25.2.1 < (t.Nodes.length : Int)))) (OkOps.nil (Ok.seq ?_))))
 refine Ok.cond (b:=decide (s25.2.1 < (t.Nodes.length : Int))) rfl (fun h27=>?_) (fun h27=>?_)
 have hr:=selT h27 hr
 refine Ok.skip (Ok.seq (Ok.block (Ok.seq (Ok.region ?_))))
 obtain ⟨x28,hx28,hr⟩:=bind_some hr
 refine OkOps.q (triIdx (enc:=Node.cs) (L:=t.Nodes) (row:=[dI x28.ID,dI x28.Parent,dI x28.Kind,dS x28.Key,.sl (List.map Attr.cs x28.Attrs),.sl (List.map Action.cs x28.Actions),.sl (List.map (eInt .i64) x28.Kids)]) hx28 rfl rfl rfl rfl (fun _=>rfl) trivial rfl) (OkOps.y (.agg [cI x28.ID,cI x28.Parent,cI x28.Kind,cS x28.Key,.d (.sl (List.map Attr.cs x28.Attrs)),.d (.sl (List.map Action.cs x28.Actions)),.d (.sl (List.map (eInt .i64) x28.Kids))]) (OkOps.m 0 (triAlloc (j:=6) (cs:=[cI 0,cI 0,cI 0,cS ByteArray.empty,.d (.v (.slice none 0 0)),.d (.v (.slice none 0 0)),.d (.v (.slice none 0 0))]) rfl rfl rfl rfl) (OkOps.w (triStore (cs':=[cI x28.ID,cI x28.Parent,cI x28.Kind,cS x28.Key,.d (.sl (List.map Attr.cs x28.Attrs)),.d (.sl (List.map Action.cs x28.Actions)),.d (.sl (List.map (eInt .i64) x28.Kids))]) rfl rfl rfl rfl rfl rfl rfl rfl rfl) (OkOps.nil (Ok.seq (Ok.seq (Ok.region (OkOps.y (.c (.loc 6 0)) (OkOps.y (aI x28.ID) (OkOps.y (aI s25.1) (OkOps.y (aB (decide (x28.ID ≤ s25.1))) (OkOps.y (aB (decide (x28.ID ≤ s25.1))) (OkOps.q (triQG (x:=.c (.loc 6 0)) rfl rfl trivial rfl) (OkOps.q (triQG (x:=aI x28.ID) rfl rfl ⟨fun h=>h,trivial⟩ rfl) (OkOps.q (triQG (x:=.c (.loc 0 1)) rfl rfl trivial rfl) ?_)))))))))))))))
 refine OkOps.q (triQG (x:=aI t.Next) rfl rfl ⟨fun h=>h,trivial⟩ rfl) (OkOps.q (triQG (x:=aB (decide (x28.ID ≥ t.Next))) rfl rfl ⟨fun h=>h,⟨fun h=>h,trivial⟩⟩ rfl) ?_)
 refine OkOps.q (triOr rfl rfl (fun h=>by rw [h];rfl) rfl) ?_
 refine OkOps.y (aB ((decide (x28.ID ≤ s25.1)) || (decide (x28.ID ≥ t.Next)))) (OkOps.q (triQG (x:=.c (.loc 6 1)) rfl rfl trivial rfl) (OkOps.q (triQG (x:=aI x28.Parent) rfl rfl ⟨fun h=>h,trivial⟩ rfl) (OkOps.q (triQG (x:=aB (x28.Parent == 0)) rfl rfl ⟨fun h=>h,trivial⟩ rfl) (OkOps.q (triQG (x:=.c (.loc 6 0)) rfl rfl trivial rfl) (OkOps.q (triQG (x:=aI x28.ID) rfl rfl ⟨fun h=>h,trivial⟩ rfl) (OkOps.q (triQG (x:=.c (.loc 0 0)) rfl rfl trivial rfl) (OkOps.q (triQG (x:=aI t.Root) rfl rfl ⟨fun h=>h,trivial⟩ rfl) (OkOps.q (triQG (x:=aB (x28.ID == t.Root)) rfl rfl ⟨fun h=>h,⟨fun h=>h,trivial⟩⟩ rfl) (OkOps.q (triQG (x:=aB ((x28.Parent == 0) != (x28.ID == t.Root))) rfl rfl ⟨fun h=>h,⟨fun h=>h,trivial⟩⟩ rfl) ?_)))))))))
 refine OkOps.q (triOr rfl rfl (fun h=>by rw [h];rfl) rfl) ?_
 refine OkOps.nil ?_
 refine Ok.cond (b:=((decide (x28.ID ≤ s25.1)) || (decide (x28.ID ≥ t.Next))) || ((x28.Parent == 0) != (x28.ID == t.Root))) rfl (fun h29=>?_) (fun h29=>?_)
 have hr:=selT h29 hr
 refine Ok.seq (Ok.region (OkOps.y (.c (.d (.v (.map none)))) (OkOps.y (aB false) (OkOps.nil (Ok.conv (Conv.nilM 2 true rfl) (Ok.ret ?_))))))
 obtain rfl:=Option.some.inj hr
 exact ⟨_,rfl,.inl rfl,trivial⟩
 have hr:=selF h29 hr
 refine Ok.skip (Ok.seq (Ok.region (OkOps.y (.c (.loc 6 0)) (OkOps.y (aI x28.ID) (OkOps.y (aI x28.ID) (OkOps.nil (Ok.region (OkOps.y (.c (.own 1)) (OkOps.y (.c (.loc 6 0)) (OkOps.y (aI x28.ID) (OkOps.y (.agg [cI x28.ID,cI x28.Parent,cI x28.Kind,cS x28.Key,.d (.sl (List.map Attr.cs x28.Attrs)),.d (.sl (List.map Action.cs x28.Actions)),.d (.sl (List.map (eInt .i64) x28.Kids))]) ?_)))))))))))
 refine OkOps.w (triMapUp (ek:=(kInt .i64)) (ev:=Node.cs) (L:=s25.2.2) (z:=x28) rfl rfl rfl rfl rfl rfl (keyInt Tryd.underlying3) (fun h=>by cases h) rfl trivial) ?_
 refine OkOps.nil (Ok.region (OkOps.y (aI (IntKind.i64.wrap (s25.2.1 + 1))) (OkOps.y (aI (IntKind.i64.wrap (s25.2.1 + 1))) (OkOps.nil ?_))))
 exact ⟨(x28.ID,IntKind.i64.wrap (s25.2.1 + 1),msetL s25.2.2 x28.ID x28),hr,(Conv.mk (tau []) ⟨⟨_,rfl,.inl rfl⟩,⟨_,rfl,.inl rfl⟩,⟨_,rfl,.inl rfl⟩,⟨_,rfl,.inl rfl⟩,⟨_,rfl,.inl rfl⟩,⟨_,rfl,.inl rfl⟩,trivial⟩ ⟨rfl,rfl,trivial⟩ rfl rfl rfl rfl)⟩
 have hr:=selF h27 hr
 refine Ok.exit ?_
 exact ⟨s25.2.2,hr,(Conv.mk (tau []) ⟨⟨_,rfl,.inl rfl⟩,⟨_,rfl,.inl rfl⟩,trivial⟩ ⟨rfl,rfl,trivial⟩ rfl rfl rfl rfl)⟩
theorem vw_described_B_c (self0 : (List (Int × Node)) → Int → Option View) (hself0 : ∀ (nodes : (List (Int × Node))) (id : Int) {r : View},self0 nodes id = some r → Con Tryd.prog 102 [.c (.d (.mp true (encM (kInt .i64) Node.cs nodes))),aI id] [] (.s (.agg [cI r.Kind,cS r.Key,.d (.sl (List.map Attr.cs r.Attrs)),.d (.sl (List.map Action.cs r.Actions)),.d (.sl (List.map View.cs r.Kids))])) []) (nodes : (List (Int × Node))) (id : Int) {r : View} (hr : vw_described_B self0 nodes id = some r) : Con Tryd.prog 102 [.c (.d (.mp true (encM (kInt .i64) Node.cs nodes))),aI id] [] (.s (.agg [cI r.Kind,cS r.Key,.d (.sl (List.map Attr.cs r.Attrs)),.d (.sl (List.map Action.cs r.Actions)),.d (.sl (List.map View.cs r.Kids))])) []:=by
 unfold vw_described_B at hr
 refine Con.of_ok 38 0 [.cell 4 29] [(0,.s (.c (.d (.mp true (encM (kInt .i64) Node.cs nodes))))),(1,.s (aI id))] Tryd.func102 rfl rfl rfl rfl rfl rfl rfl rfl fun w g M ρ _=>(Ok.seq (Ok.region (OkOps.m 0 (triAlloc (j:=0) (cs:=[cI 0,cS ByteArray.empty,.d (.v (.slice none 0 0)),.d (.v (.slice none 0 0)),.d (.v (.slice none 0 0))]) rfl rfl rfl rfl) (OkOps.nil (Ok.seq (Ok.region (OkOps.y (.c (.d (.mp true (encM (kInt .i64) Node.cs nodes)))) (OkOps.y (aI id) ?_))))))))
 obtain ⟨x1,hx1,hr⟩:=bind_some hr
 refine OkOps.q (triLook (agg:=true) (ek:=(kInt .i64)) (ev:=Node.cs) (L:=nodes) (r:=.agg [cI x1.1.ID,cI x1.1.Parent,cI x1.1.Kind,cS x1.1.Key,.d (.sl (List.map Attr.cs x1.1.Attrs)),.d (.sl (List.map Action.cs x1.1.Actions)),.d (.sl (List.map (eInt .i64) x1.1.Kids))]) hx1 rfl rfl rfl (keyInt Tryd.underlying3) rfl rfl (fun h=>by cases h) rfl trivial rfl) ?_
 refine OkOps.m 0 (triAlloc (j:=1) (cs:=[cI 0,cI 0,cI 0,cS ByteArray.empty,.d (.v (.slice none 0 0)),.d (.v (.slice none 0 0)),.d (.v (.slice none 0 0))]) rfl rfl rfl rfl) (OkOps.w (triStore (cs':=[cI x1.1.ID,cI x1.1.Parent,cI x1.1.Kind,cS x1.1.Key,.d (.sl (List.map Attr.cs x1.1.Attrs)),.d (.sl (List.map Action.cs x1.1.Actions)),.d (.sl (List.map (eInt .i64) x1.1.Kids))]) rfl rfl rfl rfl rfl rfl rfl rfl rfl) (OkOps.nil (Ok.seq (Ok.region (OkOps.y (.c (.loc 1 2)) (OkOps.y (aI x1.1.Kind) (OkOps.y (.c (.loc 1 3)) (OkOps.y (aS x1.1.Key) (OkOps.y (.c (.loc 1 4)) (OkOps.y (.c (.d (.sl (List.map Attr.cs x1.1.Attrs)))) (OkOps.y (.c (.loc 1 5)) (OkOps.y (.c (.d (.sl (List.map Action.cs x1.1.Actions)))) (OkOps.y (.agg [cI x1.1.Kind,cS x1.1.Key,.d (.sl (List.map Attr.cs x1.1.Attrs)),.d (.sl (List.map Action.cs x1.1.Actions)),.d (.v (.slice none 0 0))]) (OkOps.m 0 (triAlloc (j:=2) (cs:=[cI 0,cS ByteArray.empty,.d (.v (.slice none 0 0)),.d (.v (.slice none 0 0)),.d (.v (.slice none 0 0))]) rfl rfl rfl rfl) (OkOps.w (triStore (cs':=[cI x1.1.Kind,cS x1.1.Key,.d (.sl (List.map Attr.cs x1.1.Attrs)),.d (.sl (List.map Action.cs x1.1.Actions)),.d (.v (.slice none 0 0))]) rfl rfl rfl rfl rfl rfl rfl rfl rfl) ?_)))))))))))))))
 refine OkOps.nil ?_
 obtain ⟨k3,hk3,hr⟩:=jn_some hr
 refine Ok.join (fun (s2 : (List View))=>⟨[(4,.s (.c (.loc 0 0))),(6,.s (.c (.loc 2 0)))],[(0,.blk [cI 0,cS ByteArray.empty,.d (.v (.slice none 0 0)),.d (.v (.slice none 0 0)),.d (.v (.slice none 0 0))] 29),(2,.blk [cI x1.1.Kind,cS x1.1.Key,.d (.sl (List.map Attr.cs x1.1.Attrs)),.d (.sl (List.map Action.cs x1.1.Actions)),.tl 1004 (List.map View.cs s2)] 29),(1004,.tail 5)],0⟩) k3 r (fun s2 hr=>?_) ?_
 rw [hk3] at hr
 refine Ok.seq (Ok.region (OkOps.y (.agg [cI x1.1.Kind,cS x1.1.Key,.d (.sl (List.map Attr.cs x1.1.Attrs)),.d (.sl (List.map Action.cs x1.1.Actions)),.tl 1004 (List.map View.cs s2)]) (OkOps.w (triStore (cs':=[cI x1.1.Kind,cS x1.1.Key,.d (.sl (List.map Attr.cs x1.1.Attrs)),.d (.sl (List.map Action.cs x1.1.Actions)),.tl 1004 (List.map View.cs s2)]) rfl rfl rfl rfl rfl rfl rfl rfl rfl) (OkOps.nil (Ok.ret ?_)))))
 obtain rfl:=Option.some.inj hr
 exact ⟨_,rfl,.inr rfl,trivial⟩
 clear hk3
 refine Ok.seq (Ok.region (OkOps.y (.c (.loc 1 6)) (OkOps.y (.c (.d (.sl (List.map (eInt .i64) x1.1.Kids)))) (OkOps.q (triLen (enc:=(eInt .i64)) x1.1.Kids rfl rfl trivial rfl) (OkOps.y (aI 0) (OkOps.nil (Ok.block (Ok.loopK (fun (s4 : Int × (List View))=>⟨[(0,.s (.c (.d (.mp true (encM (kInt .i64) Node.cs nodes))))),(4,.s (.c (.loc 0 0))),(6,.s (.c (.loc 2 0))),(22,.s (.c (.d (.sl (List.map (eInt .i64) x1.1.Kids))))),(23,.s (aI (x1.1.Kids.length : Int))),(24,.s (aI s4.1))],[(0,.blk [cI 0,cS ByteArray.empty,.d (.v (.slice none 0 0)),.d (.v (.slice none 0 0)),.d (.v (.slice none 0 0))] 29),(2,.blk [cI x1.1.Kind,cS x1.1.Key,.d (.sl (List.map Attr.cs x1.1.Attrs)),.d (.sl (List.map Action.cs x1.1.Actions)),.tl 1007 (List.map View.cs s4.2)] 29),(1007,.tail 5)],0⟩) hr (Conv.trans (Conv.nilO 2 4 1009 5 [cI x1.1.Kind,cS x1.1.Key,.d (.sl (List.map Attr.cs x1.1.Attrs)),.d (.sl (List.map Action.cs x1.1.Actions)),.d (.v (.slice none 0 0))] [cI x1.1.Kind,cS x1.1.Key,.d (.sl (List.map Attr.cs x1.1.Attrs)),.d (.sl (List.map Action.cs x1.1.Actions)),.tl 1009 (List.map View.cs ([] : (List View)))] 29 0 rfl rfl rfl rfl) (Conv.mk (tau [(1007,1009)]) ⟨⟨_,rfl,.inl rfl⟩,⟨_,rfl,.inl rfl⟩,⟨_,rfl,.inl rfl⟩,⟨_,rfl,.inl rfl⟩,⟨_,rfl,.inl rfl⟩,⟨_,rfl,.inl rfl⟩,trivial⟩ ⟨rfl,rfl,rfl,trivial⟩ rfl rfl rfl rfl)) ?_))))))))
 clear hr
 intro again5 s4 hr
 unfold vw_described_L1 at hr
 refine Ok.seq (Ok.region (OkOps.y (aB (decide (s4.1 < (x1.1.Kids.length : Int)))) (OkOps.nil (Ok.seq ?_))))
 refine Ok.cond (b:=decide (s4.1 < (x1.1.Kids.length : Int))) rfl (fun h6=>?_) (fun h6=>?_)
 have hr:=selT h6 hr
 refine Ok.skip (Ok.seq (Ok.block (Ok.seq (Ok.region ?_))))
 obtain ⟨x7,hx7,hr⟩:=bind_some hr
 refine OkOps.q (triIdx (enc:=(eInt .i64)) (L:=x1.1.Kids) (row:=[dI x7]) hx7 rfl rfl rfl rfl (fun _=>rfl) trivial rfl) (OkOps.y (aI x7) (OkOps.y (aI x7) (OkOps.nil (Ok.regionD (by kernel_rfl) (OkD.x (.c (.loc 2 4)) rfl trivial rfl (OkD.x (.c (.tl 1007 (List.map View.cs s4.2))) rfl trivial rfl (OkD.x (.c (.d (.mp true (encM (kInt .i64) Node.cs nodes)))) rfl trivial rfl (OkD.x (aI x7) rfl trivial rfl ?_))))))))
 obtain ⟨x8,hx8,hr⟩:=bind_some hr
 refine OkD.q (triCl (tau []) (.s (.agg [cI x8.Kind,cS x8.Key,.d (.sl (List.map Attr.cs x8.Attrs)),.d (.sl (List.map Action.cs x8.Actions)),.d (.sl (List.map View.cs x8.Kids))])) [] (hself0 _ _ hx8) rfl ⟨.inl rfl,.inl rfl,trivial⟩ trivial entry102 trivial) ?_
 refine OkD.m 0 (triBST (sz:=5) (enc:=View.cs) (j:=3) ([x8]) rfl rfl rfl rfl rfl (rows:=[[dI x8.Kind,dS x8.Key,.sl (List.map Attr.cs x8.Attrs),.sl (List.map Action.cs x8.Actions),.sl (List.map View.cs x8.Kids)]]) (by simp only [List.map,View.cs_eq]) rfl rfl (fun x=>by rw [View.cs_eq];rfl) trivial rfl rfl) ?_
 obtain ⟨x9,hx9,hr⟩:=bind_some hr
 refine OkD.m2 0 (triApp (enc:=View.cs) (L:=s4.2) (X:=[x8]) (j:=1007) (j':=4) hx9 rfl rfl rfl rfl rfl rfl (fun x=>by rw [View.cs_eq];rfl) (fun x=>by rw [View.cs_eq];rfl) (by decide) trivial rfl rfl) ?_
 refine OkD.x (.c (.loc 2 4)) rfl trivial rfl (OkD.w (triStore (cs':=[cI x1.1.Kind,cS x1.1.Key,.d (.sl (List.map Attr.cs x1.1.Attrs)),.d (.sl (List.map Action.cs x1.1.Actions)),.tl 4 (List.map View.cs x9)]) rfl rfl rfl rfl rfl rfl rfl rfl rfl) (OkD.nil (by kernel_rfl) (Ok.region (OkOps.y (aI (IntKind.i64.wrap (s4.1 + 1))) (OkOps.y (aI (IntKind.i64.wrap (s4.1 + 1))) (OkOps.nil ?_))))))
 exact ⟨(IntKind.i64.wrap (s4.1 + 1),x9),hr,(Conv.mk (tau [(1007,4)]) ⟨⟨_,rfl,.inl rfl⟩,⟨_,rfl,.inl rfl⟩,⟨_,rfl,.inl rfl⟩,⟨_,rfl,.inl rfl⟩,⟨_,rfl,.inl rfl⟩,⟨_,rfl,.inl rfl⟩,trivial⟩ ⟨rfl,rfl,rfl,trivial⟩ rfl rfl rfl rfl)⟩
 have hr:=selF h6 hr
 refine Ok.exit ?_
 exact ⟨s4.2,hr,(Conv.mk (tau [(1004,1007)]) ⟨⟨_,rfl,.inl rfl⟩,⟨_,rfl,.inl rfl⟩,trivial⟩ ⟨rfl,rfl,rfl,trivial⟩ rfl rfl rfl rfl)⟩
theorem vw_described_all : ∀ n : Nat,(∀ (nodes : (List (Int × Node))) (id : Int) {r : View},vw_described n nodes id = some r → Con Tryd.prog 102 [.c (.d (.mp true (encM (kInt .i64) Node.cs nodes))),aI id] [] (.s (.agg [cI r.Kind,cS r.Key,.d (.sl (List.map Attr.cs r.Attrs)),.d (.sl (List.map Action.cs r.Actions)),.d (.sl (List.map View.cs r.Kids))])) []) ∧ True:=by
 intro n
 induction n with
 | zero=>exact ⟨(by intros;rename_i hr;cases hr),trivial⟩
 | succ n ih=>exact ⟨(by intros;rename_i hr;exact vw_described_B_c _ ih.1 _ _ hr),trivial⟩
theorem vw_described_c (n : Nat) (nodes : (List (Int × Node))) (id : Int) {r : View} (hr : vw_described n nodes id = some r) : Con Tryd.prog 102 [.c (.d (.mp true (encM (kInt .i64) Node.cs nodes))),aI id] [] (.s (.agg [cI r.Kind,cS r.Key,.d (.sl (List.map Attr.cs r.Attrs)),.d (.sl (List.map Action.cs r.Actions)),.d (.sl (List.map View.cs r.Kids))])) []:=(vw_described_all n).1 nodes id hr
theorem vw_examine_c (t : Tree) {r : (List (Int × Node)) × View × Int} (hr : vw_examine t = some r) : Con Tryd.prog 78 [.agg [cI t.Root,cI t.Next,.d (.sl (List.map Node.cs t.Nodes))]] [] (.tup [.c (.d (.mp true (encM (kInt .i64) Node.cs r.1))),.agg [cI r.2.1.Kind,cS r.2.1.Key,.d (.sl (List.map Attr.cs r.2.1.Attrs)),.d (.sl (List.map Action.cs r.2.1.Actions)),.d (.sl (List.map View.cs r.2.1.Kids))],aI r.2.2]) []:=by
 unfold vw_examine at hr
 refine Con.of_ok 24 0 [.tmp 2,.cell 3 29,.tmp 4] [(0,.s (.agg [cI t.Root,cI t.Next,.d (.sl (List.map Node.cs t.Nodes))]))] Tryd.func78 rfl rfl rfl rfl rfl rfl rfl rfl fun w g M ρ _=>(Ok.seq (Ok.region (OkOps.m 0 (triBox (j:=0) (cs:=[cI t.Root,cI t.Next,.d (.sl (List.map Node.cs t.Nodes))]) rfl rfl rfl rfl rfl) (OkOps.y (.c (.d (.v (.map none)))) (OkOps.m 0 (triAlloc (j:=1) (cs:=[cI 0,cS ByteArray.empty,.d (.v (.slice none 0 0)),.d (.v (.slice none 0 0)),.d (.v (.slice none 0 0))]) rfl rfl rfl rfl) (OkOps.y (aI 0) (OkOps.nil (Ok.seq (Ok.region (OkOps.y (.agg [cI t.Root,cI t.Next,.d (.sl (List.map Node.cs t.Nodes))]) ?_))))))))))
 obtain ⟨x1,hx1,hr⟩:=bind_some hr
 refine OkOps.q (triCl (tau []) (.tup [.c (.d (.mp true (encM (kInt .i64) Node.cs x1.1))),aB x1.2]) [] (vw_graph_c _ hx1) rfl ⟨.inl rfl,trivial⟩ trivial entry101 trivial) (OkOps.q (triMv (v:=.tup [.c (.d (.mp true (encM (kInt .i64) Node.cs x1.1))),aB x1.2]) rfl rfl) (OkOps.y (.c (.d (.mp true (encM (kInt .i64) Node.cs x1.1)))) (OkOps.y (aB x1.2) (OkOps.y (.c (.d (.mp true (encM (kInt .i64) Node.cs x1.1)))) (OkOps.y (aB x1.2) (OkOps.nil (Ok.seq (Ok.seq (Ok.region (OkOps.y (aB x1.2) (OkOps.y (aB (!x1.2)) (OkOps.nil ?_))))))))))))
 refine Ok.cond (b:=!x1.2) rfl (fun h2=>?_) (fun h2=>?_)
 have hr:=selT h2 hr
 refine Ok.seq (Ok.region (OkOps.y (.agg [cI 0,cS ByteArray.empty,.d (.v (.slice none 0 0)),.d (.v (.slice none 0 0)),.d (.v (.slice none 0 0))]) (OkOps.y (.c (.d (.v (.map none)))) (OkOps.w (triStore (cs':=[cI 0,cS ByteArray.empty,.d (.v (.slice none 0 0)),.d (.v (.slice none 0 0)),.d (.v (.slice none 0 0))]) rfl rfl rfl rfl rfl rfl rfl rfl rfl) (OkOps.y (aI 12) (OkOps.nil (Ok.conv (Conv.nilM 2 true rfl) (Ok.ret ?_))))))))
 obtain rfl:=Option.some.inj hr
 exact ⟨_,rfl,.inr rfl,trivial⟩
 have hr:=selF h2 hr
 refine Ok.skip (Ok.seq (Ok.region (OkOps.y (.c (.d (.mp true (encM (kInt .i64) Node.cs x1.1)))) (OkOps.y (.c (.loc 0 0)) (OkOps.y (aI t.Root) ?_)))))
 obtain ⟨x3,hx3,hr⟩:=bind_some hr
 refine OkOps.q (triCl (tau []) (.s (.agg [cI x3.Kind,cS x3.Key,.d (.sl (List.map Attr.cs x3.Attrs)),.d (.sl (List.map Action.cs x3.Actions)),.d (.sl (List.map View.cs x3.Kids))])) [] (vw_described_c _ _ _ hx3) rfl ⟨.inl rfl,.inl rfl,trivial⟩ trivial entry102 trivial) (OkOps.m 0 (triAlloc (j:=2) (cs:=[cI 0,cS ByteArray.empty,.d (.v (.slice none 0 0)),.d (.v (.slice none 0 0)),.d (.v (.slice none 0 0))]) rfl rfl rfl rfl) (OkOps.w (triStore (cs':=[cI x3.Kind,cS x3.Key,.d (.sl (List.map Attr.cs x3.Attrs)),.d (.sl (List.map Action.cs x3.Actions)),.d (.sl (List.map View.cs x3.Kids))]) rfl rfl rfl rfl rfl rfl rfl rfl rfl) (OkOps.nil (Ok.seq (Ok.regionD (by kernel_rfl) (OkD.x (.c (.d (.mp true (encM (kInt .i64) Node.cs x1.1)))) rfl trivial rfl (OkD.x (.agg [cI x3.Kind,cS x3.Key,.d (.sl (List.map Attr.cs x3.Attrs)),.d (.sl (List.map Action.cs x3.Actions)),.d (.sl (List.map View.cs x3.Kids))]) rfl trivial rfl (OkD.x (.agg [cI x3.Kind,cS x3.Key,.d (.sl (List.map Attr.cs x3.Attrs)),.d (.sl (List.map Action.cs x3.Actions)),.d (.sl (List.map View.cs x3.Kids))]) rfl trivial rfl ?_))))))))
 obtain ⟨x4,hx4,hr⟩:=bind_some hr
 refine OkD.q (triCl (tau []) (.s (aI x4)) [] (vw_Validate_c _ hx4) rfl ⟨.inl rfl,trivial⟩ trivial entry103 trivial) (OkD.x (.c (.d (.mp true (encM (kInt .i64) Node.cs x1.1)))) rfl trivial rfl (OkD.w (triStore (cs':=[cI x3.Kind,cS x3.Key,.d (.sl (List.map Attr.cs x3.Attrs)),.d (.sl (List.map Action.cs x3.Actions)),.d (.sl (List.map View.cs x3.Kids))]) rfl rfl rfl rfl rfl rfl rfl rfl rfl) (OkD.x (aI x4) rfl trivial rfl (OkD.nil (by kernel_rfl) (Ok.ret ?_)))))
 obtain rfl:=Option.some.inj hr
 exact ⟨_,rfl,.inl rfl,trivial⟩
theorem vw_Check_c (t : Tree) {r : Int} (hr : vw_Check t = some r) : Con Tryd.prog 51 [.agg [cI t.Root,cI t.Next,.d (.sl (List.map Node.cs t.Nodes))]] [] (.s (aI r)) []:=by
 unfold vw_Check at hr
 refine Con.of_ok 13 0 [.tmp 2] [(0,.s (.agg [cI t.Root,cI t.Next,.d (.sl (List.map Node.cs t.Nodes))]))] Tryd.func51 rfl rfl rfl rfl rfl rfl rfl rfl fun w g M ρ _=>(Ok.seq (Ok.region (OkOps.m 0 (triBox (j:=0) (cs:=[cI t.Root,cI t.Next,.d (.sl (List.map Node.cs t.Nodes))]) rfl rfl rfl rfl rfl) (OkOps.y (aI 0) (OkOps.nil (Ok.seq (Ok.region (OkOps.y (.agg [cI t.Root,cI t.Next,.d (.sl (List.map Node.cs t.Nodes))]) ?_))))))))
 obtain ⟨x1,hx1,hr⟩:=bind_some hr
 refine OkOps.q (triCl (tau []) (.tup [.c (.d (.mp true (encM (kInt .i64) Node.cs x1.1))),.agg [cI x1.2.1.Kind,cS x1.2.1.Key,.d (.sl (List.map Attr.cs x1.2.1.Attrs)),.d (.sl (List.map Action.cs x1.2.1.Actions)),.d (.sl (List.map View.cs x1.2.1.Kids))],aI x1.2.2]) [] (vw_examine_c _ hx1) rfl ⟨.inl rfl,trivial⟩ trivial entry78 trivial) (OkOps.q (triMv (v:=.tup [.c (.d (.mp true (encM (kInt .i64) Node.cs x1.1))),.agg [cI x1.2.1.Kind,cS x1.2.1.Key,.d (.sl (List.map Attr.cs x1.2.1.Attrs)),.d (.sl (List.map Action.cs x1.2.1.Actions)),.d (.sl (List.map View.cs x1.2.1.Kids))],aI x1.2.2]) rfl rfl) (OkOps.y (.c (.d (.mp true (encM (kInt .i64) Node.cs x1.1)))) (OkOps.y (.agg [cI x1.2.1.Kind,cS x1.2.1.Key,.d (.sl (List.map Attr.cs x1.2.1.Attrs)),.d (.sl (List.map Action.cs x1.2.1.Actions)),.d (.sl (List.map View.cs x1.2.1.Kids))]) (OkOps.y (aI x1.2.2) (OkOps.m 0 (triAlloc (j:=1) (cs:=[cI 0,cS ByteArray.empty,.d (.v (.slice none 0 0)),.d (.v (.slice none 0 0)),.d (.v (.slice none 0 0))]) rfl rfl rfl rfl) (OkOps.y (.c (.d (.mp true (encM (kInt .i64) Node.cs x1.1)))) (OkOps.w (triStore (cs':=[cI x1.2.1.Kind,cS x1.2.1.Key,.d (.sl (List.map Attr.cs x1.2.1.Attrs)),.d (.sl (List.map Action.cs x1.2.1.Actions)),.d (.sl (List.map View.cs x1.2.1.Kids))]) rfl rfl rfl rfl rfl rfl rfl rfl rfl) (OkOps.y (aI x1.2.2) (OkOps.nil (Ok.seq (Ok.region (OkOps.y (aI x1.2.2) (OkOps.y (aI x1.2.2) (OkOps.nil (Ok.ret ?_)))))))))))))))
 obtain rfl:=Option.some.inj hr
 exact ⟨_,rfl,.inl rfl,trivial⟩
end Go.Proofs.YtfoigppmcelgfaaDoor
end
section
namespace Go.E2
variable {P : Program} {C : Ctx}
theorem opIn_round {o : Oper} {a : Act} {w w' : World} {l : Nat} {f : FuncId} {tmps : Array Value} {assign body : Code} {K : Act → World → Prop} {Q : Exit → Act → World → Prop} (h : (execOp a.eval o).run P w = .ok (.round l f tmps assign body) w')
  (hk : RoundIn (FR none) 0 P l f tmps assign body w' fun | .returned v,w''=>K (a.put o.dst v) w'' | .panicked chain,w''=>Q (.panic chain) a w'' | .outgrown,_=>LetsOut Q) : o.wpIn (FR none) 0 P a w K Q:=by
 refine ⟨fun _ _=>trivial,?_⟩
 rw [show (FR none).round = none from rfl,semAt_of h (fun d e=>by cases e)]
 exact ⟨fun h=>Bool.noConfusion h,hk⟩
def yl (l : Nat) : Value:=.func (.yield l) #[] #[]
def rec0 (a : Act) (fid : FuncId) (D : Nat) (ps : Array Tmp) (assign body : Code) (s : LoopState) (pe : Option Code) : Obj :=
 .loop { state:=s,pending:=pe,fn:=fid,tmps:=a.tmps,params:=ps,assign,body,defers:=D }
structure LoopE (C : Ctx) (st : AState) (ps : Array Tmp) (assign body : Code) (jl l : Nat) (ρ1 : Env) (M1 : Mem) (ob : LoopState → Option Code → Obj) : Prop where
 ptr : ρ1 jl = .pointer (some ⟨l,0,none⟩)
 ex : ∃ (a : Act) (fid : FuncId) (D : Nat),a.tmps.size = C.n ∧ (∀ ρ',Agree (look st.bl) ρ1 ρ' → ∀ s v,look st.sl s = some v → v.rep ρ' M1 (a.tmps.getD s undef)) ∧ ob = rec0 a fid D ps assign body
 old : C.w0.heap.size ≤ l
abbrev cxF (C : Ctx) (n1 : Nat) (M1 : Mem) (bl : List (Nat × Ob)) (ρ1 : Env) : Ctx:=ctxOf C.w0 n1 C.g M1 bl ρ1
abbrev cxR (C : Ctx) (M : Mem) (bl : List (Nat × Ob)) (ρ : Env) (l : Nat) : Ctx:=ctxOf C.w0 C.n C.g M bl ρ (some l)
theorem set2 {t : Array Value} {p q : Nat} {v1 v2 : Value} : ((#[p,q] : Array Tmp).zip #[v1,v2]).foldl (fun tmps (t,a)=>tmps.setIfInBounds t a) t = (t.setIfInBounds p v1).setIfInBounds q v2:=by simp
theorem getD_set {t : Array Value} {p s : Nat} {v : Value} (hp : p < t.size) : (t.setIfInBounds p v).getD s undef = if p = s then v else t.getD s undef:=by
 rw [Array.getD_eq_getD_getElem?,Array.getD_eq_getD_getElem?,Array.getElem?_setIfInBounds]
 by_cases h : p = s
 ·subst h;simp [hp]
 ·simp [h]
theorem RelW.objSet {bl bl' : Nat → Option Ob} {ρ : Env} {M : Mem} {w : World} {j l : Nat} {o o' : Obj} (h : RelW C bl ρ M w) (hj : bl j = some (.obj o)) (hp : ρ j = .pointer (some ⟨l,0,none⟩)) (ho : ∀ c t f,o' ≠ .cells c t f) (hl : C.w0.heap.size ≤ l)
  (hbl : ∀ k ob,bl' k = some ob → ob = .dead ∨ (bl k = some ob ∧ k ≠ j) ∨ (k = j ∧ ob = .obj o')) : RelW C bl' ρ M (w.putObj l o'):=by
 have hb : blockOf (ρ j) = l:=by rw [hp];rfl
 have hi:=h.inv j _ hj
 obtain ⟨g1,g2,g3⟩:=hi
 rw [hb] at g1 g2
 have hlt : l < w.heap.size:=(Array.getElem?_eq_some_iff.1 g1).1
 have hcl : ∀ o'' v,M.cell l o'' ≠ some v:=fun o'' v hv=>by
  have hc:=h.mem.cell l o'' v hv
  unfold World.cell? at hc
  simp only [g1] at hc
  cases o <;> first | (exact absurd rfl (g3 _ _ _)) | (cases hc;done)
 refine h.change j (fun b=>b = l) (fun b hb _=>.inl (hb ▸ hl)) ⟨rfl,rfl,rfl,by rw [World.putObj_size];exact Nat.le_refl _⟩ (fun b _ hb=>World.putObj_heap_other hb) (Mem.le_refl _) (fun _ _ _=>⟨fun _=>rfl,rfl⟩) (fun b hb=>⟨fun o'' v hv=>?_,fun o'' hv=>?_⟩) (fun k ob hk=>?_) (fun b hb'=>h.noJunk hj (by rw [hb'];exact congrArg some hb))
 ·rcases hb with rfl | hb
  ·exact absurd hv (hcl _ _)
  ·have:=(h.mem.none hb).1 o'';rw [this] at hv;cases hv
 ·rcases hb with rfl | hb
  ·rw [g2] at hv;cases hv
  ·have:=(h.mem.none hb).2;rw [this] at hv;cases hv
 ·rcases hbl k ob hk with rfl | ⟨h1,h2⟩ | ⟨rfl,rfl⟩
  ·exact .inl rfl
  ·refine .inr (.inl ⟨h1,fun b hb' e=>?_⟩)
   subst e
   exact h2 (h.dist k j _ _ _ h1 hj hb' (by show some (blockOf (ρ j)) = some b;rw [hb]))
  ·refine .inr (.inr ⟨rfl,⟨by rw [hb];exact World.putObj_heap_same hlt,by rw [hb];exact g2,ho⟩,fun b hb'=>.inl ?_⟩)
   have : some (blockOf (ρ k)) = some b:=hb'
   rw [hb] at this;cases this;rfl
theorem rec0_loop {a : Act} {fid : FuncId} {D : Nat} {ps : Array Tmp} {assign body : Code} {s : LoopState} {pe : Option Code} : ∀ c t f,rec0 a fid D ps assign body s pe ≠ .cells c t f:=fun _ _ _ h=>by cases h
def outOf : Exit → Option Code
 | .ret=>some .ret
 | .exit id=>some (.exit id)
 | _=>none
theorem OkOps.yield {st cur : AState} {p q : Nat} {assign body : Code} {jl l n1 nx : Nat} {ρ1 : Env} {M1 : Mem} {ob : LoopState → Option Code → Obj} {bl1 : List (Nat × Ob)} {ops : Array Oper} {rest : List Oper} {Q : AState → Prop} {d : Nat} {y x1 x2 : Operand} {tys : Array TypeId} {ty : TypeId} {pos : String} {after : Array Edge} {v1 v2 : A1}
    [hT : HasTab P (cxF C n1 M1 bl1 ρ1)] (E : LoopE C st #[p, q] assign body jl l ρ1 M1 ob) (_hpq : p ≠ q) (hp : Nat.blt p C.n = true) (hq : Nat.blt q C.n = true)
    (hy : rd cur.F y = some (.c (.d (.v (yl l))))) (hx : rds cur.F [x1, x2] = some [v1, v2]) (hs : sideOk cur.F true [y, x1, x2]) (hd : Nat.blt d n1 = true)
    (hjl : look cur.bl jl = some (.obj (ob .ready none))) (hdom : ∀ k, look st.bl k ≠ none → look bl1 k ≠ none) (hj1 : look bl1 jl ≠ none)
    (hbody : ∀ ρc Mc, HasTab P (cxR C Mc cur.bl ρc l) → Ok P (cxR C Mc cur.bl ρc l) assign (fun e s1 => e = .normal ∧ look s1.bl jl = some (.obj (ob .ready none)) ∧ Ok P (cxR C Mc cur.bl ρc l) body (fun e s2 => look s2.bl jl = some (.obj (ob .busy none)) ∧ match e with
        | .normal => OkOps P (cxF C n1 M1 bl1 ρ1) ops rest Q ⟨(d, .s (.c (.d (.v (.bool true))))) :: cur.sl, (jl, .obj (ob .ready none)) :: s2.bl, nx⟩
        | .ret => OkOps P (cxF C n1 M1 bl1 ρ1) ops rest Q ⟨(d, .s (.c (.d (.v (.bool false))))) :: cur.sl, (jl, .obj (ob .done (some .ret))) :: s2.bl, nx⟩
        | .exit id => OkOps P (cxF C n1 M1 bl1 ρ1) ops rest Q ⟨(d, .s (.c (.d (.v (.bool false))))) :: cur.sl, (jl, .obj (ob .done (some (.exit id)))) :: s2.bl, nx⟩
        | _ => False)
      ⟨s1.sl, (jl, .obj (ob .busy none)) :: s1.bl, nx⟩) ⟨(q, .s v2) :: (p, .s v1) :: st.sl, cur.bl, nx⟩) :
    OkOps P (cxF C n1 M1 bl1 ρ1) ops (⟨some d, .call ⟨.value y, #[x1, x2], tys⟩, ty, pos, after, none⟩ :: rest) Q cur := by
  intro Q' hQ ρ M a w hr
  unfold wpListIn
  rw [if_pos (wanted_none rfl)]
  have h0 := hr.at
  have hR := reads_of h0 rfl hs
  have ey : a.eval y = yl l := Rep.v_inv (hR y (by simp) _ hy)
  have hpj : ρ jl = .pointer (some ⟨l, 0, none⟩) := (h0.heap.names jl hj1).trans E.ptr
  obtain ⟨a0, fid, D, hsz, hent, rfl⟩ := E.ex
  have hpl := Nat.lt_of_lt_of_le (Nat.lt_succ_self p) (Nat.le_of_ble_eq_true hp)
  have hql := Nat.lt_of_lt_of_le (Nat.lt_succ_self q) (Nat.le_of_ble_eq_true hq)
  have hw : w.heap[l]? = some (rec0 a0 fid D #[p, q] assign body .ready none) := by
    have := (h0.heap.inv jl _ hjl).1
    rw [hpj] at this
    exact this
  have hrun : (execOp a.eval ⟨some d, .call ⟨.value y, #[x1, x2], tys⟩, ty, pos, after, none⟩).run P w = .ok (.round l fid ((a0.tmps.setIfInBounds p (a.eval x1)).setIfInBounds q (a.eval x2)) assign body) w := by
    unfold execOp
    simp only [resolve, ey, yl, Deferred.ofValue, List.map_toArray, List.map_cons, List.map_nil, pure_bind, invoke, Array.empty_append]
    rw [run_yield hw rfl]
    simp only [set2]
  have hT2 : HasTab P (cxR C M cur.bl ρ l) := ⟨hT.tab.mono h0.heap.base⟩
  have hjk : look cur.bl jl ≠ none := by rw [hjl]; simp
  have hrel2 : Rel (cxR C M cur.bl ρ l) (AState.F ⟨(q, .s v2) :: (p, .s v1) :: st.sl, cur.bl, nx⟩) ρ M { tmps := (a0.tmps.setIfInBounds p (a.eval x1)).setIfInBounds q (a.eval x2), defers := [] } w := by
    intro ρ' ha
    have ha' : Agree (look cur.bl) ρ ρ' := ha
    have h1 := hr ρ' ha'
    have hR1 := reads_of h1 rfl hs
    have hargs := rds_rep (xs := [x1, x2]) (fun x hx => hR1 x (List.mem_cons_of_mem _ hx)) hx
    obtain ⟨r1, r2, _⟩ := hargs
    refine ⟨Marks.nil, by show _ = C.n; simp [hsz], fun t u hu => ?_, ?_⟩
    · have hu' : look ((q, .s v2) :: (p, .s v1) :: st.sl) t = some u := hu
      rw [look_cons, look_cons] at hu'
      show u.rep ρ' M (((a0.tmps.setIfInBounds p (a.eval x1)).setIfInBounds q (a.eval x2)).getD t undef)
      rw [getD_set (by rw [Array.size_setIfInBounds, hsz]; exact hql), getD_set (by rw [hsz]; exact hpl)]
      by_cases e1 : q = t
      · rw [if_pos e1] at hu' ⊢; cases hu'; exact r2
      · rw [if_neg e1] at hu' ⊢
        by_cases e2 : p = t
        · rw [if_pos e2] at hu' ⊢; cases hu'; exact r1
        · rw [if_neg e2] at hu' ⊢
          exact (hent ρ' (fun k hk => h1.heap.names k (hdom k hk)) t u hu').mono h1.heap.base
    · have hb := h1.heap
      exact ⟨hb.inv, hb.dist, hb.priv, hb.mem, Mem.le_refl _, fun _ _ _ => ⟨fun _ => rfl, rfl⟩, hb.kept, fun k hk => ha k hk, hb.junkP⟩
  refine opIn_round hrun (roundIn_of_wpIn trivial (wpIn_mono (hbody ρ M hT2 ρ M _ _ hrel2) ?_))
  rintro e a1 w1 ⟨s1, ρa, Ma, hra, rfl, hja, hbod⟩
  have hjpa : ∀ ρ'', Agree (look s1.bl) ρa ρ'' → ρ'' jl = .pointer (some ⟨l, 0, none⟩) := fun ρ'' ha => ((hra ρ'' ha).heap.names jl hjk).trans hpj
  have hwa : w1.heap[l]? = some (rec0 a0 fid D #[p, q] assign body .ready none) := by
    have := (hra.at.heap.inv jl _ hja).1
    rw [hjpa ρa (Agree.refl _ _)] at this
    exact this
  refine ⟨_, run_beginRound hwa rfl, ?_⟩
  have hrelb : Rel (cxR C M cur.bl ρ l) (AState.F ⟨s1.sl, (jl, .obj (rec0 a0 fid D #[p, q] assign body .busy none)) :: s1.bl, nx⟩) ρa Ma a1 (w1.putObj l (rec0 a0 fid D #[p, q] assign body .busy none)) := by
    intro ρ'' ha
    have ha2 : Agree (look s1.bl) ρa ρ'' := fun k hk => ha k (by
      show look ((jl, Ob.obj (rec0 a0 fid D #[p, q] assign body .busy none)) :: s1.bl) k ≠ none
      rw [look_cons]
      by_cases e : jl = k
      · rw [if_pos e]; simp
      · rw [if_neg e]; exact hk)
    have h2 := hra ρ'' ha2
    exact ⟨h2.defers, h2.size, h2.slots, h2.heap.objSet (bl' := look ((jl, .obj (rec0 a0 fid D #[p, q] assign body .busy none)) :: s1.bl)) hja (hjpa ρ'' ha2) (o' := rec0 a0 fid D #[p, q] assign body .busy none) rec0_loop E.old (fun k ob hk => by
      rw [look_cons] at hk
      by_cases e : jl = k
      · rw [if_pos e] at hk; cases hk; exact .inr (.inr ⟨e.symm, rfl⟩)
      · rw [if_neg e] at hk; exact .inr (.inl ⟨hk, fun e' => e e'.symm⟩))⟩
  refine wpIn_mono (hbod ρa Ma _ _ hrelb) ?_
  rintro e a' w' ⟨s2, ρ', M', hr2, hjb, hq⟩
  have hjp2 : ∀ ρ'', Agree (look s2.bl) ρ' ρ'' → ρ'' jl = .pointer (some ⟨l, 0, none⟩) := fun ρ'' ha => ((hr2 ρ'' ha).heap.names jl hjk).trans hpj
  have hw' : w'.heap[l]? = some (rec0 a0 fid D #[p, q] assign body .busy none) := by
    have := (hr2.at.heap.inv jl _ hjb).1
    rw [hjp2 ρ' (Agree.refl _ _)] at this
    exact this
  have fin : ∀ (s : LoopState) (pe : Option Code) (b : Bool), Rel (cxF C n1 M1 bl1 ρ1) (AState.F ⟨(d, .s (.c (.d (.v (.bool b))))) :: cur.sl, (jl, .obj (rec0 a0 fid D #[p, q] assign body s pe)) :: s2.bl, nx⟩) ρ' M' (a.put (some d) (.bool b)) (w'.putObj l (rec0 a0 fid D #[p, q] assign body s pe)) := by
    intro s pe b ρ'' ha
    have ha2 : Agree (look s2.bl) ρ' ρ'' := fun k hk => ha k (by
      show look ((jl, Ob.obj (rec0 a0 fid D #[p, q] assign body s pe)) :: s2.bl) k ≠ none
      rw [look_cons]
      by_cases e : jl = k
      · rw [if_pos e]; simp
      · rw [if_neg e]; exact hk)
    have h2 := hr2 ρ'' ha2
    have hac : Agree (look cur.bl) ρ ρ'' := fun k hk => h2.heap.names k hk
    have h1 := hr ρ'' hac
    have hle : M.le M' := h2.heap.base
    have hput : RelW (cxF C n1 M1 bl1 ρ1) (look ((jl, Ob.obj (rec0 a0 fid D #[p, q] assign body s pe)) :: s2.bl)) ρ'' M' (w'.putObj l (rec0 a0 fid D #[p, q] assign body s pe)) → Rel0 (cxF C n1 M1 bl1 ρ1) (AState.F ⟨(d, .s (.c (.d (.v (.bool b))))) :: cur.sl, (jl, .obj (rec0 a0 fid D #[p, q] assign body s pe)) :: s2.bl, nx⟩) ρ'' M' (a.put (some d) (.bool b)) (w'.putObj l (rec0 a0 fid D #[p, q] assign body s pe)) := fun hh => by
      have := Rel0.put (F := cur.F) h1 (Nat.lt_of_lt_of_le (Nat.lt_succ_self d) (Nat.le_of_ble_eq_true hd)) (v := .s (.c (.d (.v (.bool b))))) (.v _) hle hh
      rw [show cur.F.sl = look cur.sl from rfl, over_look] at this
      exact this
    refine hput ?_
    have hb := h2.heap.objSet (bl' := look ((jl, .obj (rec0 a0 fid D #[p, q] assign body s pe)) :: s2.bl)) hjb (hjp2 ρ'' ha2) (o' := rec0 a0 fid D #[p, q] assign body s pe) rec0_loop E.old (fun k ob hk => by
      rw [look_cons] at hk
      by_cases e : jl = k
      · rw [if_pos e] at hk; cases hk; exact .inr (.inr ⟨e.symm, rfl⟩)
      · rw [if_neg e] at hk; exact .inr (.inl ⟨hk, fun e' => e e'.symm⟩))
    refine ⟨hb.inv, hb.dist, hb.priv, hb.mem, h1.heap.base.trans hle, fun b hb' hg => ?_, hb.kept, h1.heap.names, hb.junkP⟩
    obtain ⟨g1, g2⟩ := hb.fresh b hb' hg
    obtain ⟨k1, k2⟩ := h1.heap.fresh b hb' hg
    exact ⟨fun o => (g1 o).trans (k1 o), g2.trans k2⟩
  cases e with
  | normal => exact ⟨_, _, run_endRound none hw', hq Q' hQ ρ' M' _ _ (fin .ready none true)⟩
  | ret => exact ⟨_, _, run_endRound (some .ret) hw', hq Q' hQ ρ' M' _ _ (fin .done (some .ret) false)⟩
  | exit id => exact ⟨_, _, run_endRound (some (.exit id)) hw', hq Q' hQ ρ' M' _ _ (fin .done (some (.exit id)) false)⟩
  | _ => exact hq.elim
theorem RelW.allocMark {bl : Nat → Option Ob} {ρ : Env} {M : Mem} {w : World} {o : Obj} (h : RelW C bl ρ M w) (ho : notCells o = true) : RelW C bl ρ (M.setO w.heap.size o) (w.alloc o):=by
 have hnone:=(h.mem.none (Nat.le_refl w.heap.size)).2
 refine h.change 0 (fun _=>False) (fun _ h=>h.elim) ⟨rfl,rfl,rfl,by rw [alloc_heap];simp⟩ (fun b hb _=>alloc_old hb) (Mem.setO_le (Mem.le_refl _) hnone) (fun b hb _=>⟨fun _=>rfl,Mem.setO_other (by omega)⟩) (fun b hb=>?_) (fun k ob hk=>.inr (.inl ⟨hk,fun _ _ h=>h⟩))
 rcases hb with hb | hb
 ·exact hb.elim
 ·have hn:=h.mem.none hb
  refine ⟨fun o' v hv=>?_,fun o' hv=>?_⟩
  ·have : M.cell b o' = some v:=hv
   rw [hn.1 o'] at this;cases this
  ·by_cases e : b = w.heap.size
   ·subst e
    rw [Mem.setO_same] at hv;cases hv
    exact ⟨alloc_new _ _,ho⟩
   ·rw [Mem.setO_other e,hn.2] at hv;cases hv
theorem loc_reps {ρ : Env} {M : Mem} : ∀ {l : List (Nat × Nat)},A1.reps ρ M (l.map (fun x=>.c (.loc x.1 x.2))) (l.map fun (x : Nat × Nat)=>Go.E2.ptr ρ x.1 x.2)
 | []=>trivial
 | _ :: _=>⟨rfl,loc_reps⟩
theorem Ok.rangeB {st : AState} {t : Nat} {p q : Nat} {assign body c1 : Code} {f : FuncId} {fn : Func} {caps : List (Nat × Nat)} {n1 jl nx1 nx : Nat} {Q : Exit → AState → Prop}
  [hT : HasTab P C] (hro : C.ro = none) (hg : rd st.F (.tmp t) = some (.c (.fn f caps))) (hs : sideOk st.F true [.tmp t])
  (hf : P.funcs[f]? = some fn) (hb : fn.body = some c1) (hnm : (fn.name == "runtime.NumGoroutine") = false) (hn : fn.ntmps = n1) (hres : fn.results.toList = []) (hj : look st.bl jl = none) (hn1 : Nat.ble (caps.length + 1) n1 = true)
  (H : ∀ (l : Nat) (ρ1 : Env) (M1 : Mem) (ob : LoopState → Option Code → Obj),HasTab P (cxF C n1 M1 ((jl,.obj (ob .ready none)) :: st.bl) ρ1) → LoopE C st #[p,q] assign body jl l ρ1 M1 ob →
   Ok P (cxF C n1 M1 ((jl,.obj (ob .ready none)) :: st.bl) ρ1) c1 (fun e s1=>(e = .ret ∨ e = .normal) ∧ ((look s1.bl jl = some (.obj (ob .ready none)) ∧ Q .normal ⟨st.sl,(jl,.dead) :: s1.bl,nx⟩) ∨ ∃ e' c,outOf e' = some c ∧ look s1.bl jl = some (.obj (ob .done (some c))) ∧ Q e' ⟨st.sl,(jl,.dead) :: s1.bl,nx⟩))
    ⟨startA 0 (.c (.d (.v (yl l))) :: caps.map (fun x=>.c (.loc x.1 x.2))),(jl,.obj (ob .ready none)) :: st.bl,nx1⟩) :
  Ok P C (.rangeFunc (.tmp t) #[p,q] assign body) Q st:=by
 subst hn
 intro ρ M a w hr
 rw [hro]
 have h0:=hr.at
 have hcl : ∀ ρ',Agree (look st.bl) ρ ρ' → a.eval (.tmp t) = .func (.func f) #[] (caps.map fun (x : Nat × Nat)=>Go.E2.ptr ρ' x.1 x.2).toArray:=fun ρ' ha=>reads_of (hr ρ' ha) rfl hs _ (by simp) _ hg
 refine wpIn_rangeFunc (fun fid _=>?_)
 have hro2 : (FR none).round = none:=rfl
 rw [hro2]
 have hlp : ∃ l,l = w.heap.size + 1:=⟨_,rfl⟩
 obtain ⟨l,hl⟩:=hlp
 let ob:=rec0 a fid w.heap.size #[p,q] assign body
 let ρ1 : Env:=fun k=>if k = jl then .pointer (some ⟨l,0,none⟩) else ρ k
 let M1:=M.setO w.heap.size (.deferred (some []))
 let W1:=(w.alloc (.deferred (some []))).alloc (ob .ready none)
 have hnone:=(h0.heap.mem.none (Nat.le_refl w.heap.size)).2
 have hle1 : M.le M1:=Mem.setO_le (Mem.le_refl _) hnone
 have hag : ∀ ρ',Agree (look ((jl,Ob.obj (ob .ready none)) :: st.bl)) ρ1 ρ' → Agree (look st.bl) ρ ρ' ∧ ρ' jl = .pointer (some ⟨l,0,none⟩):=fun ρ' ha=>by
  refine ⟨fun k hk=>?_,?_⟩
  ·have hne : jl ≠ k:=fun e=>hk (e ▸ hj)
   rw [ha k (by rw [look_cons,if_neg hne];exact hk)]
   exact if_neg (fun e=>hne e.symm)
  ·rw [ha jl (by rw [look_cons,if_pos rfl];simp)]
   exact if_pos rfl
 have hrel : ∀ ρ',Agree (look ((jl,Ob.obj (ob .ready none)) :: st.bl)) ρ1 ρ' → RelW C (look ((jl,Ob.obj (ob .ready none)) :: st.bl)) ρ' M1 W1:=fun ρ' ha=>by
  obtain ⟨h1,h2⟩:=hag ρ' ha
  have h3:=(hr ρ' h1).heap.allocMark (o:=.deferred (some [])) rfl
  have hsz : (w.alloc (.deferred (some []))).heap.size = l:=by rw [alloc_heap,hl];simp
  have:=h3.allocO (o:=ob .ready none) (ob:=.obj (ob .ready none)) (j:=jl) ⟨by rw [h2];show ((w.alloc (.deferred (some []))).alloc (ob .ready none)).heap[l]? = _;rw [← hsz];exact alloc_new _ _,by rw [h2];exact (h3.mem.none (by rw [hsz];exact Nat.le_refl l)).2,rec0_loop⟩ (fun b hb'=>by
   rw [h2] at hb';cases hb';rw [hsz];exact Nat.le_refl l)
  rw [show st.F.bl = look st.bl from rfl,over_look] at this
  exact this
 have hT1 : HasTab P (cxF C fn.ntmps M1 ((jl,.obj (ob .ready none)) :: st.bl) ρ1):=⟨(hT.tab.mono h0.heap.base).mono hle1⟩
 have hold : C.w0.heap.size ≤ w.heap.size:=h0.heap.kept.size
 have E : LoopE C st #[p,q] assign body jl l ρ1 M1 ob:=by
  refine ⟨if_pos rfl,⟨a,fid,w.heap.size,h0.size,fun ρ' ha s v hv=>?_,rfl⟩,by omega⟩
  have hag' : Agree (look st.bl) ρ ρ':=fun k hk=>by
   have hne : k ≠ jl:=fun e=>hk (e ▸ hj)
   rw [ha k hk];exact if_neg hne
  exact ((hr ρ' hag').slots s v hv).mono hle1
 let vs : List Value:=yl l :: caps.map fun (x : Nat × Nat)=>Go.E2.ptr ρ x.1 x.2
 have hcl0:=hcl ρ (Agree.refl _ _)
 refine ⟨l,[{ target:=.collected w.heap.size,args:=#[] }],W1,{ target:=.fn (.func f) (caps.map fun (x : Nat × Nat)=>Go.E2.ptr ρ x.1 x.2).toArray,args:=#[yl l] },W1,f,vs.toArray,W1,by rw [hl];exact run_enterLoop_outer _ _ _ _ _,?_,fun _ _=>trivial,?_,fun h=>Bool.noConfusion h,?_⟩
 ·simp only [resolve,hcl0]
  simp [go_sem,yl,Act.eval,Deferred.ofValue]
 ·have e1 : #[yl l] ++ (caps.map fun (x : Nat × Nat)=>Go.E2.ptr ρ x.1 x.2).toArray = vs.toArray:=by apply Array.ext';simp [vs]
  simp only [invoke,callFunc,e1]
  show (Sem.program _).run P W1 = _
  simp only [Sem.run,Sem.bind,hf]
  rw [if_neg (by rw [hnm];simp),if_neg (by rw [hb];simp)]
  rfl
 ·have hlen : vs.length ≤ fn.ntmps:=by
   have:=Nat.le_of_ble_eq_true hn1
   simp only [vs,List.length_cons,List.length_map]
   exact this
  have hstart : Rel (cxF C fn.ntmps M1 ((jl,.obj (ob .ready none)) :: st.bl) ρ1) (AState.F ⟨startA 0 (.c (.d (.v (yl l))) :: caps.map (fun x=>.c (.loc x.1 x.2))),(jl,.obj (ob .ready none)) :: st.bl,nx1⟩) ρ1 M1 { tmps:=vs.toArray ++ Array.replicate (fn.ntmps - vs.toArray.size) undef,defers:=[] } W1:=by
   intro ρ' ha
   have hR:=hrel ρ' ha
   obtain ⟨h1,h2⟩:=hag ρ' ha
   refine ⟨Marks.nil,?_,fun s v hv=>?_,⟨hR.inv,hR.dist,hR.priv,hR.mem,Mem.le_refl _,fun _ _ _=>⟨fun _=>rfl,rfl⟩,hR.kept,fun k hk=>ha k hk,hR.junkP⟩⟩
   ·show (vs.toArray ++ Array.replicate (fn.ntmps - vs.toArray.size) undef).size = fn.ntmps
    rw [Array.size_append,Array.size_replicate,List.size_toArray];omega
   ·have hcr : A1.reps ρ' M1 (.c (.d (.v (yl l))) :: caps.map (fun x=>.c (.loc x.1 x.2))) vs:=by
     refine ⟨Rep.v _,?_⟩
     have e:=(hcl ρ' h1).symm.trans hcl0
     have e2 : (caps.map fun (x : Nat × Nat)=>Go.E2.ptr ρ' x.1 x.2) = caps.map fun (x : Nat × Nat)=>Go.E2.ptr ρ x.1 x.2:=by
      injection e with _ _ e3
      simpa using e3
     show A1.reps ρ' M1 (caps.map (fun x=>.c (.loc x.1 x.2))) (caps.map fun (x : Nat × Nat)=>Go.E2.ptr ρ x.1 x.2)
     rw [← e2]
     exact loc_reps
    obtain ⟨u,_,q2,q3⟩:=startA_look _ vs 0 s v hcr hv
    simp only [Nat.sub_zero] at q2
    have hs' : s < vs.length:=(List.getElem?_eq_some_iff.1 q2).1
    rw [Array.getD_eq_getD_getElem?,Array.getElem?_append_left (by simpa using hs')]
    simpa [q2] using q3
  refine callsIn_of_wp_marks hf hb trivial (wpIn_mono (H l ρ1 M1 ob hT1 E ρ1 M1 _ _ hstart) ?_)
  rintro e a' w' ⟨s1,ρ',M',hr',he,hq⟩
  have fin : LeavesInM (FR none) 0 P fn a'.tmps (rangePost (FR none) 0 P l (sem C Q) { a with defers:=[{ target:=.collected w.heap.size,args:=#[] }] ++ a.defers }) a'.defers .returning w':=by
   refine marks_leave (C:=cxF C fn.ntmps M1 ((jl,.obj (ob .ready none)) :: st.bl) ρ1) (bl:=s1.F.bl) (S:=fun ρ''=>Agree s1.F.bl ρ' ρ'') a'.defers M' w' hr'.at.defers ⟨fun _ _ _ h=>h,fun _ _ _ h=>h,fun _ _ h=>h⟩ (fun ρ'' ha=>(hr' ρ'' ha).heap) ⟨ρ',Agree.refl _ _⟩ (fun M2 w2 hsim h2=>?_)
   have hR : Rel0 (cxF C fn.ntmps M1 ((jl,.obj (ob .ready none)) :: st.bl) ρ1) s1.F ρ' M2 { a' with defers:=[] } w2:=⟨Marks.nil,hr'.at.size,fun s x hx=>AV.rep.monoS hsim (hr'.at.slots s x hx),h2 ρ' (Agree.refl _ _)⟩
   obtain ⟨u,g1,_⟩:=resVal_run (P:=P) (v:=.tup []) hR (fn:=fn) (by rw [hres];rfl)
   refine ⟨u,g1,?_⟩
   have hjl : look ((jl,Ob.obj (ob .ready none)) :: st.bl) jl ≠ none:=by rw [look_cons,if_pos rfl];simp
   have hpj : ∀ ρ'',Agree s1.F.bl ρ' ρ'' → ρ'' jl = .pointer (some ⟨l,0,none⟩):=fun ρ'' ha=>((h2 ρ'' ha).names jl hjl).trans (if_pos rfl)
   have back : ∀ (s : LoopState) (pe : Option Code),look s1.bl jl = some (.obj (ob s pe)) → Rel C (AState.F ⟨st.sl,(jl,.dead) :: s1.bl,nx⟩) ρ' M2 { a with defers:=[{ target:=.collected w.heap.size,args:=#[] }] ++ a.defers } (w2.putObj l (ob .exhausted pe)):=by
    intro s pe hjs ρ'' ha
    have ha2 : Agree s1.F.bl ρ' ρ'':=fun k hk=>ha k (by
     show look ((jl,Ob.dead) :: s1.bl) k ≠ none
     rw [look_cons]
     by_cases e : jl = k
     ·rw [if_pos e];simp
     ·rw [if_neg e];exact hk)
    have hW:=h2 ρ'' ha2
    have hst : Agree (look st.bl) ρ ρ'':=fun k hk=>by
     have hne : k ≠ jl:=fun e=>hk (e ▸ hj)
     rw [hW.names k (by show look ((jl,Ob.obj (ob .ready none)) :: st.bl) k ≠ none;rw [look_cons,if_neg (fun e=>hne e.symm)];exact hk)]
     exact if_neg hne
    have h1:=hr ρ'' hst
    have hle2 : M1.le M2:=hW.base
    have hb':=hW.objSet (bl':=look ((jl,.dead) :: s1.bl)) hjs (hpj ρ'' ha2) (o':=ob .exhausted pe) rec0_loop (by show C.w0.heap.size ≤ l;omega) (fun k o hk=>by
     rw [look_cons] at hk
     by_cases e : jl = k
     ·rw [if_pos e] at hk;cases hk;exact .inl rfl
     ·rw [if_neg e] at hk;exact .inr (.inl ⟨hk,fun e'=>e e'.symm⟩))
    refine ⟨⟨List.nodup_cons.2 ⟨fun hm=>?_,h1.defers.nd⟩,fun d hd=>?_⟩,h1.size,fun s v hv=>(h1.slots s v hv).mono (hle1.trans hle2),⟨hb'.inv,hb'.dist,hb'.priv,hb'.mem,(h1.heap.base.trans hle1).trans hle2,fun b hbb hg'=>?_,hb'.kept,h1.heap.names,hb'.junkP⟩⟩
    ·obtain ⟨D',e1,e2,_⟩:=h1.defers.all _ hm
     cases e1
     rw [hnone] at e2;cases e2
    ·rcases List.mem_cons.1 hd with rfl | hd
     ·refine ⟨w.heap.size,rfl,hle2.obj _ _ (Mem.setO_same _ _ _),hold,?_⟩
      cases hm0 : C.M0.obj w.heap.size with
      | none=>rfl
      | some o=>have:=h0.heap.base.obj _ _ hm0;rw [hnone] at this;cases this
     ·obtain ⟨D',e1,e2,e3,e4⟩:=h1.defers.all d hd
      exact ⟨D',e1,(hle1.trans hle2).obj _ _ e2,e3,e4⟩
    ·obtain ⟨k1,k2⟩:=hb'.fresh b hbb hg'
     obtain ⟨k3,k4⟩:=h1.heap.fresh b hbb hg'
     have k5 : M1.obj b = M.obj b:=Mem.setO_other (by have : b < C.w0.heap.size:=hbb;omega)
     exact ⟨fun o=>(k1 o).trans (k3 o),k2.trans (k5.trans k4)⟩
   have hw2 : ∀ (s : LoopState) (pe : Option Code),look s1.bl jl = some (.obj (ob s pe)) → w2.heap[l]? = some (ob s pe):=fun s pe hjs=>by
    have:=((h2 ρ' (Agree.refl _ _)).inv jl _ hjs).1
    rw [hpj ρ' (Agree.refl _ _)] at this
    exact this
   rcases hq with ⟨hjs,hq⟩ | ⟨e',c,ho,hjs,hq⟩
   ·exact ⟨none,_,run_endLoop (hw2 _ _ hjs) (by simp),⟨_,ρ',M2,back _ _ hjs,hq⟩⟩
   ·refine ⟨some c,_,run_endLoop (hw2 _ _ hjs) (by simp),?_⟩
    have hsem : sem C Q e' { a with defers:=[{ target:=.collected w.heap.size,args:=#[] }] ++ a.defers } (w2.putObj l (ob .exhausted (some c))):=⟨_,ρ',M2,back _ _ hjs,hq⟩
    cases e' with
    | ret=>cases ho;exact wpIn_ret hsem
    | exit id=>cases ho;exact wpIn_exit hsem
    | _=>cases ho
  rcases he with rfl | rfl
  ·exact fin
  ·exact fin
theorem dom_cons {jl : Nat} {o : Ob} {bl : List (Nat × Ob)} : ∀ k,look bl k ≠ none → look ((jl,o) :: bl) k ≠ none:=fun k hk=>by
 rw [look_cons]
 by_cases e : jl = k
 ·rw [if_pos e];simp
 ·rw [if_neg e];exact hk
theorem dom_self {jl : Nat} {o : Ob} {bl : List (Nat × Ob)} : look ((jl,o) :: bl) jl ≠ none:=by rw [look_cons,if_pos rfl];simp
end Go.E2
end
section
namespace Go.E2
variable {P : Program} {C : Ctx} {F : FS} {ops : Array Oper} {dst : Nat} {op : Op} {ty : TypeId} {pos : String} {after : Array Edge}
end Go.E2
end
section
namespace Go.E2
variable {P : Program} {C : Ctx} {F : FS} {ops : Array Oper} {dst : Nat} {op : Op} {ty : TypeId} {pos : String} {after : Array Edge}
def keptOk (F : FS) : List (Nat × Ob) → Prop
 | []=>True
 | (k,o) :: r=>F.bl k = some o ∧ keptOk F r
theorem keptOk_over {F F' : FS} : ∀ {Wb : List (Nat × Ob)},keptOk F Wb → (∀ k ∈ Wb.map (·.1),F'.bl k = F.bl k) → over Wb F'.bl = F'.bl
 | [],_,_=>over_nil _
 | (k,o) :: r,h,hs=>by
  have ih:=keptOk_over h.2 (fun j hj=>hs j (by simp [hj]))
  funext n
  unfold over at ih ⊢
  rw [look_cons]
  by_cases e : k = n
  ·subst e;rw [if_pos rfl];simp only;rw [hs k (by simp),h.1]
  ·rw [if_neg e];exact congrFun ih n
theorem TriL.keep {o : Oper} {rs rb ws wb : List Nat} {Ws : List (Nat × AV)} {Wb : List (Nat × Ob)} (h : TriL P C ops o ⟨rs,rb,ws,wb⟩ Ws Wb F) (hk : keptOk F Wb) : TriL P C ops o ⟨rs,rb ++ Wb.map (·.1),ws,[]⟩ Ws [] F:=by
 refine ⟨⟨h.1.1,rfl⟩,fun F' hS=>?_⟩
 have h2:=h.2 F' ⟨hS.1,fun j hj=>hS.2 j (List.mem_append_left _ hj)⟩
 have e : F'.upd Ws Wb = F'.upd Ws []:=by
  unfold FS.upd
  rw [keptOk_over hk (fun k hk'=>hS.2 k (List.mem_append_right _ hk')),over_nil]
 rw [← e];exact h2
theorem TriL.guard {op : Op} {gk d : Nat} {want g : Bool} {rs rb : List Nat} {x : A1} (hb : guardB F ops gk want = some g) (hn : Nat.blt d C.n = true) (h : g = true → TriL P C ops ⟨some d,op,ty,pos,after,none⟩ ⟨rs,rb,[d],[]⟩ [(d,.s x)] [] F) :
  TriL P C ops ⟨some d,op,ty,pos,after,some (gk,want)⟩ ⟨gSlot ops gk ++ rs,rb,[d],[]⟩ [(d,.gd g x)] [] F:=by
 refine ⟨⟨rfl,rfl⟩,fun F' hS=>?_⟩
 have hb':=(guardB_same (want:=want) (fun t ht=>hS.1 t (by simp [ht]))).trans hb
 intro Q' K' hK ρ M a w hr
 cases g with
 | false =>
  rw [guardB_wanted hr.at rfl hb',if_neg (by simp)]
  refine hK ρ M _ _ fun ρ' ha=>?_
  have h0:=hr ρ' (fun j hj=>ha j (by rw [FS.upd,over_nil];exact hj))
  exact h0.put (v:=.gd false x) (Nat.blt_eq.mp hn) rfl (Mem.le_refl _) (by rw [over_nil];exact h0.heap)
 | true =>
  rw [guardB_wanted hr.at rfl hb',if_pos rfl]
  have h3:=(h rfl).2 F' ⟨fun t ht=>hS.1 t (List.mem_append_right _ ht),hS.2⟩ Q' K' (fun ρ1 M1 a1 w1 hr1=>hK ρ1 M1 a1 w1 (fun ρ' ha=>?_)) ρ M a w hr
  ·rw [if_pos (wanted_none rfl)] at h3
   exact h3
  ·have h0:=hr1 ρ' ha
   refine ⟨h0.defers,h0.size,fun s v hv=>?_,h0.heap⟩
   simp only [FS.upd,over_one] at hv
   split at hv
   ·cases hv
    exact h0.slots s (.s x) (by simp only [FS.upd,over_one];rename_i e;rw [if_pos e])
   ·rename_i e
    exact h0.slots s v (by simp only [FS.upd,over_one];rw [if_neg e];exact hv)
end Go.E2
end
section
namespace Go.E2
open Go.RowKit (Below)
variable {P : Program}
theorem InW.below {M : Mem} {w w' : World} (h : InW M w) (hb : Below w.heap.size w w') : InW M w':=by
 refine ⟨fun b o v hc=>?_,fun b o ho=>?_,fun b s hs=>?_⟩
 ·have h1:=h.cell b o v hc
  have hl:=h.lt hc
  unfold World.cell? at h1 ⊢
  simp only at h1 ⊢
  rw [hb.block b hl];exact h1
 ·obtain ⟨h1,h2⟩:=h.obj b o ho
  exact ⟨(hb.block b (h.ltO ho)).trans h1,h2⟩
 ·obtain ⟨⟨arr,ty,h1,h2⟩,h3⟩:=h.junk b s hs
  exact ⟨⟨arr,ty,(hb.block b (h.ltJ hs)).trans h1,h2⟩,h3⟩
end Go.E2
end
section
set_option maxRecDepth 100000
namespace Go.Proofs.YtfoigppmcelgfaaDoor
open Go Go.E2
theorem ge_within_c (p_n : Int) (most : Int) {r : Bool} (hr : ge_within p_n most = some r) : Con Tryd.prog 80 [aI p_n,aI most] [] (.s (aB r)) []:=by
 unfold ge_within at hr
 refine Con.of_ok 14 0 [.tmp 4] [(0,.s (aI p_n)),(1,.s (aI most))] Tryd.func80 rfl rfl rfl rfl rfl rfl rfl rfl fun w g M ρ _=>(Ok.seq (Ok.region (OkOps.y (aB false) (OkOps.nil (Ok.seq (Ok.region (OkOps.y (aI p_n) (OkOps.y (aI most) (OkOps.y (aI (IntKind.i64.wrap (0 - most))) (OkOps.y (aB (decide (p_n ≥ (IntKind.i64.wrap (0 - most))))) (OkOps.y (aB (decide (p_n ≥ (IntKind.i64.wrap (0 - most))))) (OkOps.q (triQG (x:=aI p_n) rfl rfl trivial rfl) (OkOps.q (triQG (x:=aI most) rfl rfl trivial rfl) (OkOps.q (triQG (x:=aB (decide (p_n ≤ most))) rfl rfl ⟨fun h=>h,⟨fun h=>h,trivial⟩⟩ rfl) (OkOps.q (triAnd rfl rfl (fun h=>h) rfl) ?_)))))))))))))))
 refine OkOps.y (aB ((decide (p_n ≥ (IntKind.i64.wrap (0 - most)))) && (decide (p_n ≤ most)))) (OkOps.nil (Ok.ret ?_))
 obtain rfl:=Option.some.inj hr
 exact ⟨_,rfl,.inl rfl,trivial⟩
theorem ge_Validate_c (p_r : Rect) {r : Int} (hr : ge_Validate p_r = some r) : Con Tryd.prog 53 [.agg [cI p_r.X,cI p_r.Y,cI p_r.W,cI p_r.H]] [] (.s (aI r)) []:=by
 unfold ge_Validate at hr
 refine Con.of_ok 33 0 [.tmp 2] [(0,.s (.agg [cI p_r.X,cI p_r.Y,cI p_r.W,cI p_r.H]))] Tryd.func53 rfl rfl rfl rfl rfl rfl rfl rfl fun w g M ρ _=>(Ok.seq (Ok.region (OkOps.m 0 (triBox (j:=0) (cs:=[cI p_r.X,cI p_r.Y,cI p_r.W,cI p_r.H]) rfl rfl rfl rfl rfl) (OkOps.y (aI 0) (OkOps.nil (Ok.seq (Ok.seq (Ok.region (OkOps.y (.c (.loc 0 0)) (OkOps.y (aI p_r.X) ?_))))))))))
 obtain ⟨x1,hx1,hr⟩:=bind_some hr
 refine OkOps.q (triCl (tau []) (.s (aB x1)) [] (ge_within_c _ _ hx1) rfl ⟨.inl rfl,.inl rfl,trivial⟩ trivial entry80 trivial) (OkOps.y (aB (!x1)) (OkOps.y (aB (!x1)) (OkOps.q (triQG (x:=.c (.loc 0 1)) rfl rfl trivial rfl) (OkOps.q (triQG (x:=aI p_r.Y) rfl rfl ⟨fun h=>h,trivial⟩ rfl) ?_))))
 obtain ⟨x2,hx2,hr⟩:=bind_some hr
 refine OkOps.q (triCallG (x:=aB x2) (fun hg=>ge_within_c _ _ (gO_t hx2 hg)) rfl rfl ⟨.inl rfl,.inl rfl,trivial⟩ ⟨fun h=>h,trivial⟩ entry80 rfl rfl rfl) (OkOps.q (triQG (x:=aB (!x2)) rfl rfl ⟨fun h=>h,trivial⟩ rfl) ?_)
 refine OkOps.q (triOr rfl rfl (fun h=>by rw [h];rfl) rfl) ?_
 refine OkOps.y (aB ((!x1) || (!x2))) (OkOps.q (triQG (x:=.c (.loc 0 2)) rfl rfl trivial rfl) (OkOps.q (triQG (x:=aI p_r.W) rfl rfl ⟨fun h=>h,trivial⟩ rfl) (OkOps.q (triQG (x:=aB (decide (p_r.W < 0))) rfl rfl ⟨fun h=>h,trivial⟩ rfl) ?_)))
 refine OkOps.q (triOr rfl rfl (fun h=>by rw [h];rfl) rfl) ?_
 refine OkOps.y (aB (((!x1) || (!x2)) || (decide (p_r.W < 0)))) (OkOps.q (triQG (x:=.c (.loc 0 2)) rfl rfl trivial rfl) (OkOps.q (triQG (x:=aI p_r.W) rfl rfl ⟨fun h=>h,trivial⟩ rfl) (OkOps.q (triQG (x:=aB (decide (p_r.W > 1048576))) rfl rfl ⟨fun h=>h,trivial⟩ rfl) ?_)))
 refine OkOps.q (triOr rfl rfl (fun h=>by rw [h];rfl) rfl) ?_
 refine OkOps.y (aB ((((!x1) || (!x2)) || (decide (p_r.W < 0))) || (decide (p_r.W > 1048576)))) (OkOps.q (triQG (x:=.c (.loc 0 3)) rfl rfl trivial rfl) (OkOps.q (triQG (x:=aI p_r.H) rfl rfl ⟨fun h=>h,trivial⟩ rfl) (OkOps.q (triQG (x:=aB (decide (p_r.H < 0))) rfl rfl ⟨fun h=>h,trivial⟩ rfl) ?_)))
 refine OkOps.q (triOr rfl rfl (fun h=>by rw [h];rfl) rfl) ?_
 refine OkOps.y (aB (((((!x1) || (!x2)) || (decide (p_r.W < 0))) || (decide (p_r.W > 1048576))) || (decide (p_r.H < 0)))) (OkOps.q (triQG (x:=.c (.loc 0 3)) rfl rfl trivial rfl) (OkOps.q (triQG (x:=aI p_r.H) rfl rfl ⟨fun h=>h,trivial⟩ rfl) (OkOps.q (triQG (x:=aB (decide (p_r.H > 1048576))) rfl rfl ⟨fun h=>h,trivial⟩ rfl) ?_)))
 refine OkOps.q (triOr rfl rfl (fun h=>by rw [h];rfl) rfl) ?_
 refine OkOps.nil ?_
 refine Ok.cond (b:=(((((!x1) || (!x2)) || (decide (p_r.W < 0))) || (decide (p_r.W > 1048576))) || (decide (p_r.H < 0))) || (decide (p_r.H > 1048576))) rfl (fun h3=>?_) (fun h3=>?_)
 have hr:=selT h3 hr
 refine Ok.seq (Ok.region (OkOps.y (aI 1) (OkOps.nil (Ok.ret ?_))))
 obtain rfl:=Option.some.inj hr
 exact ⟨_,rfl,.inl rfl,trivial⟩
 have hr:=selF h3 hr
 refine Ok.skip (Ok.seq (Ok.region (OkOps.y (aI 0) (OkOps.nil (Ok.ret ?_)))))
 obtain rfl:=Option.some.inj hr
 exact ⟨_,rfl,.inl rfl,trivial⟩
theorem ge_valid_c (p_r : Rect) {r : Rect} (hr : ge_valid p_r = some r) : Con Tryd.prog 83 [.agg [cI p_r.X,cI p_r.Y,cI p_r.W,cI p_r.H]] [] (.s (.agg [cI r.X,cI r.Y,cI r.W,cI r.H])) []:=by
 unfold ge_valid at hr
 refine Con.of_ok 8 0 [.cell 2 32] [(0,.s (.agg [cI p_r.X,cI p_r.Y,cI p_r.W,cI p_r.H]))] Tryd.func83 rfl rfl rfl rfl rfl rfl rfl rfl fun w g M ρ _=>(Ok.seq (Ok.region (OkOps.m 0 (triBox (j:=0) (cs:=[cI p_r.X,cI p_r.Y,cI p_r.W,cI p_r.H]) rfl rfl rfl rfl rfl) (OkOps.m 0 (triAlloc (j:=1) (cs:=[cI 0,cI 0,cI 0,cI 0]) rfl rfl rfl rfl) (OkOps.nil (Ok.seq (Ok.seq (Ok.region (OkOps.y (.agg [cI p_r.X,cI p_r.Y,cI p_r.W,cI p_r.H]) ?_)))))))))
 obtain ⟨x1,hx1,hr⟩:=bind_some hr
 refine OkOps.q (triCl (tau []) (.s (aI x1)) [] (ge_Validate_c _ hx1) rfl ⟨.inl rfl,trivial⟩ trivial entry53 trivial) (OkOps.y (aB (x1 != 0)) (OkOps.nil ?_))
 refine Ok.cond (b:=x1 != 0) rfl (fun h2=>?_) (fun h2=>?_)
 have hr:=selT h2 hr
 refine Ok.seq (Ok.region (OkOps.y (.agg [cI 0,cI 0,cI 0,cI 0]) (OkOps.w (triStore (cs':=[cI 0,cI 0,cI 0,cI 0]) rfl rfl rfl rfl rfl rfl rfl rfl rfl) (OkOps.nil (Ok.ret ?_)))))
 obtain rfl:=Option.some.inj hr
 exact ⟨_,rfl,.inl rfl,trivial⟩
 have hr:=selF h2 hr
 refine Ok.skip (Ok.seq (Ok.region (OkOps.y (.agg [cI p_r.X,cI p_r.Y,cI p_r.W,cI p_r.H]) (OkOps.w (triStore (cs':=[cI p_r.X,cI p_r.Y,cI p_r.W,cI p_r.H]) rfl rfl rfl rfl rfl rfl rfl rfl rfl) (OkOps.nil (Ok.ret ?_))))))
 obtain rfl:=Option.some.inj hr
 exact ⟨_,rfl,.inl rfl,trivial⟩
theorem ge_Contains_c (p_r : Rect) (p : Point) {r : Bool} (hr : ge_Contains p_r p = some r) : Con Tryd.prog 59 [.agg [cI p_r.X,cI p_r.Y,cI p_r.W,cI p_r.H],.agg [cI p.X,cI p.Y]] [] (.s (aB r)) []:=by
 unfold ge_Contains at hr
 refine Con.of_ok 39 0 [.tmp 4] [(0,.s (.agg [cI p_r.X,cI p_r.Y,cI p_r.W,cI p_r.H])),(1,.s (.agg [cI p.X,cI p.Y]))] Tryd.func59 rfl rfl rfl rfl rfl rfl rfl rfl fun w g M ρ _=>(Ok.seq (Ok.region (OkOps.m 0 (triBox (j:=0) (cs:=[cI p_r.X,cI p_r.Y,cI p_r.W,cI p_r.H]) rfl rfl rfl rfl rfl) (OkOps.m 0 (triBox (j:=1) (cs:=[cI p.X,cI p.Y]) rfl rfl rfl rfl rfl) (OkOps.y (aB false) (OkOps.nil (Ok.seq (Ok.region (OkOps.y (.agg [cI p_r.X,cI p_r.Y,cI p_r.W,cI p_r.H]) ?_)))))))))
 obtain ⟨x1,hx1,hr⟩:=bind_some hr
 refine OkOps.q (triCl (tau []) (.s (.agg [cI x1.X,cI x1.Y,cI x1.W,cI x1.H])) [] (ge_valid_c _ hx1) rfl ⟨.inl rfl,trivial⟩ trivial entry83 trivial) (OkOps.w (triStore (cs':=[cI x1.X,cI x1.Y,cI x1.W,cI x1.H]) rfl rfl rfl rfl rfl rfl rfl rfl rfl) (OkOps.nil (Ok.seq (Ok.region (OkOps.y (.c (.loc 0 0)) (OkOps.y (aI x1.X) (OkOps.y (.c (.loc 1 0)) (OkOps.y (aI p.X) (OkOps.y (aB (decide (x1.X ≤ p.X))) (OkOps.y (aB (decide (x1.X ≤ p.X))) (OkOps.q (triQG (x:=.c (.loc 1 0)) rfl rfl trivial rfl) (OkOps.q (triQG (x:=aI p.X) rfl rfl ⟨fun h=>h,trivial⟩ rfl) (OkOps.q (triQG (x:=.c (.loc 0 0)) rfl rfl trivial rfl) (OkOps.q (triQG (x:=aI x1.X) rfl rfl ⟨fun h=>h,trivial⟩ rfl) (OkOps.q (triQG (x:=.c (.loc 0 2)) rfl rfl trivial rfl) ?_)))))))))))))))
 refine OkOps.q (triQG (x:=aI x1.W) rfl rfl ⟨fun h=>h,trivial⟩ rfl) (OkOps.q (triQG (x:=aI (IntKind.i64.wrap (x1.X + x1.W))) rfl rfl ⟨fun h=>h,⟨fun h=>h,trivial⟩⟩ rfl) (OkOps.q (triQG (x:=aB (decide (p.X < (IntKind.i64.wrap (x1.X + x1.W))))) rfl rfl ⟨fun h=>h,⟨fun h=>h,trivial⟩⟩ rfl) (OkOps.q (triAnd rfl rfl (fun h=>h) rfl) (OkOps.y (aB ((decide (x1.X ≤ p.X)) && (decide (p.X < (IntKind.i64.wrap (x1.X + x1.W)))))) (OkOps.q (triQG (x:=.c (.loc 0 1)) rfl rfl trivial rfl) (OkOps.q (triQG (x:=aI x1.Y) rfl rfl ⟨fun h=>h,trivial⟩ rfl) (OkOps.q (triQG (x:=.c (.loc 1 1)) rfl rfl trivial rfl) (OkOps.q (triQG (x:=aI p.Y) rfl rfl ⟨fun h=>h,trivial⟩ rfl) (OkOps.q (triQG (x:=aB (decide (x1.Y ≤ p.Y))) rfl rfl ⟨fun h=>h,⟨fun h=>h,trivial⟩⟩ rfl) (OkOps.q (triAnd rfl rfl (fun h=>h) rfl) (OkOps.y (aB (((decide (x1.X ≤ p.X)) && (decide (p.X < (IntKind.i64.wrap (x1.X + x1.W))))) && (decide (x1.Y ≤ p.Y)))) (OkOps.q (triQG (x:=.c (.loc 1 1)) rfl rfl trivial rfl) (OkOps.q (triQG (x:=aI p.Y) rfl rfl ⟨fun h=>h,trivial⟩ rfl) (OkOps.q (triQG (x:=.c (.loc 0 1)) rfl rfl trivial rfl) (OkOps.q (triQG (x:=aI x1.Y) rfl rfl ⟨fun h=>h,trivial⟩ rfl) ?_)))))))))))))))
 refine OkOps.q (triQG (x:=.c (.loc 0 3)) rfl rfl trivial rfl) (OkOps.q (triQG (x:=aI x1.H) rfl rfl ⟨fun h=>h,trivial⟩ rfl) (OkOps.q (triQG (x:=aI (IntKind.i64.wrap (x1.Y + x1.H))) rfl rfl ⟨fun h=>h,⟨fun h=>h,trivial⟩⟩ rfl) (OkOps.q (triQG (x:=aB (decide (p.Y < (IntKind.i64.wrap (x1.Y + x1.H))))) rfl rfl ⟨fun h=>h,⟨fun h=>h,trivial⟩⟩ rfl) (OkOps.q (triAnd rfl rfl (fun h=>h) rfl) (OkOps.y (aB ((((decide (x1.X ≤ p.X)) && (decide (p.X < (IntKind.i64.wrap (x1.X + x1.W))))) && (decide (x1.Y ≤ p.Y))) && (decide (p.Y < (IntKind.i64.wrap (x1.Y + x1.H)))))) (OkOps.nil (Ok.ret ?_)))))))
 obtain rfl:=Option.some.inj hr
 exact ⟨_,rfl,.inl rfl,trivial⟩
theorem ge_Check_c (t : Transform) {r : Int} (hr : ge_Check t = some r) : Con Tryd.prog 56 [.agg [cI t.Turn,cB_ t.Mirror,cI t.Scale,cI t.DX,cI t.DY]] [] (.s (aI r)) []:=by
 unfold ge_Check at hr
 refine Con.of_ok 33 0 [.tmp 2] [(0,.s (.agg [cI t.Turn,cB_ t.Mirror,cI t.Scale,cI t.DX,cI t.DY]))] Tryd.func56 rfl rfl rfl rfl rfl rfl rfl rfl fun w g M ρ _=>(Ok.seq (Ok.region (OkOps.m 0 (triBox (j:=0) (cs:=[cI t.Turn,cB_ t.Mirror,cI t.Scale,cI t.DX,cI t.DY]) rfl rfl rfl rfl rfl) (OkOps.y (aI 0) (OkOps.nil (Ok.seq (Ok.seq (Ok.region (OkOps.y (.c (.loc 0 0)) (OkOps.y (aI t.Turn) (OkOps.y (aB (decide (t.Turn < 0))) (OkOps.y (aB (decide (t.Turn < 0))) (OkOps.q (triQG (x:=.c (.loc 0 0)) rfl rfl trivial rfl) (OkOps.q (triQG (x:=aI t.Turn) rfl rfl ⟨fun h=>h,trivial⟩ rfl) (OkOps.q (triQG (x:=aB (decide (t.Turn > 3))) rfl rfl ⟨fun h=>h,trivial⟩ rfl) ?_)))))))))))))))
 refine OkOps.q (triOr rfl rfl (fun h=>by rw [h];rfl) rfl) ?_
 refine OkOps.y (aB ((decide (t.Turn < 0)) || (decide (t.Turn > 3)))) (OkOps.q (triQG (x:=.c (.loc 0 2)) rfl rfl trivial rfl) (OkOps.q (triQG (x:=aI t.Scale) rfl rfl ⟨fun h=>h,trivial⟩ rfl) (OkOps.q (triQG (x:=aB (decide (t.Scale < 1))) rfl rfl ⟨fun h=>h,trivial⟩ rfl) ?_)))
 refine OkOps.q (triOr rfl rfl (fun h=>by rw [h];rfl) rfl) ?_
 refine OkOps.y (aB (((decide (t.Turn < 0)) || (decide (t.Turn > 3))) || (decide (t.Scale < 1)))) (OkOps.q (triQG (x:=.c (.loc 0 2)) rfl rfl trivial rfl) (OkOps.q (triQG (x:=aI t.Scale) rfl rfl ⟨fun h=>h,trivial⟩ rfl) (OkOps.q (triQG (x:=aB (decide (t.Scale > 16))) rfl rfl ⟨fun h=>h,trivial⟩ rfl) ?_)))
 refine OkOps.q (triOr rfl rfl (fun h=>by rw [h];rfl) rfl) ?_
 refine OkOps.y (aB ((((decide (t.Turn < 0)) || (decide (t.Turn > 3))) || (decide (t.Scale < 1))) || (decide (t.Scale > 16)))) (OkOps.q (triQG (x:=.c (.loc 0 3)) rfl rfl trivial rfl) (OkOps.q (triQG (x:=aI t.DX) rfl rfl ⟨fun h=>h,trivial⟩ rfl) ?_))
 obtain ⟨x1,hx1,hr⟩:=bind_some hr
 refine OkOps.q (triCallG (x:=aB x1) (fun hg=>ge_within_c _ _ (gO_t hx1 hg)) rfl rfl ⟨.inl rfl,.inl rfl,trivial⟩ ⟨fun h=>h,trivial⟩ entry80 rfl rfl rfl) (OkOps.q (triQG (x:=aB (!x1)) rfl rfl ⟨fun h=>h,trivial⟩ rfl) ?_)
 refine OkOps.q (triOr rfl rfl (fun h=>by rw [h];rfl) rfl) ?_
 refine OkOps.y (aB (((((decide (t.Turn < 0)) || (decide (t.Turn > 3))) || (decide (t.Scale < 1))) || (decide (t.Scale > 16))) || (!x1))) (OkOps.q (triQG (x:=.c (.loc 0 4)) rfl rfl trivial rfl) (OkOps.q (triQG (x:=aI t.DY) rfl rfl ⟨fun h=>h,trivial⟩ rfl) ?_))
 obtain ⟨x2,hx2,hr⟩:=bind_some hr
 refine OkOps.q (triCallG (x:=aB x2) (fun hg=>ge_within_c _ _ (gO_t hx2 hg)) rfl rfl ⟨.inl rfl,.inl rfl,trivial⟩ ⟨fun h=>h,trivial⟩ entry80 rfl rfl rfl) (OkOps.q (triQG (x:=aB (!x2)) rfl rfl ⟨fun h=>h,trivial⟩ rfl) ?_)
 refine OkOps.q (triOr rfl rfl (fun h=>by rw [h];rfl) rfl) ?_
 refine OkOps.nil ?_
 refine Ok.cond (b:=(((((decide (t.Turn < 0)) || (decide (t.Turn > 3))) || (decide (t.Scale < 1))) || (decide (t.Scale > 16))) || (!x1)) || (!x2)) rfl (fun h3=>?_) (fun h3=>?_)
 have hr:=selT h3 hr
 refine Ok.seq (Ok.region (OkOps.y (aI 1) (OkOps.nil (Ok.ret ?_))))
 obtain rfl:=Option.some.inj hr
 exact ⟨_,rfl,.inl rfl,trivial⟩
 have hr:=selF h3 hr
 refine Ok.skip (Ok.seq (Ok.region (OkOps.y (aI 0) (OkOps.nil (Ok.ret ?_)))))
 obtain rfl:=Option.some.inj hr
 exact ⟨_,rfl,.inl rfl,trivial⟩
theorem ge_floor_c (a : Int) (b : Int) {r : Int} (hr : ge_floor a b = some r) : Con Tryd.prog 82 [aI a,aI b] [] (.s (aI r)) []:=by
 unfold ge_floor at hr
 refine Con.of_ok 16 0 [.tmp 4] [(0,.s (aI a)),(1,.s (aI b))] Tryd.func82 rfl rfl rfl rfl rfl rfl rfl rfl fun w g M ρ _=>(Ok.seq (Ok.region (OkOps.y (aI 0) (OkOps.nil (Ok.seq (Ok.region (OkOps.y (aI a) (OkOps.y (aI b) ?_))))))))
 obtain ⟨x1,hx1,hr⟩:=bind_some hr
 refine OkOps.q (triQuo hx1 rfl rfl trivial rfl) (OkOps.y (aI x1) (OkOps.nil ?_))
 obtain ⟨k3,hk3,hr⟩:=jn_some hr
 refine Ok.join (fun (s2 : Int)=>⟨[(5,.s (aI s2))],[],0⟩) k3 r (fun s2 hr=>?_) ?_
 rw [hk3] at hr
 refine Ok.seq (Ok.region (OkOps.y (aI s2) (OkOps.y (aI s2) (OkOps.nil (Ok.ret ?_)))))
 obtain rfl:=Option.some.inj hr
 exact ⟨_,rfl,.inl rfl,trivial⟩
 clear hk3
 refine Ok.seq (Ok.region (OkOps.y (aI a) (OkOps.y (aI b) ?_)))
 obtain ⟨x4,hx4,hr⟩:=bind_some hr
 refine OkOps.q (triRem hx4 rfl rfl trivial rfl) (OkOps.y (aB (decide (x4 < 0))) (OkOps.nil ?_))
 refine Ok.cond (b:=decide (x4 < 0)) rfl (fun h5=>?_) (fun h5=>?_)
 have hr:=selT h5 hr
 refine Ok.region (OkOps.y (aI x1) (OkOps.y (aI (IntKind.i64.wrap (x1 - 1))) (OkOps.y (aI (IntKind.i64.wrap (x1 - 1))) (OkOps.nil ?_))))
 exact ⟨IntKind.i64.wrap (x1 - 1),hr,(Conv.mk (tau []) ⟨⟨_,rfl,.inl rfl⟩,trivial⟩ trivial rfl rfl rfl rfl)⟩
 have hr:=selF h5 hr
 refine Ok.skip ?_
 exact ⟨x1,hr,(Conv.mk (tau []) ⟨⟨_,rfl,.inl rfl⟩,trivial⟩ trivial rfl rfl rfl rfl)⟩
theorem ge_Back_c (t : Transform) (p : Point) {r : Point} (hr : ge_Back t p = some r) : Con Tryd.prog 57 [.agg [cI t.Turn,cB_ t.Mirror,cI t.Scale,cI t.DX,cI t.DY],.agg [cI p.X,cI p.Y]] [] (.s (.agg [cI r.X,cI r.Y])) []:=by
 unfold ge_Back at hr
 refine Con.of_ok 61 0 [.cell 4 51] [(0,.s (.agg [cI t.Turn,cB_ t.Mirror,cI t.Scale,cI t.DX,cI t.DY])),(1,.s (.agg [cI p.X,cI p.Y]))] Tryd.func57 rfl rfl rfl rfl rfl rfl rfl rfl fun w g M ρ _=>(Ok.seq (Ok.region (OkOps.m 0 (triBox (j:=0) (cs:=[cI t.Turn,cB_ t.Mirror,cI t.Scale,cI t.DX,cI t.DY]) rfl rfl rfl rfl rfl) (OkOps.m 0 (triBox (j:=1) (cs:=[cI p.X,cI p.Y]) rfl rfl rfl rfl rfl) (OkOps.m 0 (triAlloc (j:=2) (cs:=[cI 0,cI 0]) rfl rfl rfl rfl) (OkOps.nil (Ok.seq (Ok.seq (Ok.region (OkOps.y (.agg [cI t.Turn,cB_ t.Mirror,cI t.Scale,cI t.DX,cI t.DY]) ?_))))))))))
 obtain ⟨x1,hx1,hr⟩:=bind_some hr
 refine OkOps.q (triCl (tau []) (.s (aI x1)) [] (ge_Check_c _ hx1) rfl ⟨.inl rfl,trivial⟩ trivial entry56 trivial) (OkOps.y (aB (x1 != 0)) (OkOps.y (aB (x1 != 0)) (OkOps.q (triQG (x:=.c (.loc 1 0)) rfl rfl trivial rfl) (OkOps.q (triQG (x:=aI p.X) rfl rfl ⟨fun h=>h,trivial⟩ rfl) ?_))))
 obtain ⟨x2,hx2,hr⟩:=bind_some hr
 refine OkOps.q (triCallG (x:=aB x2) (fun hg=>ge_within_c _ _ (gO_t hx2 hg)) rfl rfl ⟨.inl rfl,.inl rfl,trivial⟩ ⟨fun h=>h,trivial⟩ entry80 rfl rfl rfl) (OkOps.q (triQG (x:=aB (!x2)) rfl rfl ⟨fun h=>h,trivial⟩ rfl) ?_)
 refine OkOps.q (triOr rfl rfl (fun h=>by rw [h];rfl) rfl) ?_
 refine OkOps.y (aB ((x1 != 0) || (!x2))) (OkOps.q (triQG (x:=.c (.loc 1 1)) rfl rfl trivial rfl) (OkOps.q (triQG (x:=aI p.Y) rfl rfl ⟨fun h=>h,trivial⟩ rfl) ?_))
 obtain ⟨x3,hx3,hr⟩:=bind_some hr
 refine OkOps.q (triCallG (x:=aB x3) (fun hg=>ge_within_c _ _ (gO_t hx3 hg)) rfl rfl ⟨.inl rfl,.inl rfl,trivial⟩ ⟨fun h=>h,trivial⟩ entry80 rfl rfl rfl) (OkOps.q (triQG (x:=aB (!x3)) rfl rfl ⟨fun h=>h,trivial⟩ rfl) ?_)
 refine OkOps.q (triOr rfl rfl (fun h=>by rw [h];rfl) rfl) ?_
 refine OkOps.nil ?_
 refine Ok.cond (b:=((x1 != 0) || (!x2)) || (!x3)) rfl (fun h4=>?_) (fun h4=>?_)
 have hr:=selT h4 hr
 refine Ok.seq (Ok.region (OkOps.y (.agg [cI 0,cI 0]) (OkOps.w (triStore (cs':=[cI 0,cI 0]) rfl rfl rfl rfl rfl rfl rfl rfl rfl) (OkOps.nil (Ok.ret ?_)))))
 obtain rfl:=Option.some.inj hr
 exact ⟨_,rfl,.inl rfl,trivial⟩
 have hr:=selF h4 hr
 refine Ok.skip (Ok.seq (Ok.regionD (by kernel_rfl) (OkD.x (.c (.loc 1 0)) rfl trivial rfl (OkD.x (aI p.X) rfl trivial rfl (OkD.x (.c (.loc 0 3)) rfl trivial rfl (OkD.x (aI t.DX) rfl trivial rfl (OkD.x (aI (IntKind.i64.wrap (p.X - t.DX))) rfl trivial rfl (OkD.x (.c (.loc 0 2)) rfl trivial rfl (OkD.x (aI t.Scale) rfl trivial rfl ?_)))))))))
 obtain ⟨x5,hx5,hr⟩:=bind_some hr
 refine OkD.q (triCl (tau []) (.s (aI x5)) [] (ge_floor_c _ _ hx5) rfl ⟨.inl rfl,.inl rfl,trivial⟩ trivial entry82 trivial) (OkD.x (.c (.loc 1 1)) rfl trivial rfl (OkD.x (aI p.Y) rfl trivial rfl (OkD.x (.c (.loc 0 4)) rfl trivial rfl (OkD.x (aI t.DY) rfl trivial rfl (OkD.x (aI (IntKind.i64.wrap (p.Y - t.DY))) rfl trivial rfl (OkD.x (.c (.loc 0 2)) rfl trivial rfl (OkD.x (aI t.Scale) rfl trivial rfl ?_)))))))
 obtain ⟨x6,hx6,hr⟩:=bind_some hr
 refine OkD.q (triCl (tau []) (.s (aI x6)) [] (ge_floor_c _ _ hx6) rfl ⟨.inl rfl,.inl rfl,trivial⟩ trivial entry82 trivial) (OkD.x (.agg [cI x5,cI x6]) rfl trivial rfl (OkD.m 0 (triAlloc (j:=3) (cs:=[cI 0,cI 0]) rfl rfl rfl rfl) (OkD.w (triStore (cs':=[cI x5,cI x6]) rfl rfl rfl rfl rfl rfl rfl rfl rfl) (OkD.nil (by kernel_rfl) ?_))))
 obtain ⟨k8,hk8,hr⟩:=jn_some hr
 refine Ok.join (fun (s7 : Int × Int)=>⟨[(2,.s (.c (.loc 0 0))),(4,.s (.c (.loc 2 0))),(5,.s (.c (.loc 3 0)))],[(0,.blk [cI t.Turn,cB_ t.Mirror,cI t.Scale,cI t.DX,cI t.DY] 123),(2,.blk [cI 0,cI 0] 51),(3,.blk [cI s7.1,cI s7.2] 51)],0⟩) k8 r (fun s7 hr=>?_) ?_
 rw [hk8] at hr
 obtain ⟨k10,hk10,hr⟩:=jn_some hr
 refine Ok.join (fun (s9 : Int)=>⟨[(4,.s (.c (.loc 2 0))),(5,.s (.c (.loc 3 0)))],[(2,.blk [cI 0,cI 0] 51),(3,.blk [cI s9,cI s7.2] 51)],0⟩) k10 r (fun s9 hr=>?_) ?_
 rw [hk10] at hr
 refine Ok.seq (Ok.region (OkOps.y (.agg [cI s9,cI s7.2]) (OkOps.w (triStore (cs':=[cI s9,cI s7.2]) rfl rfl rfl rfl rfl rfl rfl rfl rfl) (OkOps.nil (Ok.ret ?_)))))
 obtain rfl:=Option.some.inj hr
 exact ⟨_,rfl,.inl rfl,trivial⟩
 clear hk10
 refine Ok.seq (Ok.region (OkOps.y (.c (.loc 0 1)) (OkOps.y (aB t.Mirror) (OkOps.nil ?_))))
 refine Ok.cond (b:=t.Mirror) rfl (fun h11=>?_) (fun h11=>?_)
 have hr:=selT h11 hr
 refine Ok.region (OkOps.y (.c (.loc 3 0)) (OkOps.y (aI s7.1) (OkOps.y (aI (IntKind.i64.wrap (0 - s7.1))) (OkOps.y (aI (IntKind.i64.wrap ((IntKind.i64.wrap (0 - s7.1)) - 1))) (OkOps.y (.c (.loc 3 0)) (OkOps.w (triStore (cs':=[cI (IntKind.i64.wrap ((IntKind.i64.wrap (0 - s7.1)) - 1)),cI s7.2]) rfl rfl rfl rfl rfl rfl rfl rfl rfl) (OkOps.nil ?_)))))))
 exact ⟨IntKind.i64.wrap ((IntKind.i64.wrap (0 - s7.1)) - 1),hr,(Conv.mk (tau []) ⟨⟨_,rfl,.inl rfl⟩,⟨_,rfl,.inl rfl⟩,trivial⟩ ⟨rfl,rfl,trivial⟩ rfl rfl rfl rfl)⟩
 have hr:=selF h11 hr
 refine Ok.skip ?_
 exact ⟨s7.1,hr,(Conv.mk (tau []) ⟨⟨_,rfl,.inl rfl⟩,⟨_,rfl,.inl rfl⟩,trivial⟩ ⟨rfl,rfl,trivial⟩ rfl rfl rfl rfl)⟩
 clear hk8
 refine Ok.seq (Ok.region (OkOps.y (aI 0) (OkOps.nil (Ok.block (Ok.loopK (fun (s12 : Int × Int × Int)=>⟨[(2,.s (.c (.loc 0 0))),(4,.s (.c (.loc 2 0))),(5,.s (.c (.loc 3 0))),(6,.s (aI s12.1))],[(0,.blk [cI t.Turn,cB_ t.Mirror,cI t.Scale,cI t.DX,cI t.DY] 123),(2,.blk [cI 0,cI 0] 51),(3,.blk [cI s12.2.1,cI s12.2.2] 51)],0⟩) hr (Conv.mk (tau []) ⟨⟨_,rfl,.inl rfl⟩,⟨_,rfl,.inl rfl⟩,⟨_,rfl,.inl rfl⟩,⟨_,rfl,.inl rfl⟩,trivial⟩ ⟨rfl,rfl,rfl,trivial⟩ rfl rfl rfl rfl) ?_)))))
 clear hr
 intro again13 s12 hr
 unfold ge_Back_L1 at hr
 refine Ok.seq (Ok.seq (Ok.region (OkOps.y (aI s12.1) (OkOps.y (.c (.loc 0 0)) (OkOps.y (aI t.Turn) (OkOps.y (aB (decide (s12.1 < t.Turn))) (OkOps.nil ?_)))))))
 refine Ok.cond (b:=decide (s12.1 < t.Turn)) rfl (fun h14=>?_) (fun h14=>?_)
 have hr:=selT h14 hr
 refine Ok.skip (Ok.seq (Ok.block (Ok.region (OkOps.y (.c (.loc 3 1)) (OkOps.y (aI s12.2.2) (OkOps.y (.c (.loc 3 0)) (OkOps.y (aI s12.2.1) (OkOps.y (aI (IntKind.i64.wrap (0 - s12.2.1))) (OkOps.y (aI (IntKind.i64.wrap ((IntKind.i64.wrap (0 - s12.2.1)) - 1))) (OkOps.y (.agg [cI s12.2.2,cI (IntKind.i64.wrap ((IntKind.i64.wrap (0 - s12.2.1)) - 1))]) (OkOps.w (triStore (cs':=[cI s12.2.2,cI (IntKind.i64.wrap ((IntKind.i64.wrap (0 - s12.2.1)) - 1))]) rfl rfl rfl rfl rfl rfl rfl rfl rfl) (OkOps.nil (Ok.region (OkOps.y (aI s12.1) (OkOps.y (aI (IntKind.i64.wrap (s12.1 + 1))) ?_)))))))))))))))
 refine OkOps.y (aI (IntKind.i64.wrap (s12.1 + 1))) (OkOps.nil ?_)
 exact ⟨(IntKind.i64.wrap (s12.1 + 1),s12.2.2,IntKind.i64.wrap ((IntKind.i64.wrap (0 - s12.2.1)) - 1)),hr,(Conv.mk (tau []) ⟨⟨_,rfl,.inl rfl⟩,⟨_,rfl,.inl rfl⟩,⟨_,rfl,.inl rfl⟩,⟨_,rfl,.inl rfl⟩,trivial⟩ ⟨rfl,rfl,rfl,trivial⟩ rfl rfl rfl rfl)⟩
 have hr:=selF h14 hr
 refine Ok.exit ?_
 exact ⟨(s12.2.1,s12.2.2),hr,(Conv.mk (tau []) ⟨⟨_,rfl,.inl rfl⟩,⟨_,rfl,.inl rfl⟩,⟨_,rfl,.inl rfl⟩,trivial⟩ ⟨rfl,rfl,rfl,trivial⟩ rfl rfl rfl rfl)⟩
theorem widgetry_style_exists_c (prop : Int) {r : Bool} (hr : widgetry_style_exists prop = some r) : Con Tryd.prog 79 [aI prop] [] (.s (aB r)) []:=by
 unfold widgetry_style_exists at hr
 refine Con.of_ok 9 0 [.tmp 2] [(0,.s (aI prop))] Tryd.func79 rfl rfl rfl rfl rfl rfl rfl rfl fun w g M ρ _=>(Ok.seq (Ok.region (OkOps.y (aB false) (OkOps.nil (Ok.seq (Ok.region (OkOps.y (aI prop) (OkOps.y (aB (decide (prop ≥ 0))) (OkOps.y (aB (decide (prop ≥ 0))) (OkOps.q (triQG (x:=aI prop) rfl rfl trivial rfl) (OkOps.q (triQG (x:=aB (decide (prop < 22))) rfl rfl ⟨fun h=>h,trivial⟩ rfl) (OkOps.q (triAnd rfl rfl (fun h=>h) rfl) (OkOps.y (aB ((decide (prop ≥ 0)) && (decide (prop < 22)))) (OkOps.nil (Ok.ret ?_)))))))))))))))
 obtain rfl:=Option.some.inj hr
 exact ⟨_,rfl,.inl rfl,trivial⟩
theorem widgetry_style_InRange_c (prop : Int) (p_n : Int) {r : Bool} (hr : widgetry_style_InRange prop p_n = some r) : Con Tryd.prog 52 [aI prop,aI p_n] [] (.s (aB r)) []:=by
 unfold widgetry_style_InRange at hr
 refine Con.of_ok 23 0 [.tmp 4] [(0,.s (aI prop)),(1,.s (aI p_n))] Tryd.func52 rfl rfl rfl rfl rfl rfl rfl rfl fun w g M ρ _=>(Ok.seq (Ok.region (OkOps.y (aB false) (OkOps.nil (Ok.seq (Ok.region (OkOps.y (aI prop) ?_)))))))
 obtain ⟨x1,hx1,hr⟩:=bind_some hr
 refine OkOps.q (triCl (tau []) (.s (aB x1)) [] (widgetry_style_exists_c _ hx1) rfl ⟨.inl rfl,trivial⟩ trivial entry79 trivial) (OkOps.y (aB x1) (OkOps.q (triQG (x:=aI p_n) rfl rfl trivial rfl) (OkOps.q (triQG (x:=aI prop) rfl rfl trivial rfl) ?_)))
 obtain ⟨x2,hx2,hr⟩:=bind_some hr
 refine OkOps.q (triStyG (y:=x2) (fun hg=>gO_t hx2 hg) (by kernel_rfl) rfl rfl rfl ⟨fun h=>h,trivial⟩ rfl) (OkOps.q (triQG (x:=.c (.pt [dI x2.2.1,dI x2.2.2.1,dI x2.2.2.2])) rfl rfl ⟨fun h=>h,trivial⟩ rfl) (OkOps.q (triQG (x:=aI x2.2.1) rfl rfl ⟨fun h=>h,trivial⟩ rfl) (OkOps.q (triQG (x:=aB (decide (p_n ≥ x2.2.1))) rfl rfl ⟨fun h=>h,⟨fun h=>h,trivial⟩⟩ rfl) (OkOps.q (triAnd rfl rfl (fun h=>h) rfl) (OkOps.y (aB (x1 && (decide (p_n ≥ x2.2.1)))) (OkOps.q (triQG (x:=aI p_n) rfl rfl trivial rfl) (OkOps.q (triQG (x:=aI prop) rfl rfl trivial rfl) ?_)))))))
 obtain ⟨x3,hx3,hr⟩:=bind_some hr
 refine OkOps.q (triStyG (y:=x3) (fun hg=>gO_t hx3 hg) (by kernel_rfl) rfl rfl rfl ⟨fun h=>h,trivial⟩ rfl) (OkOps.q (triQG (x:=.c (.pt [dI x3.2.2.1,dI x3.2.2.2])) rfl rfl ⟨fun h=>h,trivial⟩ rfl) (OkOps.q (triQG (x:=aI x3.2.2.1) rfl rfl ⟨fun h=>h,trivial⟩ rfl) (OkOps.q (triQG (x:=aB (decide (p_n ≤ x3.2.2.1))) rfl rfl ⟨fun h=>h,⟨fun h=>h,trivial⟩⟩ rfl) (OkOps.q (triAnd rfl rfl (fun h=>h) rfl) (OkOps.y (aB ((x1 && (decide (p_n ≥ x2.2.1))) && (decide (p_n ≤ x3.2.2.1)))) (OkOps.nil (Ok.ret ?_)))))))
 obtain rfl:=Option.some.inj hr
 exact ⟨_,rfl,.inl rfl,trivial⟩
theorem r02_within_c (p_x : Int) (p_n : Int) {r : Bool} (hr : r02_within p_x p_n = some r) : Con Tryd.prog 50 [aI p_x,aI p_n] [] (.s (aB r)) []:=by
 unfold r02_within at hr
 refine Con.of_ok 14 0 [.tmp 4] [(0,.s (aI p_x)),(1,.s (aI p_n))] Tryd.func50 rfl rfl rfl rfl rfl rfl rfl rfl fun w g M ρ _=>(Ok.seq (Ok.region (OkOps.y (aB false) (OkOps.nil (Ok.seq (Ok.region (OkOps.y (aI p_x) (OkOps.y (aI p_n) (OkOps.y (aI (IntKind.i64.wrap (0 - p_n))) (OkOps.y (aB (decide (p_x ≥ (IntKind.i64.wrap (0 - p_n))))) (OkOps.y (aB (decide (p_x ≥ (IntKind.i64.wrap (0 - p_n))))) (OkOps.q (triQG (x:=aI p_x) rfl rfl trivial rfl) (OkOps.q (triQG (x:=aI p_n) rfl rfl trivial rfl) (OkOps.q (triQG (x:=aB (decide (p_x ≤ p_n))) rfl rfl ⟨fun h=>h,⟨fun h=>h,trivial⟩⟩ rfl) (OkOps.q (triAnd rfl rfl (fun h=>h) rfl) ?_)))))))))))))))
 refine OkOps.y (aB ((decide (p_x ≥ (IntKind.i64.wrap (0 - p_n)))) && (decide (p_x ≤ p_n)))) (OkOps.nil (Ok.ret ?_))
 obtain rfl:=Option.some.inj hr
 exact ⟨_,rfl,.inl rfl,trivial⟩
theorem r02_ValidRect_c (p_r : Rect) {r : Bool} (hr : r02_ValidRect p_r = some r) : Con Tryd.prog 27 [.agg [cI p_r.X,cI p_r.Y,cI p_r.W,cI p_r.H]] [] (.s (aB r)) []:=by
 unfold r02_ValidRect at hr
 refine Con.of_ok 31 0 [.tmp 2] [(0,.s (.agg [cI p_r.X,cI p_r.Y,cI p_r.W,cI p_r.H]))] Tryd.func27 rfl rfl rfl rfl rfl rfl rfl rfl fun w g M ρ _=>(Ok.seq (Ok.region (OkOps.m 0 (triBox (j:=0) (cs:=[cI p_r.X,cI p_r.Y,cI p_r.W,cI p_r.H]) rfl rfl rfl rfl rfl) (OkOps.y (aB false) (OkOps.nil (Ok.seq (Ok.region (OkOps.y (.c (.loc 0 0)) (OkOps.y (aI p_r.X) ?_)))))))))
 obtain ⟨x1,hx1,hr⟩:=bind_some hr
 refine OkOps.q (triCl (tau []) (.s (aB x1)) [] (r02_within_c _ _ hx1) rfl ⟨.inl rfl,.inl rfl,trivial⟩ trivial entry50 trivial) (OkOps.y (aB x1) (OkOps.q (triQG (x:=.c (.loc 0 1)) rfl rfl trivial rfl) (OkOps.q (triQG (x:=aI p_r.Y) rfl rfl ⟨fun h=>h,trivial⟩ rfl) ?_)))
 obtain ⟨x2,hx2,hr⟩:=bind_some hr
 refine OkOps.q (triCallG (x:=aB x2) (fun hg=>r02_within_c _ _ (gO_t hx2 hg)) rfl rfl ⟨.inl rfl,.inl rfl,trivial⟩ ⟨fun h=>h,trivial⟩ entry50 rfl rfl rfl) (OkOps.q (triAnd rfl rfl (fun h=>h) rfl) (OkOps.y (aB (x1 && x2)) (OkOps.q (triQG (x:=.c (.loc 0 2)) rfl rfl trivial rfl) (OkOps.q (triQG (x:=aI p_r.W) rfl rfl ⟨fun h=>h,trivial⟩ rfl) (OkOps.q (triQG (x:=aB (decide (p_r.W ≥ 0))) rfl rfl ⟨fun h=>h,trivial⟩ rfl) (OkOps.q (triAnd rfl rfl (fun h=>h) rfl) (OkOps.y (aB ((x1 && x2) && (decide (p_r.W ≥ 0)))) (OkOps.q (triQG (x:=.c (.loc 0 2)) rfl rfl trivial rfl) (OkOps.q (triQG (x:=aI p_r.W) rfl rfl ⟨fun h=>h,trivial⟩ rfl) (OkOps.q (triQG (x:=aB (decide (p_r.W ≤ 1048576))) rfl rfl ⟨fun h=>h,trivial⟩ rfl) (OkOps.q (triAnd rfl rfl (fun h=>h) rfl) (OkOps.y (aB (((x1 && x2) && (decide (p_r.W ≥ 0))) && (decide (p_r.W ≤ 1048576)))) (OkOps.q (triQG (x:=.c (.loc 0 3)) rfl rfl trivial rfl) (OkOps.q (triQG (x:=aI p_r.H) rfl rfl ⟨fun h=>h,trivial⟩ rfl) (OkOps.q (triQG (x:=aB (decide (p_r.H ≥ 0))) rfl rfl ⟨fun h=>h,trivial⟩ rfl) ?_)))))))))))))))
 refine OkOps.q (triAnd rfl rfl (fun h=>h) rfl) (OkOps.y (aB ((((x1 && x2) && (decide (p_r.W ≥ 0))) && (decide (p_r.W ≤ 1048576))) && (decide (p_r.H ≥ 0)))) (OkOps.q (triQG (x:=.c (.loc 0 3)) rfl rfl trivial rfl) (OkOps.q (triQG (x:=aI p_r.H) rfl rfl ⟨fun h=>h,trivial⟩ rfl) (OkOps.q (triQG (x:=aB (decide (p_r.H ≤ 1048576))) rfl rfl ⟨fun h=>h,trivial⟩ rfl) (OkOps.q (triAnd rfl rfl (fun h=>h) rfl) (OkOps.y (aB (((((x1 && x2) && (decide (p_r.W ≥ 0))) && (decide (p_r.W ≤ 1048576))) && (decide (p_r.H ≥ 0))) && (decide (p_r.H ≤ 1048576)))) (OkOps.nil (Ok.ret ?_))))))))
 obtain rfl:=Option.some.inj hr
 exact ⟨_,rfl,.inl rfl,trivial⟩
theorem r02_Contains_c (p_r : Rect) (p : Point) {r : Bool} (hr : r02_Contains p_r p = some r) : Con Tryd.prog 12 [.agg [cI p_r.X,cI p_r.Y,cI p_r.W,cI p_r.H],.agg [cI p.X,cI p.Y]] [] (.s (aB r)) []:=by
 unfold r02_Contains at hr
 refine Con.of_ok 41 0 [.tmp 4] [(0,.s (.agg [cI p_r.X,cI p_r.Y,cI p_r.W,cI p_r.H])),(1,.s (.agg [cI p.X,cI p.Y]))] Tryd.func12 rfl rfl rfl rfl rfl rfl rfl rfl fun w g M ρ _=>(Ok.seq (Ok.region (OkOps.m 0 (triBox (j:=0) (cs:=[cI p_r.X,cI p_r.Y,cI p_r.W,cI p_r.H]) rfl rfl rfl rfl rfl) (OkOps.m 0 (triBox (j:=1) (cs:=[cI p.X,cI p.Y]) rfl rfl rfl rfl rfl) (OkOps.y (aB false) (OkOps.nil (Ok.seq (Ok.region (OkOps.y (.agg [cI p_r.X,cI p_r.Y,cI p_r.W,cI p_r.H]) ?_)))))))))
 obtain ⟨x1,hx1,hr⟩:=bind_some hr
 refine OkOps.q (triCl (tau []) (.s (aB x1)) [] (r02_ValidRect_c _ hx1) rfl ⟨.inl rfl,trivial⟩ trivial entry27 trivial) (OkOps.y (aB x1) (OkOps.q (triQG (x:=.c (.loc 0 0)) rfl rfl trivial rfl) (OkOps.q (triQG (x:=aI p_r.X) rfl rfl ⟨fun h=>h,trivial⟩ rfl) (OkOps.q (triQG (x:=.c (.loc 1 0)) rfl rfl trivial rfl) (OkOps.q (triQG (x:=aI p.X) rfl rfl ⟨fun h=>h,trivial⟩ rfl) (OkOps.q (triQG (x:=aB (decide (p_r.X ≤ p.X))) rfl rfl ⟨fun h=>h,⟨fun h=>h,trivial⟩⟩ rfl) (OkOps.q (triAnd rfl rfl (fun h=>h) rfl) (OkOps.y (aB (x1 && (decide (p_r.X ≤ p.X)))) (OkOps.q (triQG (x:=.c (.loc 1 0)) rfl rfl trivial rfl) (OkOps.q (triQG (x:=aI p.X) rfl rfl ⟨fun h=>h,trivial⟩ rfl) (OkOps.q (triQG (x:=.c (.loc 0 0)) rfl rfl trivial rfl) (OkOps.q (triQG (x:=aI p_r.X) rfl rfl ⟨fun h=>h,trivial⟩ rfl) (OkOps.q (triQG (x:=.c (.loc 0 2)) rfl rfl trivial rfl) (OkOps.q (triQG (x:=aI p_r.W) rfl rfl ⟨fun h=>h,trivial⟩ rfl) (OkOps.q (triQG (x:=aI (IntKind.i64.wrap (p_r.X + p_r.W))) rfl rfl ⟨fun h=>h,⟨fun h=>h,trivial⟩⟩ rfl) ?_)))))))))))))))
 refine OkOps.q (triQG (x:=aB (decide (p.X < (IntKind.i64.wrap (p_r.X + p_r.W))))) rfl rfl ⟨fun h=>h,⟨fun h=>h,trivial⟩⟩ rfl) (OkOps.q (triAnd rfl rfl (fun h=>h) rfl) (OkOps.y (aB ((x1 && (decide (p_r.X ≤ p.X))) && (decide (p.X < (IntKind.i64.wrap (p_r.X + p_r.W)))))) (OkOps.q (triQG (x:=.c (.loc 0 1)) rfl rfl trivial rfl) (OkOps.q (triQG (x:=aI p_r.Y) rfl rfl ⟨fun h=>h,trivial⟩ rfl) (OkOps.q (triQG (x:=.c (.loc 1 1)) rfl rfl trivial rfl) (OkOps.q (triQG (x:=aI p.Y) rfl rfl ⟨fun h=>h,trivial⟩ rfl) (OkOps.q (triQG (x:=aB (decide (p_r.Y ≤ p.Y))) rfl rfl ⟨fun h=>h,⟨fun h=>h,trivial⟩⟩ rfl) (OkOps.q (triAnd rfl rfl (fun h=>h) rfl) (OkOps.y (aB (((x1 && (decide (p_r.X ≤ p.X))) && (decide (p.X < (IntKind.i64.wrap (p_r.X + p_r.W))))) && (decide (p_r.Y ≤ p.Y)))) (OkOps.q (triQG (x:=.c (.loc 1 1)) rfl rfl trivial rfl) (OkOps.q (triQG (x:=aI p.Y) rfl rfl ⟨fun h=>h,trivial⟩ rfl) (OkOps.q (triQG (x:=.c (.loc 0 1)) rfl rfl trivial rfl) (OkOps.q (triQG (x:=aI p_r.Y) rfl rfl ⟨fun h=>h,trivial⟩ rfl) (OkOps.q (triQG (x:=.c (.loc 0 3)) rfl rfl trivial rfl) (OkOps.q (triQG (x:=aI p_r.H) rfl rfl ⟨fun h=>h,trivial⟩ rfl) ?_)))))))))))))))
 refine OkOps.q (triQG (x:=aI (IntKind.i64.wrap (p_r.Y + p_r.H))) rfl rfl ⟨fun h=>h,⟨fun h=>h,trivial⟩⟩ rfl) (OkOps.q (triQG (x:=aB (decide (p.Y < (IntKind.i64.wrap (p_r.Y + p_r.H))))) rfl rfl ⟨fun h=>h,⟨fun h=>h,trivial⟩⟩ rfl) (OkOps.q (triAnd rfl rfl (fun h=>h) rfl) (OkOps.y (aB ((((x1 && (decide (p_r.X ≤ p.X))) && (decide (p.X < (IntKind.i64.wrap (p_r.X + p_r.W))))) && (decide (p_r.Y ≤ p.Y))) && (decide (p.Y < (IntKind.i64.wrap (p_r.Y + p_r.H)))))) (OkOps.nil (Ok.ret ?_)))))
 obtain rfl:=Option.some.inj hr
 exact ⟨_,rfl,.inl rfl,trivial⟩
theorem r17_Initial_c  {r : (Nat → Int)} (hr : r17_Initial  = some r) : Con Tryd.prog 9 [] [] (.s (.agg [cI (r 0),cI (r 1),cI (r 2),cI (r 3),cI (r 4),cI (r 5),cI (r 6),cI (r 7),cI (r 8),cI (r 9),cI (r 10),cI (r 11),cI (r 12),cI (r 13),cI (r 14),cI (r 15),cI (r 16),cI (r 17),cI (r 18),cI (r 19),cI (r 20),cI (r 21)])) []:=by
 unfold r17_Initial at hr
 refine Con.of_ok 11 0 [.cell 0 38] [] Tryd.func9 rfl rfl rfl rfl rfl rfl rfl rfl fun w g M ρ _=>(Ok.seq (Ok.region (OkOps.m 0 (triAlloc (j:=0) (cs:=([] ++ (arrC 22 (dInt .i64) (fun _=>0) ++ []))) rfl rfl rfl rfl) (OkOps.nil (Ok.seq (Ok.region (OkOps.m 0 (triAlloc (j:=1) (cs:=([] ++ (arrC 22 (dInt .i64) (fun _=>0) ++ []))) rfl rfl rfl rfl) (OkOps.nil (Ok.seq (Ok.region (OkOps.y (.c (.loc 1 1)) (OkOps.w (triStore (cs':=([] ++ (arrC 22 (dInt .i64) (upd (fun _=>0) 1 (-1)) ++ []))) rfl rfl rfl rfl rfl rfl rfl rfl rfl) (OkOps.nil (Ok.seq (Ok.region ?_)))))))))))))))
 refine OkOps.y (.c (.loc 1 2)) (OkOps.w (triStore (cs':=([] ++ (arrC 22 (dInt .i64) (upd (upd (fun _=>0) 1 (-1)) 2 16) ++ []))) rfl rfl rfl rfl rfl rfl rfl rfl rfl) (OkOps.nil (Ok.seq (Ok.region (OkOps.y (.c (.loc 1 5)) (OkOps.w (triStore (cs':=([] ++ (arrC 22 (dInt .i64) (upd (upd (upd (fun _=>0) 1 (-1)) 2 16) 5 1) ++ []))) rfl rfl rfl rfl rfl rfl rfl rfl rfl) (OkOps.nil (Ok.seq (Ok.region (OkOps.y (.c (.loc 1 6)) (OkOps.w (triStore (cs':=([] ++ (arrC 22 (dInt .i64) (upd (upd (upd (upd (fun _=>0) 1 (-1)) 2 16) 5 1) 6 3) ++ []))) rfl rfl rfl rfl rfl rfl rfl rfl rfl) (OkOps.nil (Ok.seq (Ok.region (OkOps.y (.c (.loc 1 11)) ?_)))))))))))))))
 refine OkOps.w (triStore (cs':=([] ++ (arrC 22 (dInt .i64) (upd (upd (upd (upd (upd (fun _=>0) 1 (-1)) 2 16) 5 1) 6 3) 11 1) ++ []))) rfl rfl rfl rfl rfl rfl rfl rfl rfl) (OkOps.nil (Ok.seq (Ok.region (OkOps.y (.c (.loc 1 12)) (OkOps.w (triStore (cs':=([] ++ (arrC 22 (dInt .i64) (upd (upd (upd (upd (upd (upd (fun _=>0) 1 (-1)) 2 16) 5 1) 6 3) 11 1) 12 (-1)) ++ []))) rfl rfl rfl rfl rfl rfl rfl rfl rfl) (OkOps.nil (Ok.seq (Ok.region (OkOps.y (.c (.loc 1 14)) (OkOps.w (triStore (cs':=([] ++ (arrC 22 (dInt .i64) (upd (upd (upd (upd (upd (upd (upd (fun _=>0) 1 (-1)) 2 16) 5 1) 6 3) 11 1) 12 (-1)) 14 1048576) ++ []))) rfl rfl rfl rfl rfl rfl rfl rfl rfl) (OkOps.nil (Ok.seq (Ok.region (OkOps.y (.c (.loc 1 16)) (OkOps.w (triStore (cs':=([] ++ (arrC 22 (dInt .i64) (upd (upd (upd (upd (upd (upd (upd (upd (fun _=>0) 1 (-1)) 2 16) 5 1) 6 3) 11 1) 12 (-1)) 14 1048576) 16 1048576) ++ []))) rfl rfl rfl rfl rfl rfl rfl rfl rfl) ?_)))))))))))))))
 refine OkOps.nil (Ok.seq (Ok.region (OkOps.y (.agg [cI ((upd (upd (upd (upd (upd (upd (upd (upd (fun _=>0) 1 (-1)) 2 16) 5 1) 6 3) 11 1) 12 (-1)) 14 1048576) 16 1048576) 0),cI ((upd (upd (upd (upd (upd (upd (upd (upd (fun _=>0) 1 (-1)) 2 16) 5 1) 6 3) 11 1) 12 (-1)) 14 1048576) 16 1048576) 1),cI ((upd (upd (upd (upd (upd (upd (upd (upd (fun _=>0) 1 (-1)) 2 16) 5 1) 6 3) 11 1) 12 (-1)) 14 1048576) 16 1048576) 2),cI ((upd (upd (upd (upd (upd (upd (upd (upd (fun _=>0) 1 (-1)) 2 16) 5 1) 6 3) 11 1) 12 (-1)) 14 1048576) 16 1048576) 3),cI ((upd (upd (upd (upd (upd (upd (upd (upd (fun _=>0) 1 (-1)) 2 16) 5 1) 6 3) 11 1) 12 (-1)) 14 1048576) 16 1048576) 4),cI ((upd (upd (upd (upd (upd (upd (upd (upd (fun _=>0) 1 (-1)) 2 16) 5 1) 6 3) 11 1) 12 (-1)) 14 1048576) 16 1048576) 5),cI ((upd (upd (upd (upd (upd (upd (upd (upd (fun _=>0) 1 (-1)) 2 16) 5 1) 6 3) 11 1) 12 (-1)) 14 1048576) 16 1048576) 6),cI ((upd (upd (upd (upd (upd (upd (upd (upd (fun _=>0) 1 (-1)) 2 16) 5 1) 6 3) 11 1) 12 (-1)) 14 1048576) 16 1048576) 7),cI ((upd (upd (upd (upd (upd (upd (upd (upd (fun _=>0) 1 (-1)) 2 16) 5 1) 6 3) 11 1) 12 (-1)) 14 1048576) 16 1048576) 8),cI ((upd (upd (upd (upd (upd (upd (upd (upd (fun _=>0) 1 (-1)) 2 16) 5 1) 6 3) 11 1) 12 (-1)) 14 1048576) 16 1048576) 9),cI ((upd (upd (upd (upd (upd (upd (upd (upd (fun _=>0) 1 (-1)) 2 16) 5 1) 6 3) 11 1) 12 (-1)) 14 1048576) 16 1048576) 10),cI ((upd (upd (upd (upd (upd (upd (upd (upd (fun _=>0) 1 (-1)) 2 16) 5 1) 6 3) 11 1) 12 (-1)) 14 1048576) 16 1048576) 11),cI ((upd (upd (upd (upd (upd (upd (upd (upd (fun _=>0) 1 (-1)) 2 16) 5 1) 6 3) 11 1) 12 (-1)) 14 1048576) 16 1048576) 12),cI ((upd (upd (upd (upd (upd (upd (upd (upd (fun _=>0) 1 (-1)) 2 16) 5 1) 6 3) 11 1) 12 (-1)) 14 1048576) 16 1048576) 13),cI ((upd (upd (upd (upd (upd (upd (upd (upd (fun _=>0) 1 (-1)) 2 16) 5 1) 6 3) 11 1) 12 (-1)) 14 1048576) 16 1048576) 14),cI ((upd (upd (upd (upd (upd (upd (upd (upd (fun _=>0) 1 (-1)) 2 16) 5 1) 6 3) 11 1) 12 (-1)) 14 1048576) 16 1048576) 15),cI ((upd (upd (upd (upd (upd (upd (upd (upd (fun _=>0) 1 (-1)) 2 16) 5 1) 6 3) 11 1) 12 (-1)) 14 1048576) 16 1048576) 16),cI ((upd (upd (upd (upd (upd (upd (upd (upd (fun _=>0) 1 (-1)) 2 16) 5 1) 6 3) 11 1) 12 (-1)) 14 1048576) 16 1048576) 17),cI ((upd (upd (upd (upd (upd (upd (upd (upd (fun _=>0) 1 (-1)) 2 16) 5 1) 6 3) 11 1) 12 (-1)) 14 1048576) 16 1048576) 18),cI ((upd (upd (upd (upd (upd (upd (upd (upd (fun _=>0) 1 (-1)) 2 16) 5 1) 6 3) 11 1) 12 (-1)) 14 1048576) 16 1048576) 19),cI ((upd (upd (upd (upd (upd (upd (upd (upd (fun _=>0) 1 (-1)) 2 16) 5 1) 6 3) 11 1) 12 (-1)) 14 1048576) 16 1048576) 20),cI ((upd (upd (upd (upd (upd (upd (upd (upd (fun _=>0) 1 (-1)) 2 16) 5 1) 6 3) 11 1) 12 (-1)) 14 1048576) 16 1048576) 21)]) (OkOps.w (triStore (cs':=([] ++ (arrC 22 (dInt .i64) (upd (upd (upd (upd (upd (upd (upd (upd (fun _=>0) 1 (-1)) 2 16) 5 1) 6 3) 11 1) 12 (-1)) 14 1048576) 16 1048576) ++ []))) rfl rfl rfl rfl rfl rfl rfl rfl (by kernel_rfl)) (OkOps.nil (Ok.ret ?_))))))
 obtain rfl:=Option.some.inj hr
 exact ⟨_,rfl,.inl rfl,trivial⟩
theorem r21_Find_c (l : (List Box)) (id : Int) {r : Box × Bool} (hr : r21_Find l id = some r) : Con Tryd.prog 14 [.c (.d (.sl (List.map Box.cs l))),aI id] [] (.tup [.agg [cI r.1.ID,cI r.1.Rect.X,cI r.1.Rect.Y,cI r.1.Rect.W,cI r.1.Rect.H,cI r.1.Baseline,.d (.sl (List.map Line.cs r.1.Lines))],aB r.2]) []:=by
 unfold r21_Find at hr
 refine Con.of_ok 25 0 [.cell 4 35,.tmp 5] [(0,.s (.c (.d (.sl (List.map Box.cs l))))),(1,.s (aI id))] Tryd.func14 rfl rfl rfl rfl rfl rfl rfl rfl fun w g M ρ _=>(Ok.seq (Ok.region (OkOps.m 0 (triAlloc (j:=0) (cs:=[cI 0,cI 0,cI 0,cI 0,cI 0,cI 0,.d (.v (.slice none 0 0))]) rfl rfl rfl rfl) (OkOps.y (aB false) (OkOps.nil ?_)))))
 obtain ⟨k2,hk2,hr⟩:=jn_some hr
 refine Ok.join (fun (s1 : Unit)=>⟨[(4,.s (.c (.loc 0 0)))],[(0,.blk [cI 0,cI 0,cI 0,cI 0,cI 0,cI 0,.d (.v (.slice none 0 0))] 35)],0⟩) k2 r (fun s1 hr=>?_) ?_
 rw [hk2] at hr
 refine Ok.seq (Ok.region (OkOps.y (.agg [cI 0,cI 0,cI 0,cI 0,cI 0,cI 0,.d (.v (.slice none 0 0))]) (OkOps.w (triStore (cs':=[cI 0,cI 0,cI 0,cI 0,cI 0,cI 0,.d (.v (.slice none 0 0))]) rfl rfl rfl rfl rfl rfl rfl rfl rfl) (OkOps.y (aB false) (OkOps.nil (Ok.ret ?_))))))
 obtain rfl:=Option.some.inj hr
 exact ⟨_,rfl,.inr rfl,trivial⟩
 clear hk2
 refine Ok.seq (Ok.region (OkOps.y (aI 0) (OkOps.nil (Ok.block (Ok.loopK (fun (s3 : Int)=>⟨[(0,.s (.c (.d (.sl (List.map Box.cs l))))),(1,.s (aI id)),(4,.s (.c (.loc 0 0))),(6,.s (aI s3))],[(0,.blk [cI 0,cI 0,cI 0,cI 0,cI 0,cI 0,.d (.v (.slice none 0 0))] 35)],0⟩) hr (Conv.mk (tau []) ⟨⟨_,rfl,.inl rfl⟩,⟨_,rfl,.inl rfl⟩,⟨_,rfl,.inl rfl⟩,⟨_,rfl,.inl rfl⟩,trivial⟩ ⟨rfl,trivial⟩ rfl rfl rfl rfl) ?_)))))
 clear hr
 intro again4 s3 hr
 unfold r21_Find_L1 at hr
 refine Ok.seq (Ok.seq (Ok.region (OkOps.y (aI s3) (OkOps.y (.c (.d (.sl (List.map Box.cs l)))) (OkOps.q (triLen (enc:=Box.cs) l rfl rfl trivial rfl) (OkOps.y (aB (decide (s3 < (l.length : Int)))) (OkOps.nil ?_)))))))
 refine Ok.cond (b:=decide (s3 < (l.length : Int))) rfl (fun h5=>?_) (fun h5=>?_)
 have hr:=selT h5 hr
 refine Ok.skip (Ok.seq (Ok.block (Ok.seq (Ok.region (OkOps.y (.c (.d (.sl (List.map Box.cs l)))) (OkOps.y (aI s3) ?_))))))
 obtain ⟨x6,hx6,hr⟩:=bind_some hr
 refine OkOps.q (triIdx (enc:=Box.cs) (L:=l) (row:=[dI x6.ID,dI x6.Rect.X,dI x6.Rect.Y,dI x6.Rect.W,dI x6.Rect.H,dI x6.Baseline,.sl (List.map Line.cs x6.Lines)]) hx6 rfl rfl rfl rfl (fun _=>rfl) trivial rfl) (OkOps.y (.c (.pt [dI x6.ID,dI x6.Rect.X,dI x6.Rect.Y,dI x6.Rect.W,dI x6.Rect.H,dI x6.Baseline,.sl (List.map Line.cs x6.Lines)])) (OkOps.y (aI x6.ID) (OkOps.y (aI id) (OkOps.y (aB (x6.ID == id)) (OkOps.nil ?_)))))
 refine Ok.cond (b:=x6.ID == id) rfl (fun h7=>?_) (fun h7=>?_)
 have hr:=selT h7 hr
 refine Ok.seq (Ok.region (OkOps.y (.c (.d (.sl (List.map Box.cs l)))) (OkOps.y (aI s3) ?_)))
 obtain ⟨x8,hx8,hr⟩:=bind_some hr
 refine OkOps.q (triIdx (enc:=Box.cs) (L:=l) (row:=[dI x8.ID,dI x8.Rect.X,dI x8.Rect.Y,dI x8.Rect.W,dI x8.Rect.H,dI x8.Baseline,.sl (List.map Line.cs x8.Lines)]) hx8 rfl rfl rfl rfl (fun _=>rfl) trivial rfl) (OkOps.y (.agg [cI x8.ID,cI x8.Rect.X,cI x8.Rect.Y,cI x8.Rect.W,cI x8.Rect.H,cI x8.Baseline,.d (.sl (List.map Line.cs x8.Lines))]) (OkOps.w (triStore (cs':=[cI x8.ID,cI x8.Rect.X,cI x8.Rect.Y,cI x8.Rect.W,cI x8.Rect.H,cI x8.Baseline,.d (.sl (List.map Line.cs x8.Lines))]) rfl rfl rfl rfl rfl rfl rfl rfl rfl) (OkOps.y (aB true) (OkOps.nil (Ok.ret ?_)))))
 obtain rfl:=Option.some.inj hr
 exact ⟨_,rfl,.inl rfl,trivial⟩
 have hr:=selF h7 hr
 refine Ok.skip (Ok.region (OkOps.y (aI s3) (OkOps.y (aI (IntKind.i64.wrap (s3 + 1))) (OkOps.y (aI (IntKind.i64.wrap (s3 + 1))) (OkOps.nil ?_)))))
 exact ⟨IntKind.i64.wrap (s3 + 1),hr,(Conv.mk (tau []) ⟨⟨_,rfl,.inl rfl⟩,⟨_,rfl,.inl rfl⟩,⟨_,rfl,.inl rfl⟩,⟨_,rfl,.inl rfl⟩,trivial⟩ ⟨rfl,trivial⟩ rfl rfl rfl rfl)⟩
 have hr:=selF h5 hr
 refine Ok.exit ?_
 exact ⟨(),hr,(Conv.mk (tau []) ⟨⟨_,rfl,.inl rfl⟩,trivial⟩ ⟨rfl,trivial⟩ rfl rfl rfl rfl)⟩
end Go.Proofs.YtfoigppmcelgfaaDoor
end
section
set_option maxRecDepth 100000
namespace Go.Proofs.YtfoigppmcelgfaaDoor
open Go Go.E2
end Go.Proofs.YtfoigppmcelgfaaDoor
end

/-
  Texts, shifts, arrays with an index that is not known, calls of functions without a body, guarded calls that write.
-/
import Derived.Test.YtcfegecdlbbeaaaDoorXv
import Derived.KernelRfl
namespace Go.E2
variable {P : Program} {C : Ctx} {F : FS} {ops : Array Oper} {dst : Nat} {op : Op} {ty : TypeId} {pos : String} {after : Array Edge}

/-! ### texts -/
theorem catO_spec {s t u : Str} (h : catO s t = some u) : s.size + t.size ≤ 1152921504606846976 ∧ u = s ++ t := by
  unfold catO at h
  split at h
  · rename_i hc; cases h; exact ⟨hc, rfl⟩
  · cases h
theorem cat_run {t : TypeId} {x y : Operand} {a b c : Str} (h : catO a b = some c) (w : World) : (eqGuard .add t x y (.string a) (.string b) >>= fun _ => binOp .add t (.string a) (.string b)).run P w = .ok (.string c) w := by
  obtain ⟨h1, rfl⟩ := catO_spec h
  have h2 : ¬ (((a.size + b.size : Nat) : Int) > IntKind.i64.max) := by
    have : IntKind.i64.max = 9223372036854775807 := by decide
    rw [this]; omega
  simp only [eqGuard, binOp, Op.stringOp, h2, if_false]
  rfl
theorem triCat {t t' : TypeId} {x y : Operand} {a b c : Str} (h : catO a b = some c) (hx : rdV F x = some (.string a)) (hy : rdV F y = some (.string b)) (hs : sideOk F true [x, y]) (hn : Nat.blt dst C.n = true) :
    TriL P C ops ⟨some dst, .binOp .add t x y t', ty, pos, after, none⟩ ⟨slotsOf [x, y], [], [dst], []⟩ [(dst, .s (.c (.d (.v (.string c)))))] [] F := by
  refine ⟨⟨rfl, rfl⟩, fun F' hS => ?_⟩
  have h1 := opnd_same hS.1
  refine Tri.quiet (x := .c (.d (.v (.string c)))) rfl rfl hn (fun ρ M a' w hr => ⟨_, ?_, Rep.v _⟩)
  have hR := reads_of hr rfl (sideOk_same h1 hs)
  unfold execOp
  simp only
  rw [rdV_eval hR (by simp) ((rdV_same (h1 x (by simp))).trans hx), rdV_eval hR (by simp) ((rdV_same (h1 y (by simp))).trans hy)]
  exact bind_value (cat_run h w)
theorem triCatG {t t' : TypeId} {x y : Operand} {a b c : Str} {gk : Nat} {want g : Bool} (h : g = true → catO a b = some c) (hb : guardB F ops gk want = some g) (hx : rdV F x = some (.string a)) (hy : rdV F y = some (.string b)) (hs : sideOk F g [x, y]) (hn : Nat.blt dst C.n = true) :
    TriL P C ops ⟨some dst, .binOp .add t x y t', ty, pos, after, some (gk, want)⟩ ⟨gSlot ops gk ++ slotsOf [x, y], [], [dst], []⟩ [(dst, .gd g (.c (.d (.v (.string c)))))] [] F := by
  refine ⟨⟨rfl, rfl⟩, fun F' hS => ?_⟩
  have h1 := opnd_same (F := F) (F' := F') (xs := [x, y]) (fun t ht => hS.1 t (by simp [ht]))
  refine Tri.quietG (x := .c (.d (.v (.string c)))) rfl ((guardB_same (fun t ht => hS.1 t (by simp [ht]))).trans hb) rfl hn (fun hg ρ M a' w hr => ⟨_, ?_, Rep.v _⟩)
  have hR := reads_of hr hg (sideOk_same h1 hs)
  unfold execOp
  simp only
  rw [rdV_eval hR (by simp) ((rdV_same (h1 x (by simp))).trans hx), rdV_eval hR (by simp) ((rdV_same (h1 y (by simp))).trans hy)]
  exact bind_value (cat_run (h hg) w)
def isStr (P : Program) (t : TypeId) : Bool := match P.underlying t with
  | some .string => true
  | _ => false
theorem isStr_run {t : TypeId} (h : isStr P t = true) (w : World) : (underlying t).run P w = .ok .string w := by
  unfold isStr at h
  split at h
  · rename_i hu; simp [underlying, program, Sem.run, hu]
  · cases h
theorem sidx_run {t : TypeId} {s : Str} {k : IntKind} {i n : Int} (h : sidxO s i = some n) (ht : isStr P t = true) (w : World) : (Instr.index t (.string s) (.int k i)).run P w = .ok (.int .u8 n) w := by
  unfold sidxO at h
  split at h
  · rename_i h0
    cases hb : s[i.toNat]? with
    | none => rw [hb] at h; cases h
    | some b =>
      rw [hb] at h
      simp only [Option.map_some, Option.some.injEq] at h
      subst h
      unfold Instr.index
      have hk : (asIntOf (.int k i)).run P w = .ok (k, i) w := rfl
      rw [run_bind_ok hk]
      simp only
      rw [run_bind_ok (isStr_run ht w)]
      simp only [h0, if_true, hb]
      rfl
  · cases h
theorem triSIdx {t : TypeId} {x i : Operand} {s : Str} {k : IntKind} {n m : Int} (h : sidxO s n = some m) (hx : rdV F x = some (.string s)) (hi : rdV F i = some (.int k n)) (ht : isStr P t = true) (hs : sideOk F true [x, i]) (hn : Nat.blt dst C.n = true) :
    TriL P C ops ⟨some dst, .index t x i, ty, pos, after, none⟩ ⟨slotsOf [x, i], [], [dst], []⟩ [(dst, .s (.c (.d (.v (.int .u8 m)))))] [] F := by
  refine ⟨⟨rfl, rfl⟩, fun F' hS => ?_⟩
  have h1 := opnd_same hS.1
  refine Tri.quiet (x := .c (.d (.v (.int .u8 m)))) rfl rfl hn (fun ρ M a' w hr => ⟨_, ?_, Rep.v _⟩)
  have hR := reads_of hr rfl (sideOk_same h1 hs)
  unfold execOp
  simp only
  rw [rdV_eval hR (by simp) ((rdV_same (h1 x (by simp))).trans hx), rdV_eval hR (by simp) ((rdV_same (h1 i (by simp))).trans hi)]
  exact bind_value (sidx_run h ht w)
theorem triSIdxG {t : TypeId} {x i : Operand} {s : Str} {k : IntKind} {n m : Int} {gk : Nat} {want g : Bool} (h : g = true → sidxO s n = some m) (hb : guardB F ops gk want = some g) (hx : rdV F x = some (.string s)) (hi : rdV F i = some (.int k n)) (ht : isStr P t = true) (hs : sideOk F g [x, i]) (hn : Nat.blt dst C.n = true) :
    TriL P C ops ⟨some dst, .index t x i, ty, pos, after, some (gk, want)⟩ ⟨gSlot ops gk ++ slotsOf [x, i], [], [dst], []⟩ [(dst, .gd g (.c (.d (.v (.int .u8 m)))))] [] F := by
  refine ⟨⟨rfl, rfl⟩, fun F' hS => ?_⟩
  have h1 := opnd_same (F := F) (F' := F') (xs := [x, i]) (fun t ht => hS.1 t (by simp [ht]))
  refine Tri.quietG (x := .c (.d (.v (.int .u8 m)))) rfl ((guardB_same (fun t ht => hS.1 t (by simp [ht]))).trans hb) rfl hn (fun hg ρ M a' w hr => ⟨_, ?_, Rep.v _⟩)
  have hR := reads_of hr hg (sideOk_same h1 hs)
  unfold execOp
  simp only
  rw [rdV_eval hR (by simp) ((rdV_same (h1 x (by simp))).trans hx), rdV_eval hR (by simp) ((rdV_same (h1 i (by simp))).trans hi)]
  exact bind_value (sidx_run (h hg) ht w)
theorem sslc_run {t : TypeId} {s u : Str} {lo hi : Int} (h : sslcO s lo hi = some u) (ht : isStr P t = true) {ol oh : Option Value} (hl : Bnd ol 0 lo) (hh : Bnd oh s.size hi) (w : World) : (Instr.sliceAt t (.string s) ol oh none).run P w = .ok (.string u) w := by
  unfold sslcO at h
  split at h
  · rename_i hc
    cases h
    obtain ⟨h0, h1, h2⟩ := hc
    have hb : (Instr.sliceBounds false s.size s.size ol oh none).run P w = .ok (lo.toNat, hi.toNat, s.size) w := by
      unfold Instr.sliceBounds
      simp only [pure_bind]
      rcases hh with ⟨rfl, rfl⟩ | ⟨k, rfl⟩
      · rcases hl with ⟨rfl, rfl⟩ | ⟨k', rfl⟩
        · simp only [Int.toNat_natCast, Int.toNat_zero]; rfl
        · simp only
          rw [run_bind_ok (sliceBound_run h0 (by omega) w)]
          simp only [Int.toNat_natCast]; rfl
      · simp only
        rw [run_bind_ok (sliceBound_run (by omega) (by omega) w)]
        rcases hl with ⟨rfl, rfl⟩ | ⟨k', rfl⟩
        · rfl
        · simp only
          rw [run_bind_ok (sliceBound_run h0 (by omega) w)]
          rfl
    have hu := isStr_run ht w
    unfold Instr.sliceAt
    rw [run_bind_ok hu]
    simp only
    unfold Instr.slice
    rw [run_bind_ok hu]
    simp only [Option.isSome_none, Bool.false_eq_true, if_false]
    rw [run_bind_ok hb]
    rfl
  · cases h
theorem triSSlc {t : TypeId} {x : Operand} {s u : Str} {lo hi : Int} {l h : Option Operand} {vl vh : Option Value} (hr : sslcO s lo hi = some u) (hx : rdV F x = some (.string s)) (hl : rdO F l = some vl) (hh : rdO F h = some vh) (bl : Bnd vl 0 lo) (bh : Bnd vh s.size hi) (ht : isStr P t = true) (hs : sideOk F true ([x] ++ l.toList ++ h.toList)) (hd : Nat.blt dst C.n = true) :
    TriL P C ops ⟨some dst, .slice t x l h none, ty, pos, after, none⟩ ⟨slotsOf ([x] ++ l.toList ++ h.toList), [], [dst], []⟩ [(dst, .s (.c (.d (.v (.string u)))))] [] F := by
  refine ⟨⟨rfl, rfl⟩, fun F' hS => ?_⟩
  have h1 := opnd_same hS.1
  refine Tri.quiet (x := .c (.d (.v (.string u)))) rfl rfl hd (fun ρ M a w hr' => ⟨_, ?_, Rep.v _⟩)
  have hR := reads_of hr' rfl (sideOk_same h1 hs)
  unfold execOp
  simp only
  rw [rdV_eval hR (by simp) ((rdV_same (h1 x (by simp))).trans hx), rdO_eval hR (fun y hy => by simp [hy]) ((rdO_same (fun y hy => h1 y (by simp [hy]))).trans hl), rdO_eval hR (fun y hy => by simp [hy]) ((rdO_same (fun y hy => h1 y (by simp [hy]))).trans hh)]
  exact bind_value (sslc_run hr ht bl bh w)
theorem triSSlcG {t : TypeId} {x : Operand} {s u : Str} {lo hi : Int} {l h : Option Operand} {vl vh : Option Value} {gk : Nat} {want g : Bool} (hr : g = true → sslcO s lo hi = some u) (hb : guardB F ops gk want = some g) (hx : rdV F x = some (.string s)) (hl : rdO F l = some vl) (hh : rdO F h = some vh) (bl : Bnd vl 0 lo) (bh : Bnd vh s.size hi) (ht : isStr P t = true) (hs : sideOk F g ([x] ++ l.toList ++ h.toList)) (hd : Nat.blt dst C.n = true) :
    TriL P C ops ⟨some dst, .slice t x l h none, ty, pos, after, some (gk, want)⟩ ⟨gSlot ops gk ++ slotsOf ([x] ++ l.toList ++ h.toList), [], [dst], []⟩ [(dst, .gd g (.c (.d (.v (.string u)))))] [] F := by
  refine ⟨⟨rfl, rfl⟩, fun F' hS => ?_⟩
  have h1 := opnd_same (F := F) (F' := F') (xs := [x] ++ l.toList ++ h.toList) (fun t ht => hS.1 t (by simp only [List.mem_append]; exact .inr ht))
  refine Tri.quietG (x := .c (.d (.v (.string u)))) rfl ((guardB_same (fun t ht => hS.1 t (by simp only [List.mem_append]; exact .inl ht))).trans hb) rfl hd (fun hg ρ M a w hr' => ⟨_, ?_, Rep.v _⟩)
  have hR := reads_of hr' hg (sideOk_same h1 hs)
  unfold execOp
  simp only
  rw [rdV_eval hR (by simp) ((rdV_same (h1 x (by simp))).trans hx), rdO_eval hR (fun y hy => by simp [hy]) ((rdO_same (fun y hy => h1 y (by simp [hy]))).trans hl), rdO_eval hR (fun y hy => by simp [hy]) ((rdO_same (fun y hy => h1 y (by simp [hy]))).trans hh)]
  exact bind_value (sslc_run (hr hg) ht bl bh w)

/-! ### texts and slices -/
theorem runesFrom_eq (s : Str) : ∀ (n i : Nat) (acc : Array Value), Conv.runesFrom s n i acc = acc ++ ((runesF s n i).map fun r => Value.int .i32 r).toArray
  | 0, i, acc => by simp [Conv.runesFrom, runesF]
  | n + 1, i, acc => by
    unfold Conv.runesFrom runesF
    split
    · show Conv.runesFrom s n (i + (Utf8.decode s i).2) (acc.push (Value.int IntKind.i32 (Int.ofNat (Utf8.decode s i).1))) = _
      rw [runesFrom_eq s n]
      apply Array.ext'
      simp
    · simp
theorem RelW.allocM' {bl : Nat → Option Ob} {ρ : Env} {M : Mem} {w : World} {vs : List Value} {t : TypeId} {d : Nat} (h : RelW C bl ρ M w) (n : Nat) (hn : n ≤ vs.length) : RelW C bl ρ (M.put w.heap.size 0 (vs.take n)) (World.alloc { w with drawn := d } (.cells vs.toArray t)) :=
  (h.drew d).allocM n hn
def runeSl (P : Program) (s d : TypeId) : Bool := match P.underlying s with
  | some .string => match P.underlying d with
    | some (.slice e) => match P.underlying e with
      | some (.int .i32) => true
      | _ => false
    | _ => false
  | _ => false
theorem triRunes {s d : TypeId} {x : Operand} {u : Str} (hx : rdV F x = some (.string u)) (ht : runeSl P s d = true) (hs : sideOk F true [x]) (hd : Nat.blt dst C.n = true) :
    TriL P C ops ⟨some dst, .convert s d x, ty, pos, after, none⟩ ⟨slotsOf [x], [], [dst], []⟩ [(dst, .s (.c (.d (.sl (List.map (eInt .i32) (runes u))))))] [] F := by
  refine ⟨⟨rfl, rfl⟩, fun F' hS => ?_⟩
  have h1 := opnd_same hS.1
  refine Tri.val [] rfl rfl hd (fun _ h => by cases h) (fun k hk => by rw [over_nil]; exact hk) (fun _ h => by cases h) (fun ρ M a w hr => ?_)
  have hR := reads_of hr rfl (sideOk_same h1 hs)
  have ex := rdV_eval hR (by simp) ((rdV_same (h1 x (by simp))).trans hx)
  unfold runeSl at ht
  split at ht
  · rename_i hu1
    split at ht
    · rename_i e hu2
      split at ht
      · rename_i hu3
        let vs : List Value := (runes u).map fun r => Value.int .i32 r
        let q : Question := .appendCap vs.length 0 e
        let cap := q.cut (w.tape w.drawn q)
        have hcap : vs.length ≤ cap := by simp [cap, q, Question.cut]
        let all : List Value := vs ++ List.replicate (cap - vs.length) (.int .i32 0)
        have hrun : (convert s d (.string u)).run P w = .ok (.slice (some ⟨w.heap.size, 0, none⟩) vs.length cap) (World.alloc { w with drawn := w.drawn + 1 } (.cells all.toArray e)) := by
          unfold convert
          have r1 : (underlying s).run P w = .ok .string w := by simp [underlying, program, Sem.run, hu1]
          have r2 : (underlying d).run P w = .ok (.slice e) w := by simp [underlying, program, Sem.run, hu2]
          have r3 : (underlying e).run P w = .ok (.int .i32) w := by simp [underlying, program, Sem.run, hu3]
          rw [run_bind_ok r1, run_bind_ok r2]
          simp only
          rw [run_bind_ok r3]
          simp only [Conv.stringToRunes]
          have e1 : Conv.runesFrom u u.size 0 #[] = vs.toArray := by rw [runesFrom_eq]; simp [vs, runes]
          rw [e1]
          simp only [List.size_toArray]
          have e2 : vs.toArray ++ Array.replicate (cap - vs.length) (Value.int .i32 0) = all.toArray := by apply Array.ext'; simp [all]
          have hch : ∀ (K : Nat → Sem Value), (choose q >>= K).run P w = (K cap).run P { w with drawn := w.drawn + 1 } := fun K => by simp [choose, Sem.run, Question.forced, bind, Sem.bind, q, cap]
          rw [hch, e2]
          rfl
        have hno := hr.heap.mem.none (Nat.le_refl w.heap.size)
        have hle : M.le (M.put w.heap.size 0 (all.take vs.length)) := Mem.put_le (fun o _ => hno.1 o)
        have htk : all.take vs.length = vs := by simp [all]
        refine ⟨.slice (some ⟨w.heap.size, 0, none⟩) vs.length cap, World.alloc { w with drawn := w.drawn + 1 } (.cells all.toArray e), M.put w.heap.size 0 (all.take vs.length), fun _ => undef, ?_, hle, fun ρ' h0 _ => ⟨?_, by rw [over_nil]; exact h0.heap.allocM' vs.length (by simp [all])⟩⟩
        · unfold execOp
          simp only
          rw [ex]
          exact bind_value hrun
        · show Rep _ _ _
          have hl : vs.length = (List.map (eInt .i32) (runes u)).length := by simp [vs]
          rw [hl]
          refine Rep.ofFlat (sz := 1) (vs := vs) (by rw [← hl]; exact hcap) (rows_map (enc := eInt .i32) (fun _ => rfl) _) ?_ (fun k v hk => ?_)
          · have key : ∀ l : List Int, RepsD (M.put w.heap.size 0 (all.take (List.map (eInt .i32) (runes u)).length)) (List.map (eInt .i32) l).flatten (l.map fun r => Value.int .i32 r) := by
              intro l
              induction l with
              | nil => trivial
              | cons y r ih => exact ⟨Rep.v _, ih⟩
            exact key (runes u)
          · have := Mem.put_at (M := M) (b := w.heap.size) (off := 0) (vs := all.take (List.map (eInt .i32) (runes u)).length) (k := k) (u := v) (by rw [← hl, htk]; exact hk)
            exact this
      · cases ht
    · cases ht
  · cases ht
def slStr (P : Program) (k : IntKind) (s d : TypeId) : Bool := match P.underlying d with
  | some .string => match P.underlying s with
    | some (.slice e) => match P.underlying e with
      | some (.int k') => decide (k' = k)
      | _ => false
    | _ => false
  | _ => false
theorem bytes_app (s : ByteArray) (n : Int) (l : List Int) : s.push (UInt8.ofNat n.toNat) ++ ofBytes l = s ++ ofBytes (n :: l) := by
  apply ByteArray.ext
  simp [ofBytes]
theorem loadSl_run {k : IntKind} {M : Mem} {w : World} {L : List Int} {v : Value} (hv : Rep M (.sl (L.map (eInt k))) v) (hm : InW M w) : (∃ c, v = .slice none 0 c ∧ L = []) ∨ ∃ a c, v = .slice (some a) L.length c ∧ (loadCells a L.length).run P w = .ok ((L.map fun n => Value.int k n).toArray) w := by
  have key : ∀ l : List Int, ∀ vs, RepsD M (l.map (eInt k)).flatten vs → vs = l.map fun n => Value.int k n := by
    intro l
    induction l with
    | nil => intro vs h; cases vs with
      | nil => rfl
      | cons _ _ => exact h.elim
    | cons x r ih =>
      intro vs h
      cases vs with
      | nil => exact h.elim
      | cons u us => rw [Rep.v_inv h.1, ih us h.2]; rfl
  by_cases hL : L = []
  · subst hL
    obtain ⟨a, c, rfl⟩ := hv.sl_cases
    cases a with
    | none => exact .inl ⟨c, rfl, rfl⟩
    | some a => exact .inr ⟨a, c, rfl, rfl⟩
  · obtain ⟨b, off, cap, sz, vs, rfl, hc, hrow, hrep, hm'⟩ := hv.flat (by simpa using hL)
    refine .inr ⟨_, cap, by rw [List.length_map], ?_⟩
    have e := key L vs hrep
    subst e
    have := loadCells_run (P := P) (w := w) (b := b) (off := off) (L.map fun n => Value.int k n) (fun j v hj => hm.cell _ _ _ (hm' j v hj))
    rwa [List.length_map] at this
theorem forIn_run {k : IntKind} {f : Value → ByteArray → Sem (ForInStep ByteArray)} {g : ByteArray → Int → ByteArray} (hf : ∀ n r, f (.int k n) r = pure (ForInStep.yield (g r n))) (w : World) : ∀ (l : List Int) (s : ByteArray), (forIn (m := Sem) ((l.map fun n => Value.int k n).toArray) s f).run P w = .ok (l.foldl g s) w := by
  intro l
  induction l with
  | nil => intro s; rfl
  | cons n r ih =>
    intro s
    rw [← Array.forIn_toList]
    simp only [List.map_cons, List.forIn_cons]
    rw [hf]
    simp only [pure_bind, List.foldl_cons]
    have := ih (g s n)
    rw [← Array.forIn_toList] at this
    exact this
theorem foldl_bytes (l : List Int) (s : ByteArray) : l.foldl (fun s n => s.push (UInt8.ofNat n.toNat)) s = s ++ ofBytes l := by
  induction l generalizing s with
  | nil => apply ByteArray.ext; simp [ofBytes]
  | cons n r ih => rw [List.foldl_cons, ih, bytes_app]
theorem ofBytes_run {M : Mem} {w : World} {L : List Int} {v : Value} (hv : Rep M (.sl (L.map (eInt .u8))) v) (hm : InW M w) : (Conv.bytesToString v).run P w = .ok (.string (ofBytes L)) w := by
  rcases loadSl_run (P := P) hv hm with ⟨c, rfl, rfl⟩ | ⟨a, c, rfl, h⟩
  · rfl
  · unfold Conv.bytesToString
    simp only
    rw [run_bind_ok h]
    rw [run_bind_ok (forIn_run (P := P) (k := .u8) (g := fun s n => s.push (UInt8.ofNat n.toNat)) (fun _ _ => rfl) w L _), foldl_bytes]
    show Result.ok (Value.string _) w = _
    congr 2
theorem ofRunes_run {M : Mem} {w : World} {L : List Int} {v : Value} (hv : Rep M (.sl (L.map (eInt .i32))) v) (hm : InW M w) : (Conv.runesToString v).run P w = .ok (.string (ofRunes L)) w := by
  rcases loadSl_run (P := P) hv hm with ⟨c, rfl, rfl⟩ | ⟨a, c, rfl, h⟩
  · rfl
  · unfold Conv.runesToString
    simp only
    rw [run_bind_ok h]
    rw [run_bind_ok (forIn_run (P := P) (k := .i32) (g := fun s n => s ++ Utf8.encode n) (fun _ _ => rfl) w L _)]
    rfl
theorem slStr_run {k : IntKind} {s d : TypeId} (h : slStr P k s d = true) : ∃ e, (∀ w : World, (underlying s).run P w = .ok (.slice e) w) ∧ (∀ w : World, (underlying d).run P w = .ok .string w) ∧ (∀ w : World, (underlying e).run P w = .ok (.int k) w) := by
  unfold slStr at h
  split at h
  · rename_i h1
    split at h
    · rename_i e h2
      split at h
      · rename_i k' h3
        have := of_decide_eq_true h
        subst this
        exact ⟨e, fun w => by simp [underlying, program, Sem.run, h2], fun w => by simp [underlying, program, Sem.run, h1], fun w => by simp [underlying, program, Sem.run, h3]⟩
      · cases h
    · cases h
  · cases h
theorem convB_run {s d : TypeId} (h : slStr P .u8 s d = true) {M : Mem} {w : World} {L : List Int} {v : Value} (hv : Rep M (.sl (L.map (eInt .u8))) v) (hm : InW M w) : (convert s d v).run P w = .ok (.string (ofBytes L)) w := by
  obtain ⟨e, r1, r2, r3⟩ := slStr_run h
  have hb := ofBytes_run (P := P) hv hm
  obtain ⟨a, c, rfl⟩ := hv.sl_cases
  unfold convert
  rw [run_bind_ok (r1 w), run_bind_ok (r2 w)]
  simp only
  rw [run_bind_ok (r3 w)]
  exact hb
theorem convR_run {s d : TypeId} (h : slStr P .i32 s d = true) {M : Mem} {w : World} {L : List Int} {v : Value} (hv : Rep M (.sl (L.map (eInt .i32))) v) (hm : InW M w) : (convert s d v).run P w = .ok (.string (ofRunes L)) w := by
  obtain ⟨e, r1, r2, r3⟩ := slStr_run h
  have hb := ofRunes_run (P := P) hv hm
  obtain ⟨a, c, rfl⟩ := hv.sl_cases
  unfold convert
  rw [run_bind_ok (r1 w), run_bind_ok (r2 w)]
  simp only
  rw [run_bind_ok (r3 w)]
  exact hb
theorem triOfBytes {s d : TypeId} {x : Operand} {L : List Int} (hx : rdS F x = some (L.map (eInt .u8))) (ht : slStr P .u8 s d = true) (hs : sideOk F true [x]) (hd : Nat.blt dst C.n = true) :
    TriL P C ops ⟨some dst, .convert s d x, ty, pos, after, none⟩ ⟨slotsOf [x], [], [dst], []⟩ [(dst, .s (.c (.d (.v (.string (ofBytes L))))))] [] F := by
  refine ⟨⟨rfl, rfl⟩, fun F' hS => ?_⟩
  have h1 := opnd_same hS.1
  refine Tri.quiet (x := .c (.d (.v (.string (ofBytes L))))) rfl rfl hd (fun ρ M a w hr => ⟨_, ?_, Rep.v _⟩)
  have hR := reads_of hr rfl (sideOk_same h1 hs)
  exact bind_value (convB_run ht (rdS_rep hR (by simp) ((rdS_same (h1 x (by simp))).trans hx)) hr.heap.mem)
theorem triOfRunes {s d : TypeId} {x : Operand} {L : List Int} (hx : rdS F x = some (L.map (eInt .i32))) (ht : slStr P .i32 s d = true) (hs : sideOk F true [x]) (hd : Nat.blt dst C.n = true) :
    TriL P C ops ⟨some dst, .convert s d x, ty, pos, after, none⟩ ⟨slotsOf [x], [], [dst], []⟩ [(dst, .s (.c (.d (.v (.string (ofRunes L))))))] [] F := by
  refine ⟨⟨rfl, rfl⟩, fun F' hS => ?_⟩
  have h1 := opnd_same hS.1
  refine Tri.quiet (x := .c (.d (.v (.string (ofRunes L))))) rfl rfl hd (fun ρ M a w hr => ⟨_, ?_, Rep.v _⟩)
  have hR := reads_of hr rfl (sideOk_same h1 hs)
  exact bind_value (convR_run ht (rdS_rep hR (by simp) ((rdS_same (h1 x (by simp))).trans hx)) hr.heap.mem)

/-! ### shifts by a number that is not known -/
def shO {α : Type} (y : Int) (x : α) : Option α := if y < 0 then none else some x
theorem shO_spec {α : Type} {y : Int} {x z : α} (h : shO y x = some z) : ¬ y < 0 ∧ z = x := by
  unfold shO at h
  split at h
  · cases h
  · rename_i hb; cases h; exact ⟨hb, rfl⟩
theorem shl_run {t : TypeId} {x y : Operand} {k k' : IntKind} {a b : Int} (hb : ¬ b < 0) (w : World) : (eqGuard .shl t x y (.int k a) (.int k' b) >>= fun _ => binOp .shl t (.int k a) (.int k' b)).run P w = .ok (.int k (bShl k a b)) w := by
  simp only [eqGuard, binOp, Op.shift, hb, if_false]
  rfl
theorem shr_run {t : TypeId} {x y : Operand} {k k' : IntKind} {a b : Int} (hb : ¬ b < 0) (w : World) : (eqGuard .shr t x y (.int k a) (.int k' b) >>= fun _ => binOp .shr t (.int k a) (.int k' b)).run P w = .ok (.int k (bShr k a b)) w := by
  simp only [eqGuard, binOp, Op.shift, hb, if_false]
  rfl
theorem triShl {t t' : TypeId} {x y : Operand} {k k' : IntKind} {a b c : Int} (h : shO b (bShl k a b) = some c) (hx : rdV F x = some (.int k a)) (hy : rdV F y = some (.int k' b)) (hs : sideOk F true [x, y]) (hn : Nat.blt dst C.n = true) :
    TriL P C ops ⟨some dst, .binOp .shl t x y t', ty, pos, after, none⟩ ⟨slotsOf [x, y], [], [dst], []⟩ [(dst, .s (.c (.d (.v (.int k c)))))] [] F := by
  obtain ⟨hb, rfl⟩ := shO_spec h
  refine ⟨⟨rfl, rfl⟩, fun F' hS => ?_⟩
  have h1 := opnd_same hS.1
  refine Tri.quiet (x := .c (.d (.v (.int k (bShl k a b))))) rfl rfl hn (fun ρ M a' w hr => ⟨_, ?_, Rep.v _⟩)
  have hR := reads_of hr rfl (sideOk_same h1 hs)
  unfold execOp
  simp only
  rw [rdV_eval hR (by simp) ((rdV_same (h1 x (by simp))).trans hx), rdV_eval hR (by simp) ((rdV_same (h1 y (by simp))).trans hy)]
  exact bind_value (shl_run hb w)
theorem triShr {t t' : TypeId} {x y : Operand} {k k' : IntKind} {a b c : Int} (h : shO b (bShr k a b) = some c) (hx : rdV F x = some (.int k a)) (hy : rdV F y = some (.int k' b)) (hs : sideOk F true [x, y]) (hn : Nat.blt dst C.n = true) :
    TriL P C ops ⟨some dst, .binOp .shr t x y t', ty, pos, after, none⟩ ⟨slotsOf [x, y], [], [dst], []⟩ [(dst, .s (.c (.d (.v (.int k c)))))] [] F := by
  obtain ⟨hb, rfl⟩ := shO_spec h
  refine ⟨⟨rfl, rfl⟩, fun F' hS => ?_⟩
  have h1 := opnd_same hS.1
  refine Tri.quiet (x := .c (.d (.v (.int k (bShr k a b))))) rfl rfl hn (fun ρ M a' w hr => ⟨_, ?_, Rep.v _⟩)
  have hR := reads_of hr rfl (sideOk_same h1 hs)
  unfold execOp
  simp only
  rw [rdV_eval hR (by simp) ((rdV_same (h1 x (by simp))).trans hx), rdV_eval hR (by simp) ((rdV_same (h1 y (by simp))).trans hy)]
  exact bind_value (shr_run hb w)

/-! ### a function without a body, over values -/
def ExtP (P : Program) (f : FuncId) (vs : List Value) (v : Value) : Prop := ∀ w : World, (callFunc f vs.toArray).run P w = .ok (.value v) w
theorem triExt {f : FuncId} {args : Array Operand} {argTypes : Array TypeId} {vs : List Value} {v : Value} {x : A1} (he : ExtP P f vs v) (hv : rdVs F args.toList = some vs) (hx : ofV v = x) (hs : sideOk F true args.toList) (hn : Nat.blt dst C.n = true) :
    TriL P C ops ⟨some dst, .call ⟨.value (.func f), args, argTypes⟩, ty, pos, after, none⟩ ⟨slotsOf args.toList, [], [dst], []⟩ [(dst, .s x)] [] F := by
  subst hx
  refine ⟨⟨rfl, rfl⟩, fun F' hS => ?_⟩
  have h1 := opnd_same hS.1
  refine Tri.quiet (x := ofV v) rfl rfl hn (fun ρ M a w hr => ⟨v, ?_, ofV_rep v ρ M⟩)
  have e0 := rdVs_eval (reads_of hr rfl (sideOk_same h1 hs)) ((rdVs_same h1).trans hv)
  unfold execOp
  have e1 : args.map a.eval = vs.toArray := by
    rw [← e0]; apply Array.ext'; simp
  simp only [resolve, e1, Act.eval, Deferred.ofValue, pure_bind, invoke, Array.append_empty, Array.empty_append]
  exact he w

/-! ### arrays in an owned block, at an index that is not known -/
def arrC {α : Type} (n : Nat) (e1 : α → D) (a : Nat → α) : List Cell := (List.range n).map fun i => .d (e1 (a i))
def upd {α : Type} (a : Nat → α) (k : Nat) (x : α) : Nat → α := fun i => if i = k then x else a i
theorem arrC_len {α : Type} (n : Nat) (e1 : α → D) (a : Nat → α) : (arrC n e1 a).length = n := by simp [arrC]
theorem arr_get {α : Type} {n : Nat} {e1 : α → D} {a : Nat → α} {pre post : List Cell} {p k : Nat} (hp : pre.length = p) (hk : k < n) : (pre ++ (arrC n e1 a ++ post))[p + k]? = some (.d (e1 (a k))) := by
  subst hp
  rw [List.getElem?_append_right (by omega), show pre.length + k - pre.length = k by omega, List.getElem?_append_left (by rw [arrC_len]; exact hk)]
  simp [arrC, hk]
theorem arr_set {α : Type} {n : Nat} {e1 : α → D} {a : Nat → α} {pre post : List Cell} {p k : Nat} {x : α} (hp : pre.length = p) (hk : k < n) : (pre ++ (arrC n e1 a ++ post)).set (p + k) (.d (e1 x)) = pre ++ (arrC n e1 (upd a k x) ++ post) := by
  subst hp
  rw [List.set_append_right _ _ (by omega), show pre.length + k - pre.length = k by omega, List.set_append_left _ _ (by rw [arrC_len]; exact hk)]
  congr 2
  apply List.ext_getElem?
  intro i
  rcases Nat.lt_or_ge i n with hi | hi
  · by_cases e : k = i
    · subst e
      rw [List.getElem?_set_self (by rw [arrC_len]; exact hk)]
      simp [arrC, hi, upd]
    · rw [List.getElem?_set_ne e]
      have : i ≠ k := Ne.symm e
      simp [arrC, hi, upd, this]
  · rw [List.getElem?_eq_none (by simp [arrC_len]; exact hi), List.getElem?_eq_none (by simp [arrC_len]; exact hi)]
theorem triIdxA {t n j off : Nat} {x i : Operand} {ik : IntKind} {z : Int} {k : Nat} (hi : ixO n z = some k) (hx : rd F x = some (.c (.loc j off))) (hz : rdV F i = some (.int ik z)) (ht : arrInfo P t = some (n, 1)) (hs : sideOk F true [x, i]) (hd : Nat.blt dst C.n = true) :
    TriL P C ops ⟨some dst, .indexAddr t x i, ty, pos, after, none⟩ ⟨slotsOf [x, i], [], [dst], []⟩ [(dst, .s (.c (.loc j (off + k))))] [] F := by
  obtain ⟨rfl, hk⟩ := ixO_spec hi
  refine ⟨⟨rfl, rfl⟩, fun F' hS => ?_⟩
  have h1 := opnd_same hS.1
  refine Tri.quiet (x := .c (.loc j (off + k))) rfl rfl hd (fun ρ M a w hr => ?_)
  have hR := reads_of hr rfl (sideOk_same h1 hs)
  have e : a.eval x = ptr ρ j off := hR x (by simp) _ ((rd_same (h1 x (by simp))).trans hx)
  refine ⟨_, ?_, rfl⟩
  unfold execOp
  simp only
  rw [e, rdV_eval hR (by simp) ((rdV_same (h1 i (by simp))).trans hz)]
  have := arrInfo_run (P := P) (b := blockOf (ρ j)) (off := off) (k := ik) ht (Int.natCast_nonneg k) (Int.ofNat_lt.mpr hk) w
  rw [Int.toNat_natCast, Nat.mul_one] at this
  exact bind_value this
theorem triIdxAG {t n j off : Nat} {x i : Operand} {ik : IntKind} {z : Int} {k : Nat} {gk : Nat} {want g : Bool} (hi : g = true → ixO n z = some k) (hb : guardB F ops gk want = some g) (hx : rd F x = some (.c (.loc j off))) (hz : rdV F i = some (.int ik z)) (ht : arrInfo P t = some (n, 1)) (hs : sideOk F g [x, i]) (hd : Nat.blt dst C.n = true) :
    TriL P C ops ⟨some dst, .indexAddr t x i, ty, pos, after, some (gk, want)⟩ ⟨gSlot ops gk ++ slotsOf [x, i], [], [dst], []⟩ [(dst, .gd g (.c (.loc j (off + k))))] [] F := by
  refine ⟨⟨rfl, rfl⟩, fun F' hS => ?_⟩
  have h1 := opnd_same (F := F) (F' := F') (xs := [x, i]) (fun t ht => hS.1 t (by simp [ht]))
  refine Tri.quietG (x := .c (.loc j (off + k))) rfl ((guardB_same (fun t ht => hS.1 t (by simp [ht]))).trans hb) rfl hd (fun hg ρ M a w hr => ?_)
  obtain ⟨rfl, hk⟩ := ixO_spec (hi hg)
  have hR := reads_of hr hg (sideOk_same h1 hs)
  have e : a.eval x = ptr ρ j off := hR x (by simp) _ ((rd_same (h1 x (by simp))).trans hx)
  refine ⟨_, ?_, rfl⟩
  unfold execOp
  simp only
  rw [e, rdV_eval hR (by simp) ((rdV_same (h1 i (by simp))).trans hz)]
  have := arrInfo_run (P := P) (b := blockOf (ρ j)) (off := off) (k := ik) ht (Int.natCast_nonneg k) (Int.ofNat_lt.mpr hk) w
  rw [Int.toNat_natCast, Nat.mul_one] at this
  exact bind_value this
theorem loadAt_run {ρ : Env} {M : Mem} {w : World} {j o t : Nat} {cs : List Cell} {u : TypeId} {c : Cell} (hi : Inv1 ρ M w (.blk cs u) (ρ j)) (hc : cs[o]? = some c) (ht : tinfo P t = some (1, false)) : ∃ v, (Instr.loadAt t (ptr ρ j o)).run P w = .ok v w ∧ c.rep ρ M v := by
  obtain ⟨⟨arr, g1, g2⟩, _⟩ := hi
  obtain ⟨v, h1, h2⟩ := g2.get o c hc
  refine ⟨v, ?_, h2⟩
  show (loadVar t ⟨blockOf (ρ j), o, none⟩).run P w = _
  unfold loadVar
  rw [run_bind_ok (tinfo_agg ht w), if_neg (by simp)]
  refine load_run ?_
  simp only [World.cell?, g1]
  simpa using h1
theorem triLoadA {t j o : Nat} {x : Operand} {cs : List Cell} {u : TypeId} {c : Cell} (hc : cs[o]? = some c) (hx : rd F x = some (.c (.loc j o))) (hj : F.bl j = some (.blk cs u)) (ht : tinfo P t = some (1, false)) (hs : sideOk F true [x]) (hd : Nat.blt dst C.n = true) :
    TriL P C ops ⟨some dst, .load t x, ty, pos, after, none⟩ ⟨slotsOf [x], [j], [dst], []⟩ [(dst, .s (.c c))] [] F := by
  refine ⟨⟨rfl, rfl⟩, fun F' hS => ?_⟩
  have h1 := opnd_same hS.1
  refine Tri.quiet (x := .c c) rfl rfl hd (fun ρ M a w hr => ?_)
  have hR := reads_of hr rfl (sideOk_same h1 hs)
  have e : a.eval x = ptr ρ j o := hR x (by simp) _ ((rd_same (h1 x (by simp))).trans hx)
  obtain ⟨v, g1, g2⟩ := loadAt_run (P := P) (hr.heap.inv j _ ((hS.2 j (by simp)).trans hj)) hc ht
  refine ⟨v, ?_, g2⟩
  unfold execOp
  simp only
  rw [e]
  exact bind_value g1
theorem triLoadAG {t j o : Nat} {x : Operand} {cs : List Cell} {u : TypeId} {c : Cell} {gk : Nat} {want g : Bool} (hc : g = true → cs[o]? = some c) (hb : guardB F ops gk want = some g) (hx : rd F x = some (.c (.loc j o))) (hj : F.bl j = some (.blk cs u)) (ht : tinfo P t = some (1, false)) (hs : sideOk F g [x]) (hd : Nat.blt dst C.n = true) :
    TriL P C ops ⟨some dst, .load t x, ty, pos, after, some (gk, want)⟩ ⟨gSlot ops gk ++ slotsOf [x], [j], [dst], []⟩ [(dst, .gd g (.c c))] [] F := by
  refine ⟨⟨rfl, rfl⟩, fun F' hS => ?_⟩
  have h1 := opnd_same (F := F) (F' := F') (xs := [x]) (fun t ht => hS.1 t (by simp [ht]))
  refine Tri.quietG (x := .c c) rfl ((guardB_same (fun t ht => hS.1 t (by simp [ht]))).trans hb) rfl hd (fun hg ρ M a w hr => ?_)
  have hR := reads_of hr hg (sideOk_same h1 hs)
  have e : a.eval x = ptr ρ j o := hR x (by simp) _ ((rd_same (h1 x (by simp))).trans hx)
  obtain ⟨v, g1, g2⟩ := loadAt_run (P := P) (hr.heap.inv j _ ((hS.2 j (by simp)).trans hj)) (hc hg) ht
  refine ⟨v, ?_, g2⟩
  unfold execOp
  simp only
  rw [e]
  exact bind_value g1
theorem triStoreA {t j o : Nat} {x y : Operand} {cs cs' : List Cell} {u : TypeId} {c : Cell} {b : Bool} (hset : cs.set o c = cs') (ho : o < cs.length) (hx : opnd F x = some (.s (.c (.loc j o)))) (hj : F.bl j = some (.blk cs u)) (hy : opnd F y = some (.s (.c c))) (hp : c.single = true) (ht : tinfo P t = some (1, b)) :
    TriL P C ops ⟨none, .store t x y, ty, pos, after, none⟩ ⟨slotsOf [x, y], [j], [], [j]⟩ [] [(j, .blk cs' u)] F :=
  triStore hx hj hy hp (by simp [A1.cells, allSingle, hp]) ht rfl (Nat.ble_eq.mpr (by omega)) (by simp [A1.cells, setCells, hset])

/-! ### append to a slice that is written -/
theorem appendV_run {α : Type} {enc : α → List D} {L X R : List α} {M : Mem} {w : World} {x : Value} {ts tx e sz : Nat} {ρ : Env} {bl : Nat → Option Ob} {j j' : Nat} (ht : slInfo P ts = some (e, sz)) (hx' : isSl P tx = true) (hby : bytesOk P e = true) (hsz : allR sz enc) (hone : ∀ x, rowOne (enc x) = true)
    (happ : appO L X = some R) (hx : Rep M (.sl (X.map enc)) x) (hrw : RelW C bl ρ M w) (hj : bl j = some (.vec sz (L.map enc))) :
    ∃ u w', (Builtin.append_ #[ts, tx] ty #[ρ j, x]).run P w = .ok u w' ∧ ∀ ρ' bl', RelW C bl ρ' M w → ρ' j' = u → (∀ k o, bl' k = some o → o = .dead ∨ (k = j' ∧ o = .vec sz (R.map enc)) ∨ (bl k = some o ∧ k ≠ j)) → ρ' j = ρ j → RelW C bl' ρ' M w' := by
  obtain ⟨hlen, rfl⟩ := appO_spec happ
  obtain ⟨hu, inf, hinf, hisz⟩ := slInfo_spec ht
  obtain ⟨sa, scap, e1, hcap, hvx⟩ := vec_flat (hrw.inv j _ hj)
  obtain ⟨xa, xcap, rfl⟩ := hx.sl_cases
  simp only [List.length_map] at hx ⊢
  obtain ⟨news, hn1, hn2⟩ := firstCells_run (P := P) (w := w) hx (rows_map hsz X) hrw.mem
  simp only [List.length_map] at hn1
  have hnl : news.length = X.length * sz := by rw [hn2.len, flatten_len (rows_map hsz X), List.length_map]
  obtain ⟨e', htt⟩ : ∃ e', (underlying tx).run P w = .ok (.slice e') w := by
    unfold isSl at hx'
    split at hx'
    · rename_i e' hu'
      exact ⟨e', by simp [underlying, program, Sem.run, hu']⟩
    · cases hx'
  have hLX : (L ++ X).length = L.length + X.length := by simp
  have hflat : ((L ++ X).map enc).flatten = (L.map enc).flatten ++ (X.map enc).flatten := by rw [List.map_append, List.flatten_append]
  have hmul : (L.length + X.length) * sz = L.length * sz + X.length * sz := Nat.add_mul ..
  rw [e1]
  by_cases hfit : L.length + X.length ≤ scap
  · by_cases hcap0 : 0 < scap
    · obtain ⟨b, off, arr, ty', vs, rfl, hb, hroom, hnone, hvs, hvc⟩ := hvx hcap0
      have hvl : vs.length = L.length * sz := by rw [hvs.len, flatten_len (rows_map hsz L), List.length_map]
      have hroom' : off + (L.length + X.length) * sz ≤ arr.size := Nat.le_trans (Nat.add_le_add_left (Nat.mul_le_mul_right sz hfit) off) hroom
      obtain ⟨w', q1, q2, q3, q4, q5, q6, q7⟩ := storeCells_run (P := P) (b := b) (off := off + L.length * sz) (ty := ty') news 0 w arr hb (rowOne_rep (rowOne_flat hone X) hn2) (by omega)
      rw [Nat.add_zero] at q2
      refine ⟨.slice (some ⟨b, off, none⟩) (L.length + X.length) scap, w', ?_, fun ρ' bl' hr' hρ' hbl hρj => ?_⟩
      · unfold Builtin.append_
        simp only [List.getElem?_toArray, List.getElem?_cons_zero, List.getElem?_cons_succ]
        rw [run_bind_ok (slInfo_under ht w)]
        simp only
        rw [run_bind_ok (slInfo_size ht w)]
        simp only [pure_bind]
        rw [run_bind_ok htt]
        simp only [Bool.false_eq_true, if_false, Builtin.lenOf, pure_bind, Bool.not_false, if_true]
        rw [if_pos hfit, run_bind_ok hn1]
        simp only [add_none]
        rw [run_bind_ok q1]
        rfl
      · have hρj' : ρ' j = .slice (some ⟨b, off, none⟩) L.length scap := by first | exact hρj | exact hρj.trans e1
        have hown : (Ob.vec sz (L.map enc)).blkOf (ρ' j) = some b := by rw [hρj']; simp [Ob.blkOf, hcap0]
        refine hr'.change j' (fun x => x = b) ?_ ⟨q5, q6, q7, Nat.le_of_eq q4.symm⟩ (fun x _ hx => q3 x hx) (Mem.le_refl _) (fun _ _ _ => ⟨fun _ => rfl, rfl⟩) ?_ (fun k o hk => ?_)
        · rintro x rfl _
          exact hr'.priv j _ _ hj hown
        · rintro x (rfl | hx)
          · exact ⟨fun o v hv => (by rw [hnone o] at hv; cases hv), fun o ho => (by rw [hr'.mem.noObj hb] at ho; cases ho)⟩
          · have := hr'.mem.none hx
            exact ⟨fun o v hv => (by rw [this.1 o] at hv; cases hv), fun o ho => (by rw [this.2] at ho; cases ho)⟩
        · rcases hbl k o hk with rfl | ⟨rfl, rfl⟩ | ⟨h1, h2⟩
          · exact .inl rfl
          · refine .inr (.inr ⟨rfl, ?_, fun x hx => .inl ?_⟩)
            · rw [hρ', ← hLX]
              refine vec_of (vs := vs ++ news) hsz (by rw [hLX]; exact hfit) q2 (by simp [setV_len]; exact hroom) hnone (by rw [hflat]; exact hvs.append hn2) (fun q u hq => ?_)
              rw [List.getElem?_toArray, setV_get _ _ _ _ (by have : arr.toList.length = arr.size := Array.length_toList; omega)]
              rcases Nat.lt_or_ge q vs.length with h1 | h1
              · rw [List.getElem?_append_left h1] at hq
                rw [if_neg (by omega)]
                simpa using hvc q u hq
              · rw [List.getElem?_append_right h1] at hq
                have h3 := (List.getElem?_eq_some_iff.1 hq).1
                rw [if_pos (by omega), show off + q - (off + L.length * sz) = q - vs.length by omega]; exact hq
            · rw [hρ'] at hx
              simp only [Ob.blkOf, hcap0, if_true, Option.some.injEq] at hx
              exact hx.symm
          · refine .inr (.inl ⟨h1, fun x hx hS => ?_⟩)
            subst hS
            exact h2 (hr'.dist k j _ _ _ h1 hj hx hown)
    · have hL : L = [] := List.eq_nil_of_length_eq_zero (by omega)
      have hX : X = [] := List.eq_nil_of_length_eq_zero (by omega)
      subst hL hX
      have hc0 : scap = 0 := by omega
      subst hc0
      have hn0 : news = [] := by apply List.eq_nil_of_length_eq_zero; rw [hnl]; simp
      subst hn0
      refine ⟨.slice sa 0 0, w, ?_, fun ρ' bl' hr' hρ' hbl hρj => ?_⟩
      · unfold Builtin.append_
        simp only [List.getElem?_toArray, List.getElem?_cons_zero, List.getElem?_cons_succ]
        rw [run_bind_ok (slInfo_under ht w)]
        simp only
        rw [run_bind_ok (slInfo_size ht w)]
        simp only [pure_bind]
        rw [run_bind_ok htt]
        simp only [Bool.false_eq_true, if_false, Builtin.lenOf, pure_bind, Bool.not_false, if_true]
        rw [if_pos hfit, run_bind_ok hn1]
        cases sa <;> rfl
      · refine hr'.change j' (fun _ => False) (fun _ h => h.elim) ⟨rfl, rfl, rfl, Nat.le_refl _⟩ (fun _ _ _ => rfl) (Mem.le_refl _) (fun _ _ _ => ⟨fun _ => rfl, rfl⟩) (fun b _ => ⟨fun o v hv => hr'.mem.cell b o v hv, fun o ho => hr'.mem.obj b o ho⟩) (fun k o hk => ?_)
        rcases hbl k o hk with rfl | ⟨rfl, rfl⟩ | ⟨h1, h2⟩
        · exact .inl rfl
        · refine .inr (.inr ⟨rfl, ?_, fun x hx => ?_⟩)
          · rw [hρ']
            exact ⟨sa, 0, rfl, Nat.le_refl _, fun i row hi => by simp at hi, fun h => absurd h (by omega)⟩
          · rw [hρ'] at hx
            cases sa with
            | none => cases hx
            | some a => simp [Ob.blkOf] at hx
        · exact .inr (.inl ⟨h1, fun _ _ h => h⟩)
  · -- a new row
    have hby' : ∃ zv, inf.zero = some zv ∧ zv.cells.size = inf.size ∧ inf.bytes ≤ 65536 := by
      unfold bytesOk at hby
      rw [hinf] at hby
      simp only at hby
      split at hby
      · rename_i zv hz
        split at hby
        · rename_i hq; exact ⟨zv, hz, Nat.eq_of_beq_eq_true hq, Nat.le_of_ble_eq_true hby⟩
        · cases hby
      · cases hby
    obtain ⟨zv, hzv, hzsz, hbytes⟩ := hby'
    have hti : ∀ w : World, (typeInfo e).run P w = .ok inf w := fun w => by simp [typeInfo, program, Sem.run, hinf]
    have hzr : ∀ w : World, (zeroValue e).run P w = .ok zv w := fun w => by simp [zeroValue, typeInfo, program, Sem.run, hinf, hzv]
    have hnc := nextcap_le (n := L.length + X.length) (c := scap) (by omega)
    have hnb : Builtin.nextslicecap (L.length + X.length) scap * inf.bytes ≤ 2 ^ 48 := by
      have h1 : Builtin.nextslicecap (L.length + X.length) scap ≤ 2147483840 := by omega
      exact Nat.le_trans (Nat.mul_le_mul h1 hbytes) (by decide)
    obtain ⟨newCap, hnc2, w1, hw1, hch⟩ : ∃ newCap, L.length + X.length ≤ newCap ∧ ∃ w1 : World, w1 = { w with drawn := w.drawn + 1 } ∧ ∀ (K : Nat → Sem Value), (choose (.appendCap (L.length + X.length) scap e) >>= K).run P w = (K newCap).run P w1 :=
      ⟨(Question.appendCap (L.length + X.length) scap e).cut (w.tape w.drawn (.appendCap (L.length + X.length) scap e)), by simp [Question.cut], _, rfl, fun K => by simp [choose, Sem.run, Question.forced, bind, Sem.bind]⟩
    have hin1 : InW M w1 := by subst hw1; exact ⟨hrw.mem.cell, hrw.mem.obj⟩
    have hold : ∃ olds, (Builtin.firstCells sz L.length (.slice sa L.length scap)).run P w1 = .ok olds.toArray w1 ∧ RepsD M (L.map enc).flatten olds := by
      by_cases hcap0 : 0 < scap
      · obtain ⟨b, off, arr, ty', vs, rfl, hb, hroom, hnone, hvs, hvc⟩ := hvx hcap0
        have hvl : vs.length = L.length * sz := by rw [hvs.len, flatten_len (rows_map hsz L), List.length_map]
        refine ⟨vs, ?_, hvs⟩
        show (loadCells ⟨b, off, none⟩ (L.length * sz)).run P w1 = _
        rw [← hvl]
        refine loadCells_run vs (fun i v hi => ?_)
        have := hvc i v hi
        simp only [World.cell?, hw1, hb]
        simpa using this
      · have hL : L = [] := List.eq_nil_of_length_eq_zero (by omega)
        subst hL
        refine ⟨[], ?_, trivial⟩
        cases sa with
        | none => rfl
        | some a =>
          show (loadCells a (0 * sz)).run P w1 = _
          rw [Nat.zero_mul]; rfl
    obtain ⟨olds, ho3, ho4⟩ := hold
    obtain ⟨news1, hn3, hn4⟩ := firstCells_run (P := P) (w := w1) hx (rows_map hsz X) hin1
    simp only [List.length_map] at hn3
    have hol : olds.length = L.length * sz := by rw [ho4.len, flatten_len (rows_map hsz L), List.length_map]
    have hnl1 : news1.length = X.length * sz := by rw [hn4.len, flatten_len (rows_map hsz X), List.length_map]
    have hroomr : ∀ n, ∀ w : World, (askRoom n).run P w = .ok () w := fun n w => by
      unfold askRoom; split <;> rfl
    let rest := Builtin.zeroCells zv.cells (newCap - (L.length + X.length))
    have hw1h : w1.heap = w.heap := by rw [hw1]
    refine ⟨.slice (some ⟨w.heap.size, 0, none⟩) (L.length + X.length) newCap, w1.alloc (.cells (olds ++ news1 ++ rest.toList).toArray e), ?_, fun ρ' bl' hr' hρ' hbl hρj => ?_⟩
    · unfold Builtin.append_
      simp only [List.getElem?_toArray, List.getElem?_cons_zero, List.getElem?_cons_succ]
      rw [run_bind_ok (slInfo_under ht w)]
      simp only
      rw [run_bind_ok (slInfo_size ht w)]
      simp only [pure_bind]
      rw [run_bind_ok htt]
      simp only [Bool.false_eq_true, if_false, Builtin.lenOf, pure_bind, Bool.not_false, if_true]
      rw [if_neg hfit, run_bind_ok (hti w)]
      rw [if_neg (by
        intro h
        have h1 := h.1
        have h2 : IntKind.i64.max = 9223372036854775807 := by decide
        rw [h2] at h1
        omega)]
      rw [run_bind_ok (hti w)]
      rw [if_neg (by omega), hch]
      rw [run_bind_ok (hti w1), run_bind_ok (hroomr _ w1), run_bind_ok ho3, run_bind_ok hn3, run_bind_ok (hzr w1)]
      have e1 : olds.toArray ++ news1.toArray ++ rest = (olds ++ news1 ++ rest.toList).toArray := by apply Array.ext'; simp
      show (do let y ← newRow e (olds.toArray ++ news1.toArray ++ rest); pure (Value.slice (some y) (L.length + X.length) newCap) : Sem Value).run P w1 = _
      rw [e1, ← hw1h]
      rfl
    · have hr1 : RelW C bl ρ' M w1 := by subst hw1; exact hr'.drew _
      refine hr1.change j' (fun _ => False) (fun _ h => h.elim) ⟨rfl, rfl, rfl, by rw [alloc_heap]; simp⟩ (fun b hb _ => alloc_old hb) (Mem.le_refl _) (fun _ _ _ => ⟨fun _ => rfl, rfl⟩) (fun b hb => ?_) (fun k o hk => ?_)
      · rcases hb with hb | hb
        · exact hb.elim
        · have := hr1.mem.none hb
          exact ⟨fun o v hv => (by rw [this.1 o] at hv; cases hv), fun o ho => (by rw [this.2] at ho; cases ho)⟩
      · rcases hbl k o hk with rfl | ⟨rfl, rfl⟩ | ⟨h1, h2⟩
        · exact .inl rfl
        · refine .inr (.inr ⟨rfl, ?_, fun x hx => .inr ?_⟩)
          · rw [hρ', ← hLX, ← hw1h]
            refine vec_of (vs := olds ++ news1) hsz (by rw [hLX]; exact hnc2) (alloc_new _ _) ?_ (fun o => (hin1.none (Nat.le_refl _)).1 o) (by rw [hflat]; exact ho4.append hn4) (fun q u hq => ?_)
            · have hrs : rest.size = (newCap - (L.length + X.length)) * sz := by simp [rest, Builtin.zeroCells, hzsz, hisz]
              have h5 : newCap * sz = (L.length + X.length) * sz + (newCap - (L.length + X.length)) * sz := by rw [← Nat.add_mul]; congr 1; omega
              simp only [List.size_toArray, List.length_append, Array.length_toList]
              omega
            · have hql := (List.getElem?_eq_some_iff.1 hq).1
              rw [Nat.zero_add, List.getElem?_toArray, List.getElem?_append_left hql]; exact hq
          · rw [hρ'] at hx
            simp only [Ob.blkOf] at hx
            split at hx
            · cases hx; rw [hw1h]; exact Nat.le_refl _
            · cases hx
        · exact .inr (.inl ⟨h1, fun _ _ h => h⟩)
theorem triAppV {α : Type} {enc : α → List D} {L X R : List α} {ts tx e sz : Nat} {s x : Operand} {j j' : Nat} (happ : appO L X = some R) (hs : opnd F s = some (.s (.c (.own j)))) (hj : F.bl j = some (.vec sz (L.map enc))) (hx : rdS F x = some (X.map enc)) (ht : slInfo P ts = some (e, sz)) (htx : isSl P tx = true) (hby : bytesOk P e = true) (hsz : allR sz enc) (hone : ∀ x, rowOne (enc x) = true)
    (hsd : sideOk F true [s, x]) (hd : Nat.blt dst C.n = true) (hj' : F.bl j' = none) :
    TriL P C ops ⟨some dst, .call ⟨.builtin .append, #[s, x], #[ts, tx]⟩, ty, pos, after, none⟩ ⟨slotsOf [s, x], [j, j'], [dst], [j', j]⟩ [(dst, .s (.c (.own j')))] [(j', .vec sz (R.map enc)), (j, .dead)] F := by
  refine ⟨⟨rfl, rfl⟩, fun F' hS => ?_⟩
  have h1 := opnd_same hS.1
  have hs' := (h1 s (by simp)).trans hs
  have hj1 : F'.bl j = some (.vec sz (L.map enc)) := (hS.2 j (by simp)).trans hj
  have hj2 : F'.bl j' = none := (hS.2 j' (by simp)).trans hj'
  refine Tri.val [j'] rfl rfl hd (fun k hk => by simp at hk; subst hk; exact hj2) (fun k hk => dom_over hk) (fun k hk => by simp at hk; subst hk; simp [over, look]) (fun ρ M a w hr => ?_)
  have hR := reads_of hr rfl (sideOk_same h1 hsd)
  have es : a.eval s = ρ j := opnd_rep hr hs'
  have hrx := rdS_rep hR (by simp) ((rdS_same (h1 x (by simp))).trans hx)
  obtain ⟨u, w', g1, g4⟩ := appendV_run (P := P) (ty := ty) (j := j) (j' := j') ht htx hby hsz hone happ hrx hr.heap hj1
  refine ⟨u, w', M, fun _ => u, ?_, Mem.le_refl _, fun ρ' h0 hnv => ⟨(hnv j' (by simp)).symm, ?_⟩⟩
  · unfold execOp
    simp only [resolve, List.map_toArray, List.map_cons, List.map_nil, pure_bind, invoke, es]
    exact bind_value g1
  · have es' : a.eval s = ρ' j := opnd_rep h0 hs'
    refine g4 ρ' _ h0.heap (hnv j' (by simp)) (fun k o hk => ?_) (es'.symm.trans es)
    have hk' : over [(j', Ob.vec sz (R.map enc)), (j, Ob.dead)] F'.bl k = some o := hk
    unfold over at hk'
    rw [look_cons, look_cons] at hk'
    by_cases e1 : j' = k
    · subst e1; rw [if_pos rfl] at hk'; cases hk'; exact .inr (.inl ⟨rfl, rfl⟩)
    · rw [if_neg e1] at hk'
      by_cases e2 : j = k
      · subst e2; rw [if_pos rfl] at hk'; cases hk'; exact .inl rfl
      · rw [if_neg e2] at hk'
        exact .inr (.inr ⟨hk', fun e => e2 e.symm⟩)

/-! ### a guarded call that writes -/
theorem triCallGW [HasTab P C] {f : FuncId} {args : Array Operand} {argTypes : Array TypeId} {ys as : List A1} {bl bl' : List (Nat × Ob)} {x : A1} {gk : Nat} {want g : Bool} (σ : Nat → Nat) (x' : A1) (Wb : List (Nat × Ob)) (hc : g = true → Con P f as bl (.s x) bl') (hoff : g = false → bl' = bl) (hb : guardB F ops gk want = some g) (hy : rds F args.toList = some ys) (hfit : Fits ys (as.map (A1.ren σ))) (hs : sideOk F g args.toList) (hf : Entry P f)
    (hl : lentOk F σ bl) (hdom : domB bl' bl = true) (hap : apart σ bl' = true) (hsc : blIn bl bl = true) (hsa : a1sIn bl as = true) (hnew : newNames σ bl bl' = []) (hn : Nat.blt dst C.n = true) (hres : x.ren σ = x') (hWb : renBl σ bl' = Wb) :
    TriL P C ops ⟨some dst, .call ⟨.value (.func f), args, argTypes⟩, ty, pos, after, some (gk, want)⟩ ⟨gSlot ops gk ++ slotsOf args.toList, Wb.map (·.1), [dst], Wb.map (·.1)⟩ [(dst, .gd g x')] Wb F := by
  subst hres hWb
  refine ⟨⟨rfl, rfl⟩, fun F' hS => ?_⟩
  have h1 := opnd_same (F := F) (F' := F') (xs := args.toList) (fun t ht => hS.1 t (by simp [ht]))
  have hb' := (guardB_same (want := want) (fun t ht => hS.1 t (by simp [ht]))).trans hb
  obtain ⟨fn, hf1, hf2, hf3⟩ := hf
  have hbb : ∀ i, look bl' i ≠ none → F'.bl (σ i) = F.bl (σ i) := fun i hi => by
    obtain ⟨o2, ho2⟩ := Option.ne_none_iff_exists'.1 hi
    have := renBl_look hap i o2 ho2
    exact hS.2 _ (mem_of_look (by rw [this]; simp))
  have hl' : lentOk F' σ bl := by
    have : ∀ (l : List (Nat × Ob)), (∀ p ∈ l, look bl' p.1 ≠ none) → lentOk F σ l → lentOk F' σ l := by
      intro l
      induction l with
      | nil => intro _ _; trivial
      | cons p r ih =>
        obtain ⟨i, o⟩ := p
        intro hm h
        exact ⟨(hbb i (hm (i, o) (by simp))).trans h.1, ih (fun q hq => hm q (by simp [hq])) h.2⟩
    exact this bl (fun p hp => domB_spec hdom p.1 (look_of_mem (List.mem_map_of_mem hp))) hl
  cases g with
  | false =>
    intro Q' K' hK ρ M a w hr
    rw [guardB_wanted hr.at rfl hb', if_neg (by simp)]
    have e := hoff rfl
    subst e
    have hover : over (renBl σ bl') F'.bl = F'.bl := by
      funext k
      unfold over
      cases hk : look (renBl σ bl') k with
      | none => rfl
      | some o =>
        obtain ⟨i, o', _, h2, h3, h4⟩ := renBl_inv hk
        rw [h2, lentOk_spec hl' i o' (h4 hap), h3]
    refine hK ρ M _ _ fun ρ' ha => ?_
    have h0 := hr ρ' (fun j hj => ha j (by show over (renBl σ bl') F'.bl j ≠ none; rw [hover]; exact hj))
    exact h0.put (v := .gd false (x.ren σ)) (Nat.blt_eq.mp hn) rfl (Mem.le_refl _) (by rw [hover]; exact h0.heap)
  | true =>
    intro Q' K' hK ρ M a w hr
    -- as the call without a guard
    have ht := Tri.call (P := P) (C := C) (F := F') (ops := ops) (o := ⟨some dst, .call ⟨.value (.func f), args, argTypes⟩, ty, pos, after, none⟩) (σ := σ) rfl rfl hn (hc rfl) hl' hdom hap hsc (by rw [hnew]; trivial) hsa (fun ρ M a w hr => ⟨args.toList.map a.eval, call_run rfl hf1 hf2 hf3, Fits.reps hfit (rds_rep (reads_of hr rfl (sideOk_same h1 hs)) ((rds_same h1).trans hy))⟩) Q' K' (fun ρ M a w hr => hK ρ M a w (fun ρ' ha => by
      have h0 := hr ρ' ha
      refine ⟨h0.defers, h0.size, fun s v hv => ?_, h0.heap⟩
      have hv' : over [(dst, AV.gd true (x.ren σ))] F'.sl s = some v := hv
      rw [over_one] at hv'
      split at hv'
      · rename_i e
        subst e
        cases hv'
        exact h0.slots dst (.s (x.ren σ)) (by show over [(dst, AV.s (x.ren σ))] F'.sl dst = _; rw [over_one, if_pos rfl])
      · rename_i e
        exact h0.slots s v (by show over [(dst, AV.s (x.ren σ))] F'.sl s = _; rw [over_one, if_neg e]; exact hv'))) ρ M a w hr
    rw [guardB_wanted hr.at rfl hb', if_pos rfl]
    rw [if_pos (wanted_none rfl)] at ht
    exact ht

/-- the same under a guard -/
theorem triLoanG [HasTab P C] {f : FuncId} {args : Array Operand} {argTypes : Array TypeId} {ys as : List A1} {x : A1} {gk : Nat} {want g : Bool} (hc : g = true → Con P f as [] (.s x) []) (hb : guardB F ops gk want = some g) (hy : rds F args.toList = some ys) (hfit : seen F ys as) (hs : sideOk F g args.toList) (hf : Entry P f) (hsa : a1sIn [] as = true) (hfl : flat1 x = true) (hn : Nat.blt dst C.n = true) :
    TriL P C ops ⟨some dst, .call ⟨.value (.func f), args, argTypes⟩, ty, pos, after, some (gk, want)⟩ ⟨gSlot ops gk ++ slotsOf args.toList, ownsOf ys, [dst], []⟩ [(dst, .gd g x)] [] F := by
  refine ⟨⟨rfl, rfl⟩, fun F' hS => ?_⟩
  have h1 := opnd_same (F := F) (F' := F') (xs := args.toList) (fun t ht => hS.1 t (by simp [ht]))
  have hb' := (guardB_same (want := want) (fun t ht => hS.1 t (by simp [ht]))).trans hb
  obtain ⟨fn, hf1, hf2, hf3⟩ := hf
  cases g with
  | false =>
    intro Q' K' hK ρ M a w hr
    rw [guardB_wanted hr.at rfl hb', if_neg (by simp)]
    refine hK ρ M _ _ fun ρ' ha => ?_
    have h0 := hr ρ' (fun j hj => ha j (by rw [FS.upd, over_nil]; exact hj))
    exact h0.put (v := .gd false x) (Nat.blt_eq.mp hn) rfl (Mem.le_refl _) (by rw [over_nil]; exact h0.heap)
  | true =>
    have ht := (triLoan (P := P) (C := C) (F := F') (ops := ops) (dst := dst) (ty := ty) (pos := pos) (after := after) (argTypes := argTypes) (res := .s x) (hc rfl) ((rds_same h1).trans hy) (seen_same hS.2 hfit) (sideOk_same h1 hs) ⟨fn, hf1, hf2, hf3⟩ hsa hfl hn).tri
    intro Q' K' hK ρ M a w hr
    have ht' := ht Q' K' (fun ρ M a w hr => hK ρ M a w (fun ρ' ha => by
      have h0 := hr ρ' ha
      refine ⟨h0.defers, h0.size, fun s v hv => ?_, h0.heap⟩
      have hv' : over [(dst, AV.gd true x)] F'.sl s = some v := hv
      rw [over_one] at hv'
      split at hv'
      · rename_i e
        subst e
        cases hv'
        exact h0.slots dst (.s x) (by show over [(dst, AV.s x)] F'.sl dst = _; rw [over_one, if_pos rfl])
      · rename_i e
        exact h0.slots s v (by show over [(dst, AV.s x)] F'.sl s = _; rw [over_one, if_neg e]; exact hv'))) ρ M a w hr
    rw [guardB_wanted hr.at rfl hb', if_pos rfl]
    rw [if_pos (wanted_none rfl)] at ht'
    exact ht'
/-- an exact empty slice in a cell of an owned block becomes one that may grow -/
theorem Conv.nilO {sl : List (Nat × AV)} {bl : List (Nat × Ob)} {nx : Nat} (j i jn sz : Nat) (cs cs' : List Cell) (u : TypeId) (nx' : Nat) (hj : look bl j = some (.blk cs u)) (hi : cs[i]? = some (.d (.v (.slice none 0 0)))) (hcs : cs.set i (.tl jn []) = cs') (hn : look bl jn = none) : Conv C ⟨sl, bl, nx⟩ ⟨sl, (j, .blk cs' u) :: (jn, .tail sz) :: bl, nx'⟩ := by
  subst hcs
  intro ρ M a w hr
  have hne : j ≠ jn := fun e => by subst e; rw [hj] at hn; cases hn
  refine ⟨fun k => if k = jn then .slice none 0 0 else ρ k, M, fun ρ' ha => ?_⟩
  have hag : Agree (look bl) ρ ρ' := fun k hk => by
    have hnk : k ≠ jn := fun e => hk (e ▸ hn)
    have := ha k (by
      show look ((j, _) :: (jn, _) :: bl) k ≠ none
      rw [look_cons]; split
      · simp
      · rw [look_cons, if_neg (Ne.symm hnk)]; exact hk)
    rw [this]; exact if_neg hnk
  have hnj : ρ' jn = .slice none 0 0 := by
    have := ha jn (by show look ((j, _) :: (jn, _) :: bl) jn ≠ none; rw [look_cons, if_neg hne, look_cons, if_pos rfl]; simp)
    rw [this]; exact if_pos rfl
  have h0 := hr ρ' hag
  refine ⟨h0.defers, h0.size, h0.slots, ?_⟩
  -- first the room, then the cell
  have h1 : RelW C (look ((jn, Ob.tail sz) :: bl)) ρ' M w := by
    refine h0.heap.change jn (fun _ => False) (fun _ h => h.elim) ⟨rfl, rfl, rfl, Nat.le_refl _⟩ (fun _ _ _ => rfl) (Mem.le_refl _) (fun _ _ _ => ⟨fun _ => rfl, rfl⟩) (fun b _ => ⟨fun o v hv => h0.heap.mem.cell b o v hv, fun o ho => h0.heap.mem.obj b o ho⟩) (fun k ob hk => ?_)
    rw [look_cons] at hk
    split at hk
    · rename_i e
      subst e
      cases hk
      refine .inr (.inr ⟨rfl, ?_, fun b hb => ?_⟩)
      · rw [hnj]; exact ⟨none, 0, 0, rfl, Nat.le_refl _, fun h => absurd h (Nat.lt_irrefl _)⟩
      · rw [hnj] at hb; cases hb
    · exact .inr (.inl ⟨hk, fun _ _ h => h⟩)
  have hj1 : look ((jn, Ob.tail sz) :: bl) j = some (.blk cs u) := by rw [look_cons, if_neg (Ne.symm hne)]; exact hj
  refine h1.change j (fun b => b = blockOf (ρ' j)) ?_ ⟨rfl, rfl, rfl, Nat.le_refl _⟩ (fun _ _ _ => rfl) (Mem.le_refl _) (fun _ _ _ => ⟨fun _ => rfl, rfl⟩) (fun b _ => ⟨fun o v hv => h1.mem.cell b o v hv, fun o ho => h1.mem.obj b o ho⟩) (fun k ob hk => ?_)
  · rintro b rfl _
    exact h1.priv j _ _ hj1 rfl
  · have hk' : look ((j, Ob.blk (cs.set i (.tl jn [])) u) :: (jn, Ob.tail sz) :: bl) k = some ob := hk
    rw [look_cons] at hk'
    split at hk'
    · rename_i e
      subst e
      cases hk'
      refine .inr (.inr ⟨rfl, ?_, fun b hb => .inl (by cases hb; rfl)⟩)
      obtain ⟨⟨arr, g1, g2⟩, g3⟩ := h1.inv j _ hj1
      refine ⟨⟨arr, g1, ?_⟩, g3⟩
      obtain ⟨v, h2, h3⟩ := g2.get i _ hi
      have hv := Rep.v_inv h3
      have := Reps.set (ρ := ρ') (M := M) (c := .tl jn []) (v := v) ⟨by rw [hv, hnj], by rw [hv]; exact Rep.nil⟩ i g2
      have e : arr.toList.set i v = arr.toList := by
        apply List.ext_getElem?
        intro q
        by_cases hq : i = q
        · subst hq
          rw [List.getElem?_set_self (List.getElem?_eq_some_iff.1 h2).1, h2]
        · rw [List.getElem?_set_ne hq]
      rw [e] at this
      exact this
    · rename_i e
      refine .inr (.inl ⟨hk', fun b hb hS => ?_⟩)
      subst hS
      exact e ((h1.dist k j _ _ _ hk' hj1 hb rfl).symm)

/-- the cells of an owned block, seen as plain data -/
theorem Conv.norm {sl : List (Nat × AV)} {bl : List (Nat × Ob)} {nx : Nat} (j : Nat) (cs cs' : List Cell) (u : TypeId) (nx' : Nat) (hj : look bl j = some (.blk cs u)) (hcs : cs.map Cell.norm = cs') : Conv C ⟨sl, bl, nx⟩ ⟨sl, (j, .blk cs' u) :: bl, nx'⟩ := by
  subst hcs
  intro ρ M a w hr
  refine ⟨ρ, M, fun ρ' ha => ?_⟩
  have h0 := hr ρ' (fun k hk => ha k (by
    show look ((j, _) :: bl) k ≠ none
    rw [look_cons]; split
    · simp
    · exact hk))
  refine ⟨h0.defers, h0.size, h0.slots, ?_⟩
  refine h0.heap.change j (fun b => b = blockOf (ρ' j)) ?_ ⟨rfl, rfl, rfl, Nat.le_refl _⟩ (fun _ _ _ => rfl) (Mem.le_refl _) (fun _ _ _ => ⟨fun _ => rfl, rfl⟩) (fun b _ => ⟨fun o v hv => h0.heap.mem.cell b o v hv, fun o ho => h0.heap.mem.obj b o ho⟩) (fun k ob hk => ?_)
  · rintro b rfl _
    exact h0.heap.priv j _ _ hj rfl
  · have hk' : look ((j, Ob.blk (cs.map Cell.norm) u) :: bl) k = some ob := hk
    rw [look_cons] at hk'
    split at hk'
    · rename_i e
      subst e
      cases hk'
      refine .inr (.inr ⟨rfl, ?_, fun b hb => .inl (by cases hb; rfl)⟩)
      obtain ⟨⟨arr, g1, g2⟩, g3⟩ := h0.heap.inv j _ hj
      exact ⟨⟨arr, g1, g2.norm⟩, g3⟩
    · rename_i e
      refine .inr (.inl ⟨hk', fun b hb hS => ?_⟩)
      subst hS
      exact e ((h0.heap.dist k j _ _ _ hk' hj hb rfl).symm)

/-! ### is a slice nil? a list that is not empty is not -/
theorem OkOps.eqNil {t t' : TypeId} {x : Operand} {l : List (List D)} {e : TypeId} {rest : List Oper} {Q : AState → Prop} {sl : List (Nat × AV)} {bl : List (Nat × Ob)} {nx : Nat} (hx : rdS ⟨look sl, look bl⟩ x = some l) (ht : P.underlying t = some (.slice e)) (hs : sideOk ⟨look sl, look bl⟩ true [x]) (hd : Nat.blt dst C.n = true)
    (h : ∀ b : Bool, (b = true → l = []) → OkOps P C ops rest Q ⟨(dst, .s (.c (.d (.v (.bool b))))) :: sl, bl, nx⟩) : OkOps P C ops (⟨some dst, .binOp .eql t x (.const (.slice none 0 0)) t', ty, pos, after, none⟩ :: rest) Q ⟨sl, bl, nx⟩ := by
  intro Q' hQ ρ M a w hr
  have hR := reads_of hr.at rfl hs
  have hrep := rdS_rep hR (by simp) hx
  obtain ⟨b, hb, hrun⟩ : ∃ b : Bool, (b = true → l = []) ∧ (execOp a.eval ⟨some dst, .binOp .eql t x (.const (.slice none 0 0)) t', ty, pos, after, none⟩).run P w = .ok (.value (.bool b)) w := by
    obtain ⟨ad, cap, e1⟩ := hrep.sl_cases
    have ex2 : a.eval (.const (.slice none 0 0)) = .slice none 0 0 := rfl
    refine ⟨ad.isNone, fun hn => ?_, ?_⟩
    · cases ad with
      | some _ => cases hn
      | none =>
        generalize a.eval x = v at hrep e1
        cases hrep with
        | nil => rfl
        | sl => cases e1
    · unfold execOp
      simp only [e1, ex2]
      have hu : ∀ w : World, (underlying t).run P w = .ok (.slice e) w := fun w => by simp [underlying, program, Sem.run, ht]
      have h2 : (Op.equalIn 10000 t (.slice ad l.length cap) (.slice none 0 0)).run P w = .ok ad.isNone w := by
        unfold Op.equalIn
        rw [run_bind_ok (hu w)]
        cases ad <;> rfl
      have h3 : (eqGuard .eql t x (.const (.slice none 0 0)) (.slice ad l.length cap) (.slice none 0 0)).run P w = .ok () w := by
        simp [eqGuard]
      refine bind_value ?_
      rw [run_bind_ok h3]
      show (binOp .eql t (.slice ad l.length cap) (.slice none 0 0)).run P w = _
      have h4 : binOp .eql t (.slice ad l.length cap) (.slice none 0 0) = (do pure (.bool (← Op.equal t (.slice ad l.length cap) (.slice none 0 0)))) := rfl
      rw [h4]
      unfold Op.equal Op.maxDepth
      rw [run_bind_ok h2]
      rfl
  unfold wpList
  rw [if_pos (wanted_none rfl)]
  refine .inl ?_
  unfold Oper.wp
  rw [hrun]
  show wpList P ops Q' rest (a.put (some dst) (.bool b)) w
  refine h b hb Q' hQ ρ M _ _ (fun ρ' ha => ?_)
  have h0 := hr ρ' ha
  have := h0.put (M' := M) (w' := w) (bl' := look bl) (v := .s (.c (.d (.v (.bool b))))) (u := .bool b) (d := dst) (Nat.blt_eq.mp hd) (Rep.v _) (Mem.le_refl _) h0.heap
  refine ⟨this.defers, this.size, fun s v hv => this.slots s v ?_, this.heap⟩
  have hv' : look ((dst, AV.s (.c (.d (.v (.bool b))))) :: sl) s = some v := hv
  show over [(dst, AV.s (.c (.d (.v (.bool b)))))] (look sl) s = some v
  rw [over_one, ← hv', look_cons]

/-! ### functions without a body -/
theorem ext_of {f : FuncId} {fn : Func} {e : Array Value → Sem Value} {vs : List Value} {v : Value} (hf : P.funcs[f]? = some fn) (h1 : (fn.name == "runtime.NumGoroutine") = false) (h2 : fn.body.isNone = true) (h3 : (Extern.findNext fn).isNone = true) (h4 : Extern.find fn = some e) (h5 : ∀ w : World, (e vs.toArray).run P w = .ok v w) : ExtP P f vs v := by
  intro w
  have h3' : Extern.findNext fn = none := by simpa using h3
  unfold callFunc
  have hp : (program : Sem Program).run P w = .ok P w := rfl
  rw [run_bind_ok hp]
  simp only [hf]
  rw [if_neg (by rw [h1]; simp), if_pos h2]
  have hm : (mark (.extern f) : Sem Unit).run P w = .ok () w := rfl
  rw [run_bind_ok hm]
  simp only [h3', h4]
  rw [run_bind_ok (h5 w)]
  rfl
def idxByte (s : Str) (c : Int) : Int := match (List.range s.size).find? fun i => s[i]! == c.toNat.toUInt8 with
  | some i => (i : Int)
  | none => -1
def cntByte (s : Str) (c : Int) : Int := s.foldl (fun (n : Int) x => if x == c.toNat.toUInt8 then n + 1 else n) ((0 : Nat) : Int)
theorem idxByte_run (s : Str) (c : Int) (w : World) : (Extern.BytealgIndexByte.indexByte #[.string s, .int .u8 c]).run P w = .ok (.int .i64 (idxByte s c)) w := by
  have h : (Extern.BytealgIndexByte.indexByte #[.string s, .int .u8 c]).run P w = (match (List.range s.size).find? (fun i => s[i]! == c.toNat.toUInt8) with | some i => pure (goInt i) | none => pure (goInt (-1)) : Sem Value).run P w := by kernel_rfl
  rw [h]
  unfold idxByte
  split <;> rfl
theorem cntByte_run (s : Str) (c : Int) (w : World) : (Extern.BytealgCount.count #[.string s, .int .u8 c]).run P w = .ok (.int .i64 (cntByte s c)) w := by
  have h : (Extern.BytealgCount.count #[.string s, .int .u8 c]).run P w = (do let b ← Extern.Bytes.bytesOf (.string s); let c ← Extern.Bytes.asByte (.int .u8 c); pure (goInt (b.foldl (fun n x => if x == c then n + 1 else n) (0 : Nat))) : Sem Value).run P w := by kernel_rfl
  rw [h]
  rfl

/-! ### a field of an element of a slice that is written -/
theorem triFldV {t f o ft j off : Nat} {x : Operand} (ho : fieldOff P t f = some (o, ft)) (hx : opnd F x = some (.s (.c (.vl j off)))) {sz : Nat} {α : Type} {enc : α → List D} {L : List α} (hj : F.bl j = some (.vec sz (L.map enc))) (hL : 0 < L.length) (hd : Nat.blt dst C.n = true) :
    TriL P C ops ⟨some dst, .fieldAddr t x f, ty, pos, after, none⟩ ⟨slotsOf [x], [j], [dst], []⟩ [(dst, .s (.c (.vl j (off + o))))] [] F := by
  refine ⟨⟨rfl, rfl⟩, fun F' hS => ?_⟩
  have h1 := opnd_same hS.1
  refine Tri.quiet (x := .c (.vl j (off + o))) rfl rfl hd (fun ρ M a w hr => ?_)
  have e : a.eval x = vptr ρ j off := opnd_rep hr ((h1 x (by simp)).trans hx)
  obtain ⟨ad, cap, e1, hc, hx2⟩ := vec_flat (hr.heap.inv j _ ((hS.2 j (by simp)).trans hj))
  obtain ⟨b, o0, arr, ty', vs, rfl, _⟩ := hx2 (by omega)
  have e2 : vptr ρ j off = .pointer (some ⟨b, o0 + off, none⟩) := by unfold vptr; rw [e1]
  refine ⟨.pointer (some ⟨b, o0 + off + o, none⟩), ?_, ?_⟩
  · unfold execOp
    simp only
    rw [e, e2]
    exact bind_value (fieldOff_run ho _ _ w)
  · show _ = vptr ρ j (off + o)
    unfold vptr
    rw [e1, Nat.add_assoc]
def setDs : List D → Nat → List D → List D
  | cs, _, [] => cs
  | cs, off, x :: r => setDs (cs.set off x) (off + 1) r
theorem setDs_get : ∀ (us vs : List D) (off k : Nat), off + us.length ≤ vs.length → (setDs vs off us)[k]? = if off ≤ k ∧ k < off + us.length then us[k - off]? else vs[k]?
  | [], vs, off, k, _ => by
    simp only [setDs, List.length_nil, Nat.add_zero]
    rw [if_neg (by omega)]
  | u :: r, vs, off, k, h => by
    simp only [List.length_cons] at h
    simp only [setDs]
    rw [setDs_get r (vs.set off u) (off + 1) k (by simp; omega)]
    by_cases h1 : off + 1 ≤ k ∧ k < off + 1 + r.length
    · rw [if_pos h1, if_pos (by simp; omega), show k - off = (k - (off + 1)) + 1 by omega]; simp
    · rw [if_neg h1]
      by_cases h2 : off = k
      · subst h2
        rw [if_pos (by simp), List.getElem?_set_self (by omega)]; simp
      · rw [if_neg (by simp; omega), List.getElem?_set_ne h2]
theorem triStoreVF {α : Type} {enc : α → List D} {L : List α} {t sz j k fo n : Nat} {b0 : Bool} {x y : Operand} {v : A1} {e0 z : α} {ds : List D} (he : L[k]? = some e0) (hx : opnd F x = some (.s (.c (.vl j (k * sz + fo))))) (hj : F.bl j = some (.vec sz (L.map enc))) (hy : opnd F y = some (.s v)) (hp : plain1 v = true) (hD : rowD v.cells = some ds) (hone : rowOne ds = true) (hz : enc z = setDs (enc e0) fo ds) (hn : ds.length = n) (hfo : fo + n ≤ sz) (hsz : allR sz enc) (ht : tinfo P t = some (n, b0)) :
    TriL P C ops ⟨none, .store t x y, ty, pos, after, none⟩ ⟨slotsOf [x, y], [j], [], [j]⟩ [] [(j, .vec sz ((L.set k z).map enc))] F := by
  have hk : k < L.length := (List.getElem?_eq_some_iff.1 he).1
  refine ⟨⟨rfl, rfl⟩, fun F' hS => ?_⟩
  have h1 := opnd_same hS.1
  have hj' : F'.bl j = some (.vec sz (L.map enc)) := (hS.2 j (by simp)).trans hj
  have hx' := (h1 x (by simp)).trans hx
  have hy' := (h1 y (by simp)).trans hy
  refine Tri.eff rfl rfl (fun k hk => dom_over hk) (fun ρ M a w hr => ?_)
  have ex : a.eval x = vptr ρ j (k * sz + fo) := opnd_rep hr hx'
  have ey : v.rep ρ M (a.eval y) := opnd_rep hr hy'
  obtain ⟨ad, cap, e1, hc, hx2⟩ := vec_flat (hr.heap.inv j _ hj')
  obtain ⟨b, off, arr, ty', vs, rfl, g1, g2, g3, g4, g5⟩ := hx2 (by omega)
  have ex2 : a.eval x = .pointer (some ⟨b, off + (k * sz + fo), none⟩) := by rw [ex]; unfold vptr; rw [e1]
  have hcr := rowD_rep hD (A1.cells_rep hp ey)
  have hlen : (a.eval y).cells.toList.length = n := by rw [hcr.len]; exact hn
  have hvl : vs.length = L.length * sz := by rw [g4.len, flatten_len (rows_map hsz L), List.length_map]
  have hkk : (k + 1) * sz ≤ cap * sz := Nat.mul_le_mul_right sz (by omega)
  have hsm : (k + 1) * sz = k * sz + sz := Nat.succ_mul k sz
  have hkL : (k + 1) * sz ≤ L.length * sz := Nat.mul_le_mul_right sz (by omega)
  obtain ⟨w', q1, q2, q3, q4, q5, q6, q7⟩ := storeCells_run (P := P) (b := b) (off := off + (k * sz + fo)) (ty := ty') (a.eval y).cells.toList 0 w arr g1 (rowOne_rep hone hcr) (by omega)
  rw [Nat.add_zero] at q2
  refine ⟨w', M, ?_, Mem.le_refl _, fun ρ' h0 => ?_⟩
  · unfold execOp
    simp only [ex2]
    have hsv : (storeVar t ⟨b, off + (k * sz + fo), none⟩ (a.eval y)).run P w = .ok () w' := by
      unfold storeVar
      rw [run_bind_ok (tinfo_size ht w)]
      have hs2 : (a.eval y).cells.size = n := by simpa using hlen
      rw [if_neg (by simp [hs2])]
      exact q1
    show (do storeVar t ⟨b, off + (k * sz + fo), none⟩ (a.eval y); pure Next.skip : Sem Next).run P w = _
    rw [run_bind_ok hsv]
    rfl
  · have ex' : a.eval x = vptr ρ' j (k * sz + fo) := opnd_rep h0 hx'
    obtain ⟨ad', cap', e1', hc', hx2'⟩ := vec_flat (h0.heap.inv j _ hj')
    obtain ⟨b', off', arr', ty2, vs', rfl, g1', g2', g3', g4', g5'⟩ := hx2' (by omega)
    have ex2' : a.eval x = .pointer (some ⟨b', off' + (k * sz + fo), none⟩) := by rw [ex']; unfold vptr; rw [e1']
    have eb : b' = b ∧ off' = off := by
      have := ex2'.symm.trans ex2
      simp only [Value.pointer.injEq, Option.some.injEq, Addr.mk.injEq] at this
      omega
    obtain ⟨rfl, rfl⟩ := eb
    have ea : arr' = arr ∧ ty2 = ty' := by have := g1'.symm.trans g1; simpa using this
    obtain ⟨rfl, rfl⟩ := ea
    have hcr' := rowD_rep hD (A1.cells_rep hp (opnd_rep h0 hy' : v.rep ρ' M (a.eval y)))
    have hpos : 0 < cap' := by omega
    have hown : (Ob.vec sz (L.map enc)).blkOf (ρ' j) = some b' := by rw [e1']; simp [Ob.blkOf, hpos]
    refine h0.heap.change j (fun x => x = b') ?_ ⟨q5, q6, q7, Nat.le_of_eq q4.symm⟩ (fun x _ hx => q3 x hx) (Mem.le_refl _) (fun _ _ _ => ⟨fun _ => rfl, rfl⟩) ?_ ?_
    · rintro x rfl _
      exact h0.heap.priv j _ _ hj' hown
    · rintro x (rfl | hx)
      · exact ⟨fun o v hv => (by rw [g3' o] at hv; cases hv), fun o ho => (by rw [h0.heap.mem.noObj g1'] at ho; cases ho)⟩
      · have := h0.heap.mem.none hx
        exact ⟨fun o v hv => (by rw [this.1 o] at hv; cases hv), fun o ho => (by rw [this.2] at ho; cases ho)⟩
    · intro k' ob hk'
      rw [over_one] at hk'
      split at hk'
      · rename_i e
        subst e
        cases hk'
        refine .inr (.inr ⟨rfl, ?_, fun x hx => .inl (by rw [show (Ob.vec sz ((L.set k z).map enc)).blkOf (ρ' j) = (Ob.vec sz (L.map enc)).blkOf (ρ' j) by rw [e1']; rfl, hown] at hx; cases hx; rfl)⟩)
        rw [e1']
        have hsl : (L.set k z).length = L.length := by simp
        have hvl' : vs'.length = L.length * sz := by rw [g4'.len, flatten_len (rows_map hsz L), List.length_map]
        rw [show (Value.slice (some ⟨b', off', none⟩) L.length cap') = .slice (some ⟨b', off', none⟩) (L.set k z).length cap' by rw [hsl]]
        refine vec_of (vs := setV vs' (k * sz + fo) (a.eval y).cells.toList) hsz (by rw [hsl]; exact hc') q2 (by simp [setV_len]; exact g2') g3' ?_ (fun q u hq => ?_)
        · rw [List.map_set]
          refine RepsD.ofGet ?_ (fun i d u hd hu => ?_)
          · rw [setV_len, hvl', flatten_len (sz := sz), List.length_set, List.length_map]
            intro row hrow
            rcases List.mem_or_eq_of_mem_set hrow with h | h
            · exact rows_map hsz L row h
            · rw [h]; exact hsz z
          · rw [flatten_set k (rows_map hsz L) (hsz z) (by simpa using hk)] at hd
            rw [setV_get _ _ _ _ (by omega), hlen] at hu
            have hold : ∀ d', (L.map enc).flatten[i]? = some d' → vs'[i]? = some u → Rep M d' u := fun d' h2 h3 => by
              obtain ⟨u2, u3, u4⟩ := g4'.get _ d' h2
              rw [h3] at u3; cases u3; exact u4
            split at hd
            · rename_i hc2
              rw [hz, setDs_get _ _ _ _ (by rw [hn, hsz]; exact hfo), hn] at hd
              split at hd
              · rename_i hc3
                rw [if_pos (by omega)] at hu
                obtain ⟨u2, u3, u4⟩ := hcr'.get _ d hd
                rw [show i - k * sz - fo = i - (k * sz + fo) by omega] at u3
                rw [hu] at u3; cases u3; exact u4
              · rename_i hc3
                rw [if_neg (by omega)] at hu
                refine hold d ?_ hu
                have := flatten_get (rows_map hsz L) k (i - k * sz) (enc e0) (by simp [he]) (by omega)
                rw [show k * sz + (i - k * sz) = i by omega] at this
                rw [this]; exact hd
            · rename_i hc2
              rw [if_neg (by omega)] at hu
              exact hold d hd hu
        · rw [setV_get _ _ _ _ (by omega), hlen] at hq
          rw [List.getElem?_toArray, setV_get _ _ _ _ (by rw [hlen, Array.length_toList]; omega), hlen]
          split at hq
          · rename_i hc2
            rw [if_pos (by omega), show off' + q - (off' + (k * sz + fo)) = q - (k * sz + fo) by omega]; exact hq
          · rename_i hc2
            rw [if_neg (by omega)]
            simpa using g5' q u hq
      · rename_i e
        refine .inr (.inl ⟨hk', fun x hx hS' => ?_⟩)
        subst hS'
        exact e ((h0.heap.dist k' j _ _ _ hk' hj' hx hown).symm)
end Go.E2

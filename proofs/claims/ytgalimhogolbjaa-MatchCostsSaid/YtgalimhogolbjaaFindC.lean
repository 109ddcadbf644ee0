/- Walk of the finder's 'best': the longest match for a place, among the newest places. -/
import Derived.Test.YtgalimhogolbjaaFindB
import Derived.Deep.LoopGhost
namespace Go.Proofs.Ytgalimhogolbjaa.Fnd
open Go Go.RowKit Go.Proofs.YtgalimhogolbjaaW.PrintWords Go.Proofs.YtgalimhogolbjaaW.PrintLast Go.Proofs.YtgalimhogolbjaaW.PrintMore
set_option linter.unusedVariables false
set_option linter.unusedSimpArgs false

/-- The longest match among so many places (the newest first). -/
def bestF (s : ByteArray) (i : Nat) : Nat → List Nat → Nat × Nat → Nat × Nat
  | 0, _, t => t
  | _, [], t => t
  | f + 1, p :: r, t => if i - p > 32768 then t else bestF s i f r (if lng s p i > t.1 then (lng s p i, i - p) else t)
def tokV (a : Int) (n d : Nat) : Value := .agg #[.int .u8 a, .int .i64 n, .int .i64 d]

set_option maxHeartbeats 8000000 in
set_option maxRecDepth 100000 in
theorem best_none (g m : Nat) (s : ByteArray) (i : Nat) (w : World) (h0 : w.cell? ⟨g, 0, none⟩ = some (.string s)) (hi : ¬ i + 2 < s.size) (hil : i ≤ s.size) (hs : s.size ≤ 140737488351232) :
    Calls Try.prog 24 #[.pointer (some ⟨g, 0, none⟩), .int .i64 i] w fun e w' => e = .returned (tokV 0 0 0) ∧ Below w.heap.size w w' := by
  have hg : g < w.heap.size := World.block_lt_of_cell? w _ h0
  have hii : (s.size : Int) < (i : Int) + 3 := by omega
  have hib : (i : Int) ≤ 140737488351232 := by omega
  go_enter Try.func24, Try.ntmps24
  go_wp2
  have hb2 := below_alloc (below_alloc (Below.refl w.heap.size w) (Obj.cells #[Value.int IntKind.u8 0, Value.int IntKind.i64 0, Value.int IntKind.i64 0] 37)) (Obj.cells #[Value.int IntKind.u8 0, Value.int IntKind.i64 0, Value.int IntKind.i64 0] 37)
  have hR := blk_alloc (blk_new w (Obj.cells #[Value.int IntKind.u8 0, Value.int IntKind.i64 0, Value.int IntKind.i64 0] 37)) (Obj.cells #[Value.int IntKind.u8 0, Value.int IntKind.i64 0, Value.int IntKind.i64 0] 37)
  exact bodyPost_ret (results_cell_row rfl _ _ w.heap.size 37 #[Value.int IntKind.u8 0, Value.int IntKind.i64 0, Value.int IntKind.i64 0] (0, 0) _ rfl hR Try.underlying37 rfl rfl) rfl ⟨rfl, hb2⟩

/-- What holds of memory at each round's head of 'best': t is the match in hand. -/
structure BInv (w wr : World) (t : Nat × Nat) : Prop where
  T : wr.heap[w.heap.size + 1]? = some (.cells #[.int .u8 0, .int .i64 (t.1 : Int), .int .i64 (t.2 : Int)] 37 (0, 0))
  R : wr.heap[w.heap.size]? = some (.cells #[.int .u8 0, .int .i64 0, .int .i64 0] 37 (0, 0))
  below : Below w.heap.size w wr
theorem BInv.cell {w wr : World} {t : Nat × Nat} (h : BInv w wr t) (j : Nat) (v : Value) (hv : (#[.int .u8 0, .int .i64 (t.1 : Int), .int .i64 (t.2 : Int)] : Array Value)[j]? = some v) : wr.cell? ⟨w.heap.size + 1, j, none⟩ = some v := by
  simp only [World.cell?]
  rw [h.T]
  exact hv
theorem BInv.free {w wr : World} {t : Nat × Nat} (h : BInv w wr t) (j : Nat) : wr.frozen? ⟨w.heap.size + 1, j, none⟩ = false := by
  simp only [World.frozen?]
  rw [h.T]
  simp
theorem BInv.rcell {w wr : World} {t : Nat × Nat} (h : BInv w wr t) (j : Nat) (v : Value) (hv : (#[.int .u8 0, .int .i64 0, .int .i64 0] : Array Value)[j]? = some v) : wr.cell? ⟨w.heap.size, j, none⟩ = some v := by
  simp only [World.cell?]
  rw [h.R]
  exact hv
theorem BInv.rfree {w wr : World} {t : Nat × Nat} (h : BInv w wr t) (j : Nat) : wr.frozen? ⟨w.heap.size, j, none⟩ = false := by
  simp only [World.frozen?]
  rw [h.R]
  simp
theorem BInv.fin {w wr : World} {t : Nat × Nat} (h : BInv w wr t) : (((wr.setCell ⟨w.heap.size, 0, none⟩ (.int .u8 0)).setCell ⟨w.heap.size, 1, none⟩ (.int .i64 (t.1 : Int))).setCell ⟨w.heap.size, 2, none⟩ (.int .i64 (t.2 : Int))).heap[w.heap.size]? = some (.cells #[.int .u8 0, .int .i64 (t.1 : Int), .int .i64 (t.2 : Int)] 37 (0, 0)) :=
  blk_put (blk_put (blk_put h.R 0 _ rfl) 1 _ rfl) 2 _ rfl
theorem BInv.fin_below {w wr : World} {t : Nat × Nat} (h : BInv w wr t) (a b c : Value) : Below w.heap.size w (((wr.setCell ⟨w.heap.size, 0, none⟩ a).setCell ⟨w.heap.size, 1, none⟩ b).setCell ⟨w.heap.size, 2, none⟩ c) :=
  ((h.below.setCell (p := ⟨w.heap.size, 0, none⟩) (Nat.le_refl _) _).setCell (p := ⟨w.heap.size, 1, none⟩) (Nat.le_refl _) _).setCell (p := ⟨w.heap.size, 2, none⟩) (Nat.le_refl _) _
theorem BInv.put {w wr : World} {t : Nat × Nat} (h : BInv w wr t) (n d : Nat) : BInv w (((wr.setCell ⟨w.heap.size + 1, 0, none⟩ (.int .u8 0)).setCell ⟨w.heap.size + 1, 1, none⟩ (.int .i64 (n : Int))).setCell ⟨w.heap.size + 1, 2, none⟩ (.int .i64 (d : Int))) (n, d) :=
  ⟨blk_put (blk_put (blk_put h.T 0 _ rfl) 1 _ rfl) 2 _ rfl,
   ((Below.heap_setCell _ _ _ _ (by simp)).trans ((Below.heap_setCell _ _ _ _ (by simp)).trans ((Below.heap_setCell _ _ _ _ (by simp)).trans h.R))),
   ((h.below.setCell (p := ⟨w.heap.size + 1, 0, none⟩) (Nat.le_succ _) _).setCell (p := ⟨w.heap.size + 1, 1, none⟩) (Nat.le_succ _) _).setCell (p := ⟨w.heap.size + 1, 2, none⟩) (Nat.le_succ _) _⟩
theorem bestF_stop (s : ByteArray) (i k p : Nat) (r : List Nat) (t : Nat × Nat) (hk : k < 32) (h : 32768 < i - p) : bestF s i (32 - k) (p :: r) t = t := by
  obtain ⟨m, hm⟩ : ∃ m, 32 - k = m + 1 := ⟨31 - k, by omega⟩
  rw [hm, bestF, if_pos h]
theorem bestF_next (s : ByteArray) (i k p : Nat) (r : List Nat) (t : Nat × Nat) (hk : k < 32) (h : ¬ 32768 < i - p) : bestF s i (32 - k) (p :: r) t = bestF s i (32 - (k + 1)) r (if lng s p i > t.1 then (lng s p i, i - p) else t) := by
  obtain ⟨m, hm⟩ : ∃ m, 32 - k = m + 1 := ⟨31 - k, by omega⟩
  rw [hm, show 32 - (k + 1) = m from by omega, bestF, if_neg h]
theorem lngF_le (s : ByteArray) (a b f : Nat) : ∀ n, n ≤ lngF s a b f n ∧ lngF s a b f n ≤ n + f := by
  induction f with
  | zero => intro n; exact ⟨Nat.le_refl _, Nat.le_refl _⟩
  | succ f ih =>
    intro n
    rw [lngF]
    split
    · have := ih (n + 1); omega
    · omega
theorem lng_le (s : ByteArray) (a b : Nat) : lng s a b ≤ 258 := by have := (lngF_le s a b 258 0).2; unfold lng; omega
theorem BInv.drawn {w wr : World} {t : Nat × Nat} (h : BInv w wr t) (n : Nat) : BInv w (wr.drewN n) t := ⟨h.T, h.R, pw_below_drewN h.below n⟩

set_option maxHeartbeats 8000000 in
set_option maxRecDepth 100000 in
theorem best_any (g m : Nat) (s : ByteArray) (i : Nat) (L : List Nat) (A : Option Addr) (c : Nat) (w : World) (h0 : w.cell? ⟨g, 0, none⟩ = some (.string s)) (h1 : w.cell? ⟨g, 1, none⟩ = some (.map (some m)))
    (hi : i + 2 < s.size) (hs : s.size ≤ 140737488351232) (hL : ∀ p ∈ L, p < i)
    (HL : ∀ W, Below w.heap.size w W → (Instr.lookup 47 (.map (some m)) (kAt s i) false).run Try.prog W = .ok (.slice A L.length c) W)
    (HR : ReadsInt w .i64 A L.length (L.map fun (p : Nat) => (p : Int))) :
    Calls Try.prog 24 #[.pointer (some ⟨g, 0, none⟩), .int .i64 i] w fun e w' => e = .returned (tokV 0 (bestF s i 32 L.reverse (0, 0)).1 (bestF s i 32 L.reverse (0, 0)).2) ∧ Below w.heap.size w w' := by
  have hg : g < w.heap.size := World.block_lt_of_cell? w _ h0
  have hii : (i : Int) + 3 ≤ s.size := by omega
  have hib : (i : Int) ≤ 140737488351232 := by omega
  have h00 := Aside0.mk h0
  have HR0 := Aside0.mk HR
  have hlen : L.length ≤ 9223372036854775807 := HR.2.1
  go_enter Try.func24, Try.ntmps24
  go_wp2
  have hb2 := below_alloc (below_alloc (Below.refl w.heap.size w) (Obj.cells #[Value.int IntKind.u8 0, Value.int IntKind.i64 0, Value.int IntKind.i64 0] 37)) (Obj.cells #[Value.int IntKind.u8 0, Value.int IntKind.i64 0, Value.int IntKind.i64 0] 37)
  have hR := blk_alloc (blk_new w (Obj.cells #[Value.int IntKind.u8 0, Value.int IntKind.i64 0, Value.int IntKind.i64 0] 37)) (Obj.cells #[Value.int IntKind.u8 0, Value.int IntKind.i64 0, Value.int IntKind.i64 0] 37)
  have hT := blk_new (w.alloc (Obj.cells #[Value.int IntKind.u8 0, Value.int IntKind.i64 0, Value.int IntKind.i64 0] 37)) (Obj.cells #[Value.int IntKind.u8 0, Value.int IntKind.i64 0, Value.int IntKind.i64 0] 37)
  have hz : (w.alloc (Obj.cells #[Value.int IntKind.u8 0, Value.int IntKind.i64 0, Value.int IntKind.i64 0] 37)).heap.size = w.heap.size + 1 := by simp
  rw [hz] at hT
  clear hz
  generalize (w.alloc (Obj.cells #[Value.int IntKind.u8 0, Value.int IntKind.i64 0, Value.int IntKind.i64 0] 37)).alloc (Obj.cells #[Value.int IntKind.u8 0, Value.int IntKind.i64 0, Value.int IntKind.i64 0] 37) = w2 at *
  replace h0 := pw_cell_below hb2 h0
  replace h1 := pw_cell_below hb2 h1
  have HL2 : ∀ W, Below w2.heap.size w2 W → (Instr.lookup 47 (.map (some m)) (kAt s i) false).run Try.prog W = .ok (.slice A L.length c) W := fun W h => HL W (below_then hb2 hb2.size h)
  replace HR := HR.below hb2
  clear HL
  refine start_ (n := 9) (S := fun W => Below w2.heap.size w2 W) (ds := []) #[false, false, false, false, false, false, false, false, false] (by kernel_rfl) rfl rfl (below_drew (Below.refl _ _)) (fun hHeld => ?_)
  generalize w2.drew = w3 at hHeld ⊢
  refine pure_ (i := 0) (N := some 19) (v := ?_) (a' := ?_) #[true, false, false, false, false, false, false, false, false] rfl rfl (by kernel_rfl) (fun _ _ _ h => h) (Or.inl ⟨by rfl, ?_⟩) ?_ ?_
  rotate_left
  · intro w'
    go_simp
    with_reducible rfl
  rotate_left
  · simp only [Act.put, List.setIfInBounds_toArray, List.set_cons_zero, List.set_cons_succ, i64_w, i32_w]
    rfl
  refine pure_ (i := 1) (N := some 20) (v := ?_) (a' := ?_) #[true, true, false, false, false, false, false, false, false] rfl rfl (by kernel_rfl) (fun _ _ _ h => h) (Or.inl ⟨by rfl, ?_⟩) ?_ ?_
  rotate_left
  · intro w'
    go_simp
    with_reducible rfl
  rotate_left
  · simp only [Act.put, List.setIfInBounds_toArray, List.set_cons_zero, List.set_cons_succ, i64_w, i32_w]
    rfl
  refine pure_ (i := 2) (N := some 21) (v := ?_) (a' := ?_) #[true, true, true, false, false, false, false, false, false] rfl rfl (by kernel_rfl) (fun _ _ _ h => h) (Or.inl ⟨by rfl, ?_⟩) ?_ ?_
  rotate_left
  · intro w'
    go_simp
    with_reducible rfl
  rotate_left
  · simp only [Act.put, List.setIfInBounds_toArray, List.set_cons_zero, List.set_cons_succ, i64_w, i32_w]
    rfl
  refine take_ (i := 3) (N := some 22) (v := ?_) (a' := ?_) #[true, true, true, true, false, false, false, false, false] rfl rfl (by kernel_rfl) (fun _ _ _ h => h) (Or.inl ⟨by rfl, ?_⟩) hHeld ?_ ?_
  rotate_left
  · intro w' hS_
    have hc_ := pw_cell_below (show Below w2.heap.size w2 w' from hS_) h1
    go_simp
    with_reducible rfl
  rotate_left
  · simp only [Act.put, List.setIfInBounds_toArray, List.set_cons_zero, List.set_cons_succ, i64_w, i32_w]
    rfl
  refine pure_ (i := 4) (N := some 23) (v := ?_) (a' := ?_) #[true, true, true, true, true, false, false, false, false] rfl rfl (by kernel_rfl) (fun _ _ _ h => h) (Or.inl ⟨by rfl, ?_⟩) ?_ ?_
  rotate_left
  · intro w'
    go_simp
    with_reducible rfl
  rotate_left
  · simp only [Act.put, List.setIfInBounds_toArray, List.set_cons_zero, List.set_cons_succ, i64_w, i32_w]
    rfl
  refine pure_ (i := 5) (N := some 24) (v := ?_) (a' := ?_) #[true, true, true, true, true, true, false, false, false] rfl rfl (by kernel_rfl) (fun _ _ _ h => h) (Or.inl ⟨by rfl, ?_⟩) ?_ ?_
  rotate_left
  · intro w'
    go_simp
    with_reducible rfl
  rotate_left
  · simp only [Act.put, List.setIfInBounds_toArray, List.set_cons_zero, List.set_cons_succ, i64_w, i32_w]
    rfl
  refine one_ (i := 6) (N := some 25) #[true, true, true, true, true, true, true, false, false] rfl rfl (by kernel_rfl) (by decide) (fun K hK => ?_)
  refine goes_ Try.func26 (by kernel_rfl) rfl #[.pointer (some ⟨g, 0, none⟩), .int .i64 (i : Int)] (by rfl) rfl rfl (by (try simp only [List.map_toArray, List.map_cons, List.map_nil]); first | done | rfl) ?_
  with_reducible refine (at_any g s i _ (pw_cell_below hHeld h0) hi hs).mono ?_
  rintro e w4 ⟨rfl, hb⟩
  refine ⟨_, rfl, ?_⟩
  refine hK.out _ _ (below_then hHeld hHeld.size hb) (fun hHeld => ?_)
  clear hK K
  refine norm_ (a' := ?_) ?_ ?_
  rotate_left
  · show Act.put _ (some 25) _ = _
    simp only [Act.put, List.setIfInBounds_toArray, List.set_cons_zero, List.set_cons_succ, i64_w, i32_w]
    rfl
  refine take_ (i := 7) (N := some 26) (v := ?_) (a' := ?_) #[true, true, true, true, true, true, true, true, false] rfl rfl (by kernel_rfl) (fun _ _ _ h => h) (Or.inl ⟨by rfl, ?_⟩) hHeld ?_ ?_
  rotate_left
  · intro w' hS_
    have hc_ := HL2 w' hS_
    go_simp
    with_reducible rfl
  rotate_left
  · simp only [Act.put, List.setIfInBounds_toArray, List.set_cons_zero, List.set_cons_succ, i64_w, i32_w]
    rfl
  refine pure_ (i := 8) (N := some 6) (v := ?_) (a' := ?_) #[true, true, true, true, true, true, true, true, true] rfl rfl (by kernel_rfl) (fun _ _ _ h => h) (Or.inl ⟨by rfl, ?_⟩) ?_ ?_
  rotate_left
  · intro w'
    go_simp
    with_reducible rfl
  rotate_left
  · simp only [Act.put, List.setIfInBounds_toArray, List.set_cons_zero, List.set_cons_succ, i64_w, i32_w]
    rfl
  refine done_ (by kernel_rfl) ?_
  go_wp2
  have I0 : BInv w w4 (0, 0) := ⟨blk_below hT hHeld, blk_below hR hHeld, below_then hb2 hb2.size hHeld⟩
  have g0 := pw_cell_below hHeld h0
  clear hT hR h0 h1 HL2 HR hHeld hb2
  clear hb
  go_loopw [7] (fun v wr => ∃ (k : Nat) (t : Nat × Nat), k ≤ 32 ∧ k ≤ L.length ∧ v = .int .i64 k ∧ bestF s i 32 L.reverse (0, 0) = bestF s i (32 - k) (L.reverse.drop k) t ∧ BInv w wr t) (fun v _ => 32 - (intOf v).toNat)
  case atStart => exact ⟨0, (0, 0), by omega, by omega, rfl, rfl, I0⟩
  case round =>
    clear I0 g0
    obtain ⟨k, t, hk, hkl, rfl, hb, I⟩ := hrel
    have Hb := Lib.hid hb
    clear hb
    have h0 := pw_cell_below I.below h00.out
    have t0 : wr.cell? ⟨w.heap.size + 1, 0, none⟩ = some (.int .u8 0) := I.cell 0 _ rfl
    have t1 : wr.cell? ⟨w.heap.size + 1, 1, none⟩ = some (.int .i64 (t.1 : Int)) := I.cell 1 _ rfl
    have t2 : wr.cell? ⟨w.heap.size + 1, 2, none⟩ = some (.int .i64 (t.2 : Int)) := I.cell 2 _ rfl
    have r0 : wr.cell? ⟨w.heap.size, 0, none⟩ = some (.int .u8 0) := I.rcell 0 _ rfl
    have r1 : wr.cell? ⟨w.heap.size, 1, none⟩ = some (.int .i64 0) := I.rcell 1 _ rfl
    have r2 : wr.cell? ⟨w.heap.size, 2, none⟩ = some (.int .i64 0) := I.rcell 2 _ rfl
    have rf0 := I.rfree 0
    have rf1 := I.rfree 1
    have rf2 := I.rfree 2
    have tf0 := I.free 0
    have tf1 := I.free 1
    have tf2 := I.free 2
    by_cases c1 : k < 32
    · by_cases c2 : k < L.length
      · have HR1 := HR0.out.below I.below
        obtain ⟨ad, e, hc⟩ := HR1.2.2 (by omega)
        subst e
        have hc1 := hc (L.length - 1 - k) (by omega)
        have hpl : L.length - 1 - k < L.length := by omega
        have ep : (L.map fun (p : Nat) => (p : Int)).getD (L.length - 1 - k) 0 = ((L[L.length - 1 - k]'hpl : Nat) : Int) := by
          simp [List.getD, hpl]
        rw [ep] at hc1
        have hpi := hL _ (List.getElem_mem hpl)
        have Hd : Hid (L.reverse.drop k = L[L.length - 1 - k]'hpl :: L.reverse.drop (k + 1)) := Lib.hid (by
          rw [List.drop_eq_getElem_cons (by simpa using c2)]
          congr 1
          rw [List.getElem_reverse])
        generalize L[L.length - 1 - k]'hpl = p at *
        clear hc ep HR1
        have d1 : decide ((k : Int) < 32) = true := by simp; omega
        have d2 : decide ((k : Int) < (L.length : Int)) = true := by simp; omega
        have hll : (L.length : Int) ≤ 9223372036854775807 := by omega
        by_cases c3 : 32768 < i - p
        · have d3 : decide ((32768 : Int) < (i : Int) - (p : Int)) = true := by simp; omega
          have c3i : (32768 : Int) < (i : Int) - (p : Int) := by omega
          go_wp2_with fail
          refine bodyPost_ret (results_cell_row rfl _ _ w.heap.size 37 _ (0, 0) _ rfl I.fin Try.underlying37 rfl rfl) rfl ⟨?_, I.fin_below _ _ _⟩
          rw [Hb.out, Hd.out, bestF_stop s i k p _ t c1 c3]
          rfl
        · have d3 : decide ((32768 : Int) < (i : Int) - (p : Int)) = false := by simp; omega
          have c3i : (i : Int) - (p : Int) ≤ 32768 := by omega
          go_wp2_with fail
          refine (long_any g s p i _ h0 hpi (by omega) hs).mono ?_
          rintro e w5 ⟨rfl, ⟨nd, rfl⟩⟩
          have hln := lng_le s p i
          have Hn := Lib.hid (bestF_next s i k p (L.reverse.drop (k + 1)) t c1 c3)
          generalize lng s p i = x at *
          by_cases c4 : t.1 < x
          · have d4 : decide ((t.1 : Int) < (x : Int)) = true := by simp; omega
            go_wp2_with fail
            go_roundw
            case rel =>
              refine ⟨k + 1, (x, i - p), by omega, by omega, by go_num, ?_, ?_⟩
              · rw [Hb.out, Hd.out, Hn.out, if_pos c4]
              · have := (I.drawn nd).put x (i - p)
                have ed : ((i - p : Nat) : Int) = (i : Int) - (p : Int) := by omega
                rw [ed] at this
                exact this
            case measure => simp [intOf]; omega
          · have d4 : decide ((t.1 : Int) < (x : Int)) = false := by simp; omega
            go_wp2_with fail
            go_roundw
            case rel =>
              refine ⟨k + 1, t, by omega, by omega, by go_num, ?_, I.drawn nd⟩
              rw [Hb.out, Hd.out, Hn.out, if_neg c4]
            case measure => simp [intOf]; omega
      · have d1 : decide ((k : Int) < 32) = true := by simp; omega
        have d2 : decide ((k : Int) < (L.length : Int)) = false := by simp; omega
        go_wp2_with fail
        refine bodyPost_ret (results_cell_row rfl _ _ w.heap.size 37 _ (0, 0) _ rfl I.fin Try.underlying37 rfl rfl) rfl ⟨?_, I.fin_below _ _ _⟩
        rw [Hb.out, List.drop_eq_nil_of_le (by simp; omega), show bestF s i (32 - k) [] t = t from by cases 32 - k <;> rfl]
        rfl
    · have d1 : decide ((k : Int) < 32) = false := by simp; omega
      have hk0 : 32 - k = 0 := by omega
      go_wp2_with fail
      refine bodyPost_ret (results_cell_row rfl _ _ w.heap.size 37 _ (0, 0) _ rfl I.fin Try.underlying37 rfl rfl) rfl ⟨?_, I.fin_below _ _ _⟩
      rw [Hb.out, hk0]
      rfl
end Go.Proofs.Ytgalimhogolbjaa.Fnd

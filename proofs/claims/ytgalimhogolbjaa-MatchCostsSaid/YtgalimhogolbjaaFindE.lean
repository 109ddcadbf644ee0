/- Walk of the finder's 'note': the place is put behind those of the same three bytes. -/
import Derived.Test.YtgalimhogolbjaaFindD
namespace Go.Proofs.Ytgalimhogolbjaa.Fnd
open Go Go.RowKit Go.Proofs.YtgalimhogolbjaaW.PrintWords Go.Proofs.YtgalimhogolbjaaW.PrintLast Go.Proofs.YtgalimhogolbjaaW.PrintMore
set_option linter.unusedVariables false
set_option linter.unusedSimpArgs false

/-- The three bytes at place i. -/
def tri (s : ByteArray) (i : Nat) : Key := ((bt s (i : Int)).toNat, (bt s ((i + 1 : Nat) : Int)).toNat, (bt s ((i + 2 : Nat) : Int)).toNat)
theorem tri_ok (s : ByteArray) (i : Nat) : Tri (tri s i) := by
  have h1 := bt_range s (i : Int)
  have h2 := bt_range s ((i + 1 : Nat) : Int)
  have h3 := bt_range s ((i + 2 : Nat) : Int)
  refine ⟨?_, ?_, ?_⟩ <;> simp only [tri] <;> omega
theorem kAt_tri (s : ByteArray) (i : Nat) : kAt s i = kV (tri s i) := by
  have h1 := bt_range s (i : Int)
  have h2 := bt_range s ((i + 1 : Nat) : Int)
  have h3 := bt_range s ((i + 2 : Nat) : Int)
  simp only [kAt, kV, tri, Int.toNat_of_nonneg h1.1, Int.toNat_of_nonneg h2.1, Int.toNat_of_nonneg h3.1]
theorem infoInt : (Try.prog.info? 3).map (fun i => (i.zero, i.size, i.bytes)) = some (some (.int .i64 0), 1, 8) := by kernel_rfl
/-- What stays behind a note: all blocks but the map's and the rows of places. -/
structure NoteK (w w' : World) (base m : Nat) : Prop where
  os : w'.os = w.os
  tape : w'.tape = w.tape
  output : w'.output = w.output
  size : w.heap.size ≤ w'.heap.size
  block : ∀ k, k < w.heap.size → k ≠ m → (k < base ∨ ∀ cs fr, w.heap[k]? ≠ some (.cells cs 3 fr)) → w'.heap[k]? = w.heap[k]?
theorem NoteK.refl (w : World) (base m : Nat) : NoteK w w base m := ⟨rfl, rfl, rfl, Nat.le_refl _, fun _ _ _ _ => rfl⟩
theorem NoteK.trans {w w1 w2 : World} {base m : Nat} (h : NoteK w w1 base m) (k : NoteK w1 w2 base m) : NoteK w w2 base m :=
  ⟨k.os.trans h.os, k.tape.trans h.tape, k.output.trans h.output, Nat.le_trans h.size k.size, fun i hi hm hr =>
    (k.block i (Nat.lt_of_lt_of_le hi h.size) hm (hr.imp id fun h2 cs fr => by rw [h.block i hi hm hr]; exact h2 cs fr)).trans (h.block i hi hm hr)⟩
theorem NoteK.of_below {w w1 : World} (base m : Nat) (h : Below w.heap.size w w1) : NoteK w w1 base m := ⟨h.os, h.tape, h.output, h.size, fun i hi _ _ => h.block i hi⟩
theorem NoteK.of_grown {w w1 : World} {base m : Nat} (h : w.grownBy w1 (some m)) : NoteK w w1 base m := ⟨h.os, h.tape, h.output, h.size, fun i hi hm _ => h.block i hi (by simpa using hm)⟩
theorem NoteK.of_row {w w1 : World} {base m : Nat} {v : Value} {l : List Nat} (ho : Own w base v l) (h : w.grownBy w1 v.ownBlock) : NoteK w w1 base m :=
  ⟨h.os, h.tape, h.output, h.size, fun i hi _ hr => h.block i hi fun he => by
    have hb := own_base ho i he.symm
    rcases hr with hr | hr
    · omega
    · rcases ho.2 with ⟨rfl, _⟩ | ⟨gg, cap, cur, rfl, _, hh, _⟩
      · simp [Value.ownBlock] at he
      · have : gg = i := by simpa [Value.ownBlock] using he.symm
        subst this
        exact hr _ _ hh⟩

section
variable {P : Program} {ops : Array Oper} {oi : Oper} {N : Option Tmp} {a : Act} {w w' : World} {K : Act → World → Prop} {Q : Exit → Act → World → Prop}
theorem ran_ {v : Value} (hw : Region.wanted oi (yielded ops a.tmps) = true) (hN : oi.dst = N) (hrun : (execOp a.eval oi).run P w = .ok (.value v) w') (h : K (a.put N v) w') :
    if Region.wanted oi (yielded ops a.tmps) = true then Oper.wp P oi a w K Q else K (a.put N undef) w := by
  rw [if_pos hw]
  subst hN
  unfold Oper.wp
  rw [hrun, Oper.upon_value]
  exact h
theorem ranSkip_ (hw : Region.wanted oi (yielded ops a.tmps) = true) (hN : oi.dst = N) (hrun : (execOp a.eval oi).run P w = .ok .skip w') (h : K (a.put N undef) w') :
    if Region.wanted oi (yielded ops a.tmps) = true then Oper.wp P oi a w K Q else K (a.put N undef) w := by
  rw [if_pos hw]
  subst hN
  unfold Oper.wp
  rw [hrun, Oper.upon_skip]
  exact h
theorem append_run {s x : Operand} {t ty : TypeId} {vs vx v : Value} (ho : oi.op = .call { callee := .builtin .append, args := #[s, x], argTypes := #[t, t] }) (hty : oi.type = ty) (hs : a.eval s = vs) (hx : a.eval x = vx)
    (h : (Builtin.append_ #[t, t] ty #[vs, vx]).run P w = .ok v w') : (execOp a.eval oi).run P w = .ok (.value v) w' := by
  unfold execOp
  simp only [ho, hty, resolve, invoke, builtin, Sem.run_bind, Sem.run_pure, Result.andThen_ok, List.map_toArray, List.map_cons, List.map_nil, hs, hx, h]
end

theorem note_short (g : Nat) (s : ByteArray) (i : Nat) (w : World) (h0 : w.cell? ⟨g, 0, none⟩ = some (.string s)) (hi : ¬ i + 2 < s.size) (hil : i ≤ 20000) (hs : s.size ≤ 20000) :
    Calls Try.prog 25 #[.pointer (some ⟨g, 0, none⟩), .int .i64 i] w fun e w' => e = .returned (.tuple #[]) ∧ w' = w := by
  have hii : (s.size : Int) < (i : Int) + 3 := by omega
  go_enter Try.func25, Try.ntmps25
  go_wp2
  go_end0
  exact ⟨rfl, rfl⟩

set_option maxHeartbeats 8000000 in
set_option maxRecDepth 100000 in
theorem note_any (g m base : Nat) (s : ByteArray) (i : Nat) (C : Key → List Nat) (w : World) (h0 : w.cell? ⟨g, 0, none⟩ = some (.string s)) (h1 : w.cell? ⟨g, 1, none⟩ = some (.map (some m)))
    (hi : i + 2 < s.size) (hs : s.size ≤ 20000) (S0 : Seen w base m C) (hbase : base ≤ w.heap.size) (hC : (C (tri s i)).length ≤ 20000) :
    Calls Try.prog 25 #[.pointer (some ⟨g, 0, none⟩), .int .i64 i] w fun e w' => e = .returned (.tuple #[]) ∧ Seen w' base m (fun q => if q = tri s i then C (tri s i) ++ [i] else C q) ∧ NoteK w w' base m := by
  have hii : (i : Int) + 3 ≤ s.size := by omega
  obtain ⟨a, b, c, htri⟩ : ∃ a b c : Nat, tri s i = (a, b, c) := ⟨_, _, _, rfl⟩
  have hkv : kAt s i = .agg #[.int .u8 (a : Int), .int .u8 (b : Int), .int .u8 (c : Int)] := by rw [kAt_tri, htri]; rfl
  have hat := at_any g s i w h0 hi (by omega)
  rw [hkv] at hat
  have Htri := Lib.hid htri
  clear htri
  go_enter Try.func25, Try.ntmps25
  go_wp2_with (go_at_call 26; refine hat.mono ?_; rintro e w1 ⟨rfl, hb1⟩; clear hkv)
  have hb2 := below_alloc hb1 (Obj.cells #[Value.int IntKind.u8 (a : Int), Value.int IntKind.u8 (b : Int), Value.int IntKind.u8 (c : Int)] 54)
  have hT := blk_new w1 (Obj.cells #[Value.int IntKind.u8 (a : Int), Value.int IntKind.u8 (b : Int), Value.int IntKind.u8 (c : Int)] 54)
  generalize w1.alloc (Obj.cells #[Value.int IntKind.u8 (a : Int), Value.int IntKind.u8 (b : Int), Value.int IntKind.u8 (c : Int)] 54) = w2 at *
  replace h1 := pw_cell_below hb2 h1
  have t0 : w2.cell? ⟨w1.heap.size, 0, none⟩ = some (.int .u8 (a : Int)) := by simp only [World.cell?]; rw [hT]; rfl
  have t1 : w2.cell? ⟨w1.heap.size, 1, none⟩ = some (.int .u8 (b : Int)) := by simp only [World.cell?]; rw [hT]; rfl
  have t2 : w2.cell? ⟨w1.heap.size, 2, none⟩ = some (.int .u8 (c : Int)) := by simp only [World.cell?]; rw [hT]; rfl
  have S2 := S0.below hb2
  obtain ⟨_, _, _, _, hm, _⟩ := S0.out
  have hw2 := hb2.size
  have hw3 : w2.drew.heap.size = w2.heap.size := rfl
  refine start_ (n := 12) (S := fun W => Below w2.heap.size w2 W) (ds := [7, 9, 11]) #[false, false, false, false, false, false, false, false, false, false, false, false] (by kernel_rfl) rfl rfl (below_drew (Below.refl _ _)) (fun hHeld => ?_)
  generalize w2.drew = w3 at hHeld hw3 ⊢
  refine pure_ (i := 0) (N := some 16) (v := ?_) (a' := ?_) #[true, false, false, false, false, false, false, false, false, false, false, false] rfl rfl (by kernel_rfl) (fun _ _ _ h => h) (Or.inl ⟨by rfl, ?_⟩) ?_ ?_
  rotate_left
  · intro w'
    go_simp
    with_reducible rfl
  rotate_left
  · simp only [Act.put, List.setIfInBounds_toArray, List.set_cons_zero, List.set_cons_succ, i64_w, i32_w]
    rfl
  refine pure_ (i := 1) (N := some 17) (v := ?_) (a' := ?_) #[true, true, false, false, false, false, false, false, false, false, false, false] rfl rfl (by kernel_rfl) (fun _ _ _ h => h) (Or.inl ⟨by rfl, ?_⟩) ?_ ?_
  rotate_left
  · intro w'
    go_simp
    with_reducible rfl
  rotate_left
  · simp only [Act.put, List.setIfInBounds_toArray, List.set_cons_zero, List.set_cons_succ, i64_w, i32_w]
    rfl
  refine pure_ (i := 2) (N := some 18) (v := ?_) (a' := ?_) #[true, true, true, false, false, false, false, false, false, false, false, false] rfl rfl (by kernel_rfl) (fun _ _ _ h => h) (Or.inl ⟨by rfl, ?_⟩) ?_ ?_
  rotate_left
  · intro w'
    go_simp
    with_reducible rfl
  rotate_left
  · simp only [Act.put, List.setIfInBounds_toArray, List.set_cons_zero, List.set_cons_succ, i64_w, i32_w]
    rfl
  refine take_ (i := 3) (N := some 19) (v := ?_) (a' := ?_) #[true, true, true, true, false, false, false, false, false, false, false, false] rfl rfl (by kernel_rfl) (fun _ _ _ h => h) (Or.inl ⟨by rfl, ?_⟩) hHeld ?_ ?_
  rotate_left
  · intro w' hS_
    have hc_ := pw_cell_below (show Below w2.heap.size w2 w' from hS_) h1
    go_simp
    with_reducible rfl
  rotate_left
  · simp only [Act.put, List.setIfInBounds_toArray, List.set_cons_zero, List.set_cons_succ, i64_w, i32_w]
    rfl
  refine take_ (i := 4) (N := some 20) (v := ?_) (a' := ?_) #[true, true, true, true, true, false, false, false, false, false, false, false] rfl rfl (by kernel_rfl) (fun _ _ _ h => h) (Or.inl ⟨by rfl, ?_⟩) hHeld ?_ ?_
  rotate_left
  · intro w' hS_
    have hx0 := pw_cell_below (show Below w2.heap.size w2 w' from hS_) t0
    have hx1 := pw_cell_below (show Below w2.heap.size w2 w' from hS_) t1
    have hx2 := pw_cell_below (show Below w2.heap.size w2 w' from hS_) t2
    go_simp
    with_reducible rfl
  rotate_left
  · simp only [Act.put, List.setIfInBounds_toArray, List.set_cons_zero, List.set_cons_succ, i64_w, i32_w]
    rfl
  refine pure_ (i := 5) (N := some 22) (v := ?_) (a' := ?_) #[true, true, true, true, true, true, false, false, false, false, false, false] rfl rfl (by kernel_rfl) (fun _ _ _ h => h) (Or.inl ⟨by rfl, ?_⟩) ?_ ?_
  rotate_left
  · intro w'
    go_simp
    with_reducible rfl
  rotate_left
  · simp only [Act.put, List.setIfInBounds_toArray, List.set_cons_zero, List.set_cons_succ, i64_w, i32_w]
    rfl
  refine one_ (i := 6) (N := some 23) #[true, true, true, true, true, true, true, false, false, false, false, false] rfl rfl (by kernel_rfl) (by decide) (fun K hK => ?_)
  refine ran_ (v := .slice (some ⟨w3.heap.size, 0, none⟩) 1 1) (w' := w3.alloc (.cells #[.int .i64 (i : Int)] 3)) (by rfl) rfl  ?_ ?_
  · go_simp
  have hb4 := below_alloc hHeld (.cells #[.int .i64 (i : Int)] 3)
  have hrow := blk_new w3 (.cells #[.int .i64 (i : Int)] 3)
  have hsz3 : (w3.alloc (.cells #[.int .i64 (i : Int)] 3)).heap.size = w3.heap.size + 1 := by simp
  generalize hw4 : w3.alloc (.cells #[.int .i64 (i : Int)] 3) = w4 at hb4 hrow hsz3 ⊢
  refine hK.out _ _ hb4 (fun hHeld => ?_)
  clear hK K
  refine norm_ (a' := ?_) ?_ ?_
  rotate_left
  · show Act.put _ (some 23) _ = _
    simp only [Act.put, List.setIfInBounds_toArray, List.set_cons_zero, List.set_cons_succ, i64_w, i32_w]
    rfl
  refine last_ (i := 7) (N := some 24) #[true, true, true, true, true, true, true, true, false, false, false, false] rfl rfl (by kernel_rfl) (by decide) (fun K hK => ?_)
  obtain ⟨v0, st, w5, hme, hg5, hsz5, ho5, hback⟩ := (S2.below hb4).entry (tri_ok s i)
  rw [Htri.out] at hme
  replace hme : (Instr.mapEntry 47 (.map (some m)) (.agg #[.int .u8 (a : Int), .int .u8 (b : Int), .int .u8 (c : Int)])).run Try.prog w4 = .ok (.tuple #[v0, goInt st]) w5 := hme
  refine ran_ (v := .tuple #[v0, goInt st]) (w' := w5) (by rfl) rfl  ?_ ?_
  · go_simp
  clear hme
  refine hK.out _ _ ?_
  clear hK K
  refine norm_ (a' := ?_) ?_ ?_
  rotate_left
  · show Act.put _ (some 24) _ = _
    simp only [Act.put, List.setIfInBounds_toArray, List.set_cons_zero, List.set_cons_succ, i64_w, i32_w]
    rfl
  refine pure_ (i := 8) (N := some 21) (v := ?_) (a' := ?_) #[true, true, true, true, true, true, true, true, true, false, false, false] rfl rfl (by kernel_rfl) (fun _ _ _ h => h) (Or.inl ⟨by rfl, ?_⟩) ?_ ?_
  rotate_left
  · intro w'
    go_simp
    with_reducible rfl
  rotate_left
  · simp only [Act.put, List.setIfInBounds_toArray, List.set_cons_zero, List.set_cons_succ, i64_w, i32_w]
    rfl
  refine pure_ (i := 10) (N := some 26) (v := ?_) (a' := ?_) #[true, true, true, true, true, true, true, true, true, false, true, false] rfl rfl (by kernel_rfl) (fun _ _ _ h => h) (Or.inl ⟨by rfl, ?_⟩) ?_ ?_
  rotate_left
  · intro w'
    go_simp
    with_reducible rfl
  rotate_left
  · simp only [Act.put, List.setIfInBounds_toArray, List.set_cons_zero, List.set_cons_succ, i64_w, i32_w]
    rfl
  refine last_ (i := 9) (N := some 25) #[true, true, true, true, true, true, true, true, true, true, true, false] rfl rfl (by kernel_rfl) (by decide) (fun K hK => ?_)
  obtain ⟨i0, hi0, hz0, hz1, hz2⟩ := info_parts infoInt
  obtain ⟨v6, w6, hap, ho6, hg6, _, hloc6⟩ := run_append_own_at (P := Try.prog) w5 base 41 41 3 i0 (.int .i64 0) 1 8 Try.underlying41 hi0 hz0 hz1 hz2 rfl (by decide) v0 _ _ ho5 ⟨w3.heap.size, 0, none⟩ 1 1 [.int .i64 (i : Int)] rfl (fun j u hu => by
      have hr5 := (hg5.block w3.heap.size (by omega) (by simp; omega)).trans hrow
      match j, hu with
      | 0, hu =>
        obtain rfl := Option.some.inj hu
        rw [add_plain]
        simp only [World.cell?]
        rw [hr5]
        rfl
      | j + 1, hu => simp at hu) (by simp [Value.oneCell']) (by simp only [maxLen]; omega) (by omega) (by omega)
  have ho7 : Own w6 base v6 (C (tri s i) ++ [i]) := by
    show w6.ownsRow base _ 1 v6 (C (tri s i) ++ [i]).length (ints (C (tri s i) ++ [i]))
    rw [ints_snoc, List.length_append]
    exact ho6
  obtain ⟨w7, hes, S7, hg7⟩ := hback w6 v6 (C (tri s i) ++ [i]) hg6 ho7 (by simp) (hloc6.imp id .inl)
  replace hes : (Instr.entryStore 47 (.map (some m)) (.int .i64 (st : Int)) v6).run Try.prog w6 = .ok () w7 := hes
  refine ran_ (v := v6) (w' := w6) (by rfl) rfl  ?_ ?_
  · exact append_run rfl rfl rfl rfl hap
  refine hK.out _ _ ?_
  clear hK K
  refine norm_ (a' := ?_) ?_ ?_
  rotate_left
  · show Act.put _ (some 25) _ = _
    simp only [Act.put, List.setIfInBounds_toArray, List.set_cons_zero, List.set_cons_succ, i64_w, i32_w]
    rfl
  refine last_ (i := 11) (N := none) #[true, true, true, true, true, true, true, true, true, true, true, true] rfl rfl (by kernel_rfl) (by decide) (fun K hK => ?_)
  refine ranSkip_ (w' := w7) (by rfl) rfl  ?_ ?_
  · go_simp
  refine hK.out _ _ ?_
  clear hK K
  refine norm_ (a' := ?_) ?_ ?_
  rotate_left
  · show Act.put _ none _ = _
    simp only [Act.put, List.setIfInBounds_toArray, List.set_cons_zero, List.set_cons_succ, i64_w, i32_w]
    rfl
  refine done_ (by kernel_rfl) ?_
  go_wp2
  go_end0
  refine ⟨rfl, S7, ?_⟩
  have k1 : NoteK w w4 base m := NoteK.of_below base m (below_then hb2 hb2.size hb4)
  exact ((k1.trans (NoteK.of_grown hg5)).trans (NoteK.of_row ho5 hg6)).trans (NoteK.of_grown hg7)
end Go.Proofs.Ytgalimhogolbjaa.Fnd

/- Found matches give the text again, and there are not too many; no program in sight. -/
import Derived.Test.YtgalimhogolbjaaMatchPure
namespace Go.Proofs.Ytgalimhogolbjaa.Fnd
open Go Go.RowKit Go.Proofs.Ytgalimhogolbjaa.PMatchAll Go.Proofs.YtgalimhogolbjaaW.PrintWords Go.Proofs.YtgalimhogolbjaaW.PrintLast Go.Proofs.YtgalimhogolbjaaW.PrintMore

theorem strOfNums_bytesOf (s : ByteArray) : strOfNums (bytesOf s) = s := by
  cases s with
  | mk d =>
    simp only [strOfNums, bytesOf, List.map_map]
    congr 1
    have : ((fun n : Int => UInt8.ofNat n.toNat) ∘ fun b : UInt8 => (b.toNat : Int)) = id := by
      funext b; simp
    rw [this]; simp
theorem B_at (s : ByteArray) (i : Nat) : (bytesOf s).getD i 0 = bt s (i : Int) := by
  rw [← rd_bytesOf]; simp [rd]
theorem lngF_prop (s : ByteArray) (a b : Nat) : ∀ f n, ∀ j, n ≤ j → j < lngF s a b f n → bt s ((a + j : Nat) : Int) = bt s ((b + j : Nat) : Int) := by
  intro f
  induction f with
  | zero => intro n j h1 h2; rw [lngF] at h2; omega
  | succ f ih =>
    intro n j h1 h2
    rw [lngF] at h2
    split at h2
    · rename_i hc
      by_cases hj : j = n
      · subst hj; exact hc.2
      · exact ih (n + 1) j (by omega) h2
    · omega
theorem lng_prop (s : ByteArray) (a b j : Nat) (h : j < lng s a b) : bt s ((a + j : Nat) : Int) = bt s ((b + j : Nat) : Int) := lngF_prop s a b 258 0 j (Nat.zero_le _) h
/-- Is t a match that stands at i? -/
def Mt (s : ByteArray) (i : Nat) (t : Nat × Nat) : Prop := t.1 = 0 ∨ ∃ p, p < i ∧ i - p ≤ 32768 ∧ t = (lng s p i, i - p)
theorem bestF_mt (s : ByteArray) (i : Nat) : ∀ (f : Nat) (l : List Nat) (t : Nat × Nat), (∀ p ∈ l, p < i) → Mt s i t → Mt s i (bestF s i f l t) := by
  intro f
  induction f with
  | zero => intro l t _ h; exact h
  | succ f ih =>
    intro l t hl h
    cases l with
    | nil => exact h
    | cons p r =>
      rw [bestF]
      split
      · exact h
      · rename_i hc
        apply ih _ _ (fun q hq => hl q (List.mem_cons_of_mem _ hq))
        split
        · exact .inr ⟨p, hl p (List.mem_cons_self ..), by omega, rfl⟩
        · exact h
theorem bst_mt (s : ByteArray) (i : Nat) : Mt s i (bst s i) := by
  unfold bst
  split
  · refine bestF_mt s i _ _ _ (fun p hp => ?_) (.inl rfl)
    exact seen_lt s i _ p (List.mem_reverse.1 hp)
  · exact .inl rfl
theorem take_next (B : List Int) (i : Nat) (h : i < B.length) : B.take i ++ [B.getD i 0] = B.take (i + 1) := by
  rw [List.take_add_one, List.getD_eq_getElem?_getD, List.getElem?_eq_getElem h]; rfl
theorem copy_take (B pre : List Int) (d : Nat) (hd : 1 ≤ d) : ∀ (n i : Nat), d ≤ i → i + n ≤ B.length → (∀ j, j < n → B.getD (i - d + j) 0 = B.getD (i + j) 0) → copy d n (pre ++ B.take i) = pre ++ B.take (i + n) := by
  intro n
  induction n with
  | zero => intro i _ _ _; rfl
  | succ n ih =>
    intro i hi hn hj
    rw [copy]
    have hlen : (pre ++ B.take i).length - d = pre.length + (i - d) := by simp; omega
    have hg : (pre ++ B.take i).getD ((pre ++ B.take i).length - d) 0 = B.getD i 0 := by
      rw [hlen]
      have h0 := hj 0 (by omega)
      rw [Nat.add_zero, Nat.add_zero] at h0
      rw [← h0]
      simp only [List.getD_eq_getElem?_getD]
      rw [List.getElem?_append_right (by omega), show pre.length + (i - d) - pre.length = i - d from by omega, List.getElem?_take_of_lt (by omega)]
    rw [hg, List.append_assoc, take_next B i (by omega), ih (i + 1) (by omega) (by omega) (fun j hjn => ?_)]
    · congr 2; omega
    · have := hj (j + 1) (by omega)
      rw [show i + 1 - d + j = i - d + (j + 1) from by omega, this]
      congr 1; omega
theorem findF_end (s : ByteArray) (f i : Nat) (h : ¬ i < s.size) : findF s f i = [] := by
  cases f with
  | zero => rfl
  | succ f => rw [findF, if_neg h]
theorem adv_pos (s : ByteArray) (i : Nat) : 1 ≤ adv s i := by unfold adv; split <;> omega
theorem adv_fit (s : ByteArray) (i : Nat) (h : i < s.size) : i + adv s i ≤ s.size := by
  have := bst_fit s i (by omega)
  unfold adv; split <;> omega
theorem tok_app (s : ByteArray) (i : Nat) (h : i < s.size) (pre : List Int) : fineB (tok s i) = true ∧ (tok s i).f2 ≤ ((pre ++ (bytesOf s).take i).length : Int) ∧ app (tok s i) (pre ++ (bytesOf s).take i) = pre ++ (bytesOf s).take (i + adv s i) := by
  have hB := bytesOf_length s
  by_cases hc : (bst s i).1 < 3
  · have e : tok s i = ⟨bt s (i : Int), 0, 0⟩ := by unfold tok; rw [if_pos hc]
    have ea : adv s i = 1 := by unfold adv; rw [if_pos hc]
    rw [e, ea]
    refine ⟨rfl, by simp; omega, ?_⟩
    show (pre ++ (bytesOf s).take i) ++ [bt s (i : Int)] = _
    rw [List.append_assoc, ← B_at, take_next _ _ (by omega)]
  · have e : tok s i = ⟨0, ((bst s i).1 : Nat), ((bst s i).2 : Nat)⟩ := by unfold tok; rw [if_neg hc]
    have ea : adv s i = (bst s i).1 := by unfold adv; rw [if_neg hc]
    rw [e, ea]
    rcases bst_mt s i with h0 | ⟨p, hp, hd, hb⟩
    · omega
    · have hfit := bst_fit s i (by omega)
      have hle := (bst_le s i).1
      have h2 : (bst s i).2 = i - p := by rw [hb]
      have h1 : (bst s i).1 = lng s p i := by rw [hb]
      refine ⟨?_, ?_, ?_⟩
      · unfold fineB
        dsimp only
        rw [if_neg (by omega)]
        apply decide_eq_true
        omega
      · dsimp only
        rw [List.length_append, List.length_take]; omega
      · unfold app
        dsimp only
        rw [if_neg (by omega), Int.toNat_natCast, Int.toNat_natCast]
        refine copy_take _ _ _ (by omega) _ _ (by omega) (by omega) (fun j hj => ?_)
        rw [B_at, B_at, h2, show i - (i - p) = p from by omega]
        exact lng_prop s p i j (by omega)
theorem findF_run (s : ByteArray) : ∀ (f i : Nat) (pre : List Int), i ≤ s.size → s.size < f + i → run (findF s f i) (pre ++ (bytesOf s).take i) = some (pre ++ bytesOf s) := by
  intro f
  induction f with
  | zero => intro i pre h1 h2; omega
  | succ f ih =>
    intro i pre h1 h2
    rw [findF]
    by_cases hc : i < s.size
    · rw [if_pos hc, run]
      obtain ⟨t1, t2, t3⟩ := tok_app s i hc pre
      rw [if_pos ⟨t1, t2⟩, t3]
      have := adv_pos s i
      exact ih _ _ (adv_fit s i hc) (by omega)
    · rw [if_neg hc, run, List.take_of_length_le (by rw [bytesOf_length]; omega)]
theorem find_run (s : ByteArray) (pre : List Int) : run (find s) pre = some (pre ++ bytesOf s) := by
  have := findF_run s (s.size + 1) 0 pre (Nat.zero_le _) (by omega)
  rw [List.take_zero, List.append_nil] at this
  exact this
theorem findF_length (s : ByteArray) : ∀ (f i : Nat), (findF s f i).length ≤ s.size - i := by
  intro f
  induction f with
  | zero => intro i; simp [findF]
  | succ f ih =>
    intro i
    rw [findF]
    split
    · have := adv_pos s i
      have := ih (i + adv s i)
      rw [List.length_cons]; omega
    · simp
theorem find_length (s : ByteArray) : (find s).length ≤ s.size := by
  have := findF_length s (s.size + 1) 0
  simpa [find] using this

/-! ## a run of one byte -/
section
variable (s : ByteArray) (c : Int) (hc : ∀ j, j < s.size → bt s ((j : Nat) : Int) = c)
include hc
theorem run_lngF (a b : Nat) (hab : a < b) : ∀ f n, b + n ≤ s.size → lngF s a b f n = min (n + f) (s.size - b) := by
  intro f
  induction f with
  | zero => intro n h; rw [lngF]; omega
  | succ f ih =>
    intro n h
    rw [lngF]
    by_cases h2 : b + n < s.size
    · rw [if_pos ⟨h2, by rw [hc _ (by omega), hc _ (by omega)]⟩, ih (n + 1) (by omega)]; omega
    · rw [if_neg (fun hh => h2 hh.1)]; omega
theorem run_lng (a b : Nat) (hab : a < b) (hb : b ≤ s.size) : lng s a b = min 258 (s.size - b) := by
  rw [lng, run_lngF s c hc a b hab 258 0 (by omega), Nat.zero_add]
theorem run_bestF (i M : Nat) (hi : i ≤ s.size) (hM : M = min 258 (s.size - i)) : ∀ (f : Nat) (l : List Nat) (t : Nat × Nat), (∀ p ∈ l, p < i) → t.1 = M → (bestF s i f l t).1 = M := by
  intro f
  induction f with
  | zero => intro l t _ h; exact h
  | succ f ih =>
    intro l t hl h
    cases l with
    | nil => exact h
    | cons p r =>
      rw [bestF]
      split
      · exact h
      · have hp := run_lng s c hc p i (hl p (List.mem_cons_self ..)) hi
        rw [if_neg (by omega)]
        exact ih _ _ (fun q hq => hl q (List.mem_cons_of_mem _ hq)) h
theorem run_seen (i : Nat) (h1 : 1 ≤ i) (h2 : i + 2 < s.size) : ∃ r, (seen s i (tri s i)).reverse = (i - 1) :: r := by
  obtain ⟨m, rfl⟩ : ∃ m, i = m + 1 := ⟨i - 1, by omega⟩
  have ht : tri s m = tri s (m + 1) := by
    unfold tri
    simp only [hc m (by omega), hc (m + 1) (by omega), hc (m + 2) (by omega), hc (m + 1 + 2) (by omega)]
  refine ⟨(seen s m (tri s (m + 1))).reverse, ?_⟩
  unfold seen
  rw [List.range_succ, List.filter_append, List.reverse_append]
  simp [ht, show m + 2 < s.size from by omega]
theorem run_bst (i : Nat) (h1 : 1 ≤ i) (h2 : i + 2 < s.size) : (bst s i).1 = min 258 (s.size - i) := by
  unfold bst
  rw [if_pos h2]
  obtain ⟨r, hr⟩ := run_seen s c hc i h1 h2
  have hl : ∀ p ∈ (seen s i (tri s i)).reverse, p < i := fun p hp => seen_lt s i _ p (List.mem_reverse.1 hp)
  rw [hr] at hl ⊢
  rw [show (32 : Nat) = 31 + 1 from rfl, bestF, if_neg (by omega)]
  have hp := run_lng s c hc (i - 1) i (by omega) (by omega)
  rw [if_pos (by rw [hp]; omega)]
  exact run_bestF s c hc i _ (by omega) rfl 31 r _ (fun q hq => hl q (List.mem_cons_of_mem _ hq)) hp
theorem run_count : ∀ (f i : Nat), 1 ≤ i → i ≤ s.size → (findF s f i).length ≤ (s.size - i) / 258 + 2 := by
  intro f
  induction f with
  | zero => intro i _ _; simp [findF]
  | succ f ih =>
    intro i h1 hi
    by_cases h2 : i + 2 < s.size
    · rw [findF, if_pos (by omega), List.length_cons]
      have hb := run_bst s c hc i h1 h2
      have ha : adv s i = min 258 (s.size - i) := by unfold adv; rw [if_neg (by omega), hb]
      by_cases h3 : 258 ≤ s.size - i
      · have := ih (i + adv s i) (by omega) (by omega)
        have e : s.size - (i + adv s i) = s.size - i - 258 := by omega
        rw [e] at this
        omega
      · rw [findF_end s f _ (by omega)]
        simp
    · have := findF_length s (f + 1) i
      omega
theorem run_find : (find s).length ≤ 3 + s.size / 258 := by
  unfold find
  rw [findF]
  split
  · have ha := adv_pos s 0
    have hf := adv_fit s 0 (by omega)
    have := run_count s c hc s.size (0 + adv s 0) (by omega) hf
    rw [List.length_cons]
    have : (s.size - (0 + adv s 0)) / 258 ≤ s.size / 258 := Nat.div_le_div_right (by omega)
    omega
  · simp
end
end Go.Proofs.Ytgalimhogolbjaa.Fnd

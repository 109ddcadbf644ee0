/- Plain laws of bits turned within 32 side by side. -/
import Derived.Test.YtmiknmpdlkhpaaaDoorAdler
namespace Go.Proofs.YtmiknmpdlkhpaaaDoor.Mor

/-- What is turned of byte q behind i rounds. -/
def msk (p i q : Nat) : Nat := (p % 2 ^ i) / 2 ^ (8 * q) % 2 ^ 8
theorem msk_bit (p i q j : Nat) : (msk p i q).testBit j = (decide (j < 8) && (decide (8 * q + j < i) && p.testBit (8 * q + j))) := by
  unfold msk
  rw [Nat.testBit_mod_two_pow, Nat.testBit_div_two_pow, Nat.testBit_mod_two_pow]
  rw [Nat.add_comm j]
theorem msk_lt (p i q : Nat) : msk p i q < 256 := Nat.mod_lt _ (by decide)
theorem msk_zero (p q : Nat) : msk p 0 q = 0 := by simp [msk, Nat.mod_one]
theorem msk_far (p i q : Nat) (hi : i ≤ 32) (hq : 4 ≤ q) : msk p i q = 0 := by
  apply Nat.eq_of_testBit_eq
  intro j
  rw [msk_bit, Nat.zero_testBit]
  have : decide (8 * q + j < i) = false := by simp; omega
  simp [this]
theorem msk_next (p i q : Nat) : msk p (i + 1) q = msk p i q ^^^ (if q = i / 8 ∧ p.testBit i = true then 2 ^ (i % 8) else 0) := by
  apply Nat.eq_of_testBit_eq
  intro j
  rw [Nat.testBit_xor, msk_bit, msk_bit]
  by_cases hj : j < 8
  · simp only [hj, decide_true, Bool.true_and]
    by_cases hc : q = i / 8 ∧ p.testBit i = true
    · rw [if_pos hc, Nat.testBit_two_pow]
      obtain ⟨rfl, hp⟩ := hc
      by_cases he : i % 8 = j
      · have e1 : 8 * (i / 8) + j = i := by omega
        simp [he, e1, hp]
      · have e2 : decide (8 * (i / 8) + j < i + 1) = decide (8 * (i / 8) + j < i) := by
          rw [decide_eq_decide]; omega
        simp [he, e2]
    · rw [if_neg hc, Nat.zero_testBit]
      by_cases he : 8 * q + j = i
      · have e3 : q = i / 8 := by omega
        have : p.testBit i = false := by
          cases hb : p.testBit i with
          | false => rfl
          | true => exact absurd ⟨e3, hb⟩ hc
        simp [he, this]
      · have e2 : decide (8 * q + j < i + 1) = decide (8 * q + j < i) := by
          rw [decide_eq_decide]; omega
        simp [e2]
  · simp only [hj, decide_false, Bool.false_and]
    split
    · rw [Nat.testBit_two_pow]
      have : i % 8 ≠ j := by omega
      simp [this]
    · simp
/-- Byte k behind i rounds, from byte A on. -/
def mskAt (p A i k : Nat) : Nat := if A ≤ k then msk p i (k - A) else 0
def turn (l : List Nat) (p A i : Nat) : List Nat := xors l ((List.range l.length).map (mskAt p A i))
theorem turn_length (l : List Nat) (p A i : Nat) : (turn l p A i).length = l.length := by simp [turn, xors]
theorem turn_at (l : List Nat) (p A i k : Nat) (h : k < (turn l p A i).length) : (turn l p A i)[k] = l[k]'(by rwa [turn_length] at h) ^^^ mskAt p A i k := by
  simp [turn, xors]
theorem turn_zero (l : List Nat) (p A : Nat) : turn l p A 0 = l := by
  apply List.ext_getElem (turn_length _ _ _ _)
  intro k h1 h2
  rw [turn_at]
  simp [mskAt, msk_zero]
theorem turn_lt (l : List Nat) (hl : ∀ b ∈ l, b < 256) (p A i : Nat) : ∀ b ∈ turn l p A i, b < 256 := by
  intro b hb
  obtain ⟨k, hk, rfl⟩ := List.getElem_of_mem hb
  rw [turn_at]
  refine Nat.xor_lt_two_pow (n := 8) (hl _ (List.getElem_mem _)) ?_
  unfold mskAt
  split
  · exact msk_lt _ _ _
  · decide
theorem turn_same (l : List Nat) (p A i : Nat) (h : p.testBit i = false ∨ l.length ≤ A + i / 8) : turn l p A (i + 1) = turn l p A i := by
  apply List.ext_getElem (by simp [turn_length])
  intro k h1 h2
  rw [turn_at, turn_at]
  congr 1
  unfold mskAt
  split
  · rename_i hA
    rw [msk_next, if_neg, Nat.xor_zero]
    rintro ⟨e, hb⟩
    rw [turn_length] at h2
    rcases h with h | h
    · rw [h] at hb; cases hb
    · omega
  · rfl
theorem turn_set (l : List Nat) (p A i : Nat) (hb : p.testBit i = true) (hl : A + i / 8 < l.length) :
    (turn l p A i).set (A + i / 8) ((turn l p A i)[A + i / 8]'(by rw [turn_length]; exact hl) ^^^ 2 ^ (i % 8)) = turn l p A (i + 1) := by
  apply List.ext_getElem (by simp [turn_length])
  intro k h1 h2
  rw [List.getElem_set, turn_at l p A (i + 1) k h2]
  split
  · rename_i e
    subst e
    rw [turn_at]
    unfold mskAt
    rw [if_pos (by omega), if_pos (by omega), msk_next, if_pos ⟨by omega, hb⟩, Nat.xor_assoc]
  · rename_i e
    rw [turn_at]
    congr 1
    unfold mskAt
    split
    · rw [msk_next, if_neg, Nat.xor_zero]
      rintro ⟨e2, _⟩
      omega
    · rfl
/-- Has one been turned within the first i? -/
def Was (n p A i : Nat) (t : Bool) : Prop := t = true ↔ ∃ j, j < i ∧ p.testBit j = true ∧ A + j / 8 < n
theorem Was.start (n p A : Nat) : Was n p A 0 false := by
  constructor
  · intro h; cases h
  · rintro ⟨j, hj, _⟩; omega
theorem Was.yes {n p A i : Nat} (hb : p.testBit i = true) (hl : A + i / 8 < n) : Was n p A (i + 1) true :=
  ⟨fun _ => ⟨i, by omega, hb, hl⟩, fun _ => rfl⟩
theorem Was.keep {n p A i : Nat} {t : Bool} (h : Was n p A i t) (hn : p.testBit i = false ∨ n ≤ A + i / 8) : Was n p A (i + 1) t := by
  constructor
  · intro ht
    obtain ⟨j, hj, h2⟩ := h.1 ht
    exact ⟨j, by omega, h2⟩
  · rintro ⟨j, hj, h2, h3⟩
    refine h.2 ⟨j, ?_, h2, h3⟩
    by_cases e : j = i
    · subst e
      rcases hn with hn | hn
      · rw [hn] at h2; cases h2
      · omega
    · omega
theorem turned_told (l : List Nat) (p A : Nat) (hA : A < l.length) (h : Was l.length p A 32 true) : crcMore 0 (turn l p A 32) ≠ crcMore 0 l := by
  have hm : (List.range l.length).map (mskAt p A 32) = List.replicate A 0 ++ (List.range (min 4 (l.length - A))).map (msk p 32) ++ List.replicate (l.length - A - min 4 (l.length - A)) 0 := by
    apply List.ext_getElem
    · simp; omega
    · intro k h1 h2
      simp only [List.getElem_map, List.getElem_range, mskAt]
      simp only [List.length_map, List.length_range] at h1
      by_cases c1 : k < A
      · rw [if_neg (by omega), List.getElem_append_left (by simp; omega), List.getElem_append_left (by simpa using c1)]
        simp
      · rw [if_pos (by omega)]
        by_cases c2 : k - A < min 4 (l.length - A)
        · rw [List.getElem_append_left (by simp; omega), List.getElem_append_right (by simp; omega)]
          simp
        · rw [List.getElem_append_right (by simp; omega), msk_far p 32 _ (Nat.le_refl _) (by omega)]
          simp
  refine crc_turned l _ A _ _ hm (by simp) (by simp; omega) ?_ ?_
  · intro b hb
    obtain ⟨q, _, rfl⟩ := List.mem_map.1 hb
    exact msk_lt _ _ _
  · obtain ⟨j, hj, hp, hl⟩ := h.1 rfl
    refine ⟨msk p 32 (j / 8), List.mem_map.2 ⟨j / 8, List.mem_range.2 (by omega), rfl⟩, ?_⟩
    intro e
    have h2 := msk_bit p 32 (j / 8) (j % 8)
    rw [e, Nat.zero_testBit] at h2
    have e1 : 8 * (j / 8) + j % 8 = j := by omega
    have e2 : j % 8 < 8 := Nat.mod_lt _ (by decide)
    rw [e1] at h2
    simp [hp, hj, e2] at h2
end Go.Proofs.YtmiknmpdlkhpaaaDoor.Mor

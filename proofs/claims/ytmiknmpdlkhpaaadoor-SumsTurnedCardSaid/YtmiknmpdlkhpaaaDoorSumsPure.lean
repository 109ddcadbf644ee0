/- What the printed functions of the sums come to, in plain Lean: the CRC, the Adler, the words' sum, a header's sum, by the program and by the reference. -/
import Derived.Test.YtmiknmpdlkhpaaaDoorPSumsAllx2
namespace Go.Proofs.YtmiknmpdlkhpaaaDoor.Mor
open Go Go.RowKit Go.Proofs.YtmiknmpdlkhpaaaDoor.PSumsAll Go.Proofs.YtmiknmpdlkhpaaaDoorW.PrintWords Go.Proofs.YtmiknmpdlkhpaaaDoorW.PrintLast

/-! ## a text's rest -/
/-- From byte i on the text is l. -/
def At (s : ByteArray) (i : Nat) (l : List Nat) : Prop := (byts s).drop i = l ∧ i ≤ s.size
theorem At.start (s : ByteArray) : At s 0 (byts s) := ⟨rfl, Nat.zero_le _⟩
theorem bt_nat (s : ByteArray) (i : Nat) (h : i < s.size) : bt s (i : Int) = (((byts s)[i]'(by rw [byts_length]; exact h) : Nat) : Int) := by
  simp only [bt, Int.toNat_natCast, h, dif_pos, byts, List.getElem_map]
  rfl
theorem At.nil {s : ByteArray} {i : Nat} (h : At s i []) : i = s.size := by
  have := List.drop_eq_nil_iff.1 h.1
  rw [byts_length] at this
  exact Nat.le_antisymm h.2 this
theorem At.cons {s : ByteArray} {i b : Nat} {l : List Nat} (h : At s i (b :: l)) : i < s.size ∧ bt s (i : Int) = (b : Int) ∧ At s (i + 1) l ∧ b < 256 := by
  have hlt : i < (byts s).length := by
    apply Nat.lt_of_not_le
    intro hle
    have := h.1
    rw [List.drop_eq_nil_of_le hle] at this
    cases this
  have hs : i < s.size := by rw [byts_length] at hlt; exact hlt
  have hd := List.drop_eq_getElem_cons hlt
  rw [h.1] at hd
  injection hd with h1 h2
  refine ⟨hs, ?_, ⟨h2.symm, hs⟩, ?_⟩
  · rw [bt_nat s i hs, ← h1]
  · rw [h1]; exact byts_lt s _ (List.getElem_mem hlt)
theorem w64 {n : Int} (h0 : -9223372036854775808 ≤ n) (h1 : n ≤ 9223372036854775807) : wrap64 n = n := by
  unfold wrap64; omega
theorem tmod_nat (a b : Nat) : Int.tmod (a : Int) (b : Int) = ((a % b : Nat) : Int) := by
  rw [Int.tmod_eq_emod_of_nonneg (by omega)]; rfl
theorem tdiv_nat (a b : Nat) : Int.tdiv (a : Int) (b : Int) = ((a / b : Nat) : Int) := by
  rw [Int.tdiv_eq_ediv_of_nonneg (by omega)]; rfl
abbrev big : Nat := 281474976710656

/-! ## the CRC -/
theorem refSteps_front (k : Nat) (p : Nat × Nat) : refSteps (k + 1) p = refSteps k (refStep p) := by
  induction k generalizing p with
  | zero => rfl
  | succ k ih => rw [refSteps, ih]; rfl
theorem more_ev (c : Nat) (s : ByteArray) (hc : c < 4294967296) (hs : s.size ≤ big) : sums_More.f (c : Int) s = some ((crcMore c (byts s) : Nat) : Int) := by
  unfold sums_More.f
  rw [if_pos ⟨by omega, by omega, by unfold maxLen; unfold big at hs; omega⟩]
  simp
theorem crc_ev (s : ByteArray) (hs : s.size ≤ big) : sums_Crc.f s = some ((crcMore 0 (byts s) : Nat) : Int) := by
  unfold sums_Crc.f
  have := more_ev 0 s (by decide) hs
  rw [show ((0 : Nat) : Int) = 0 from rfl] at this
  rw [this]; rfl
theorem refMore_l1 (s : ByteArray) (i : Nat) (hi : i < s.size) (hs : s.size ≤ big) (r : Int) (d : Nat) : ∀ (j : Nat) (p : Nat × Nat), j + d = 8 → p.1 < 4294967296 → p.2 < 4294967296 →
    Ev (fun k => mortiseref03_More.l0 k s (((refSteps d p).1 : Nat) : Int) ((i + 1 : Nat) : Int)) r → Ev (fun k => mortiseref03_More.l1 k s (p.1 : Int) (i : Int) (p.2 : Int) (j : Int)) r := by
  unfold big at hs
  induction d with
  | zero =>
    intro j p hj _ _ h
    refine Ev.step (fun k => ?_) h
    simp only [mortiseref03_More.l1]
    rw [if_neg (by omega), w64 (by omega) (by omega)]
    rfl
  | succ d ih =>
    intro j p hj h1 h2 h
    rw [refSteps_front] at h
    have hlt := refStep_lt h1
    refine Ev.step (fun k => ?_) (ih (j + 1) (refStep p) (by omega) hlt (by simp only [refStep]; omega) h)
    simp only [mortiseref03_More.l1]
    rw [if_pos (by omega), w64 (by omega) (by omega)]
    have a2 := tmod_nat p.1 2
    have b2 := tmod_nat p.2 2
    have a3 := tdiv_nat p.1 2
    have b3 := tdiv_nat p.2 2
    simp only [show ((2 : Nat) : Int) = 2 from rfl] at a2 b2 a3 b3
    rw [a2, b2, a3, b3]
    have e1 : ((p.1 / 2 : Nat) : Int) % 4294967296 = ((p.1 / 2 : Nat) : Int) := by omega
    have e2 : ((p.2 / 2 : Nat) : Int) % 4294967296 = ((p.2 / 2 : Nat) : Int) := by omega
    rw [e1, e2]
    by_cases hb : p.1 % 2 = p.2 % 2
    · rw [if_pos (by omega)]
      simp only [refStep, hb, ne_eq, not_true_eq_false, if_false]
      rfl
    · rw [if_neg (by omega)]
      have hx := u32_xor_nat (p.1 / 2) 3988292384 (by omega) (by decide)
      simp only [show ((3988292384 : Nat) : Int) = 3988292384 from rfl] at hx
      rw [hx]
      simp only [refStep, hb, ne_eq, not_false_eq_true, if_true]
      rfl
theorem refMore_l0 (s : ByteArray) (hs : s.size ≤ big) (l : List Nat) : ∀ (i c : Nat), At s i l → c < 4294967296 →
    Ev (fun k => mortiseref03_More.l0 k s (c : Int) (i : Int)) ((flip (reg c l) : Nat) : Int) := by
  induction l with
  | nil =>
    intro i c h hc
    have hi := h.nil
    refine Ev.step (fun k => ?_) (Ev.now _)
    simp only [mortiseref03_More.l0]
    rw [if_neg (by omega)]
    have hx := u32_xor_nat c 4294967295 hc (by decide)
    simp only [show ((4294967295 : Nat) : Int) = 4294967295 from rfl] at hx
    rw [hx]; rfl
  | cons b l ih =>
    intro i c h hc
    obtain ⟨hi, hb, hn, hb2⟩ := h.cons
    have h8 := refSteps_eight c b hb2
    refine Ev.step (fun k => ?_) (refMore_l1 s i hi hs _ 8 0 (c, b) rfl hc (by simp only; omega) ?_)
    · simp only [mortiseref03_More.l0]
      rw [if_pos (by omega), if_pos (by omega), hb]
      have e : (b : Int) % 4294967296 = (b : Int) := by omega
      rw [e]; rfl
    · rw [h8]
      exact ih (i + 1) _ hn (stp8_lt (xor_lt hc (by omega)))
theorem refMore_ev (c : Nat) (s : ByteArray) (hc : c < 4294967296) (hs : s.size ≤ big) : Ev (fun k => mortiseref03_More.f k (c : Int) s) ((crcMore c (byts s) : Nat) : Int) := by
  unfold mortiseref03_More.f crcMore
  have hx := u32_xor_nat c 4294967295 hc (by decide)
  simp only [show ((4294967295 : Nat) : Int) = 4294967295 from rfl] at hx
  rw [hx]
  exact refMore_l0 s hs _ 0 _ (At.start s) (flip_lt hc)
theorem refCrc_ev (s : ByteArray) (hs : s.size ≤ big) : Ev (fun k => mortiseref03_Crc.f k s) ((crcMore 0 (byts s) : Nat) : Int) :=
  Ev.bind (f := fun _ t => some t) (refMore_ev 0 s (by decide) hs) (Ev.now _)
end Go.Proofs.YtmiknmpdlkhpaaaDoor.Mor

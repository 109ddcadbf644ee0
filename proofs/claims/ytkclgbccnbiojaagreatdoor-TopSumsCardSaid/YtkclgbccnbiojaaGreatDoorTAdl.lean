/- Plain laws of the Adler sum. No program in sight. -/
import Derived.Test.YtkclgbccnbiojaaGreatDoorTHalf
namespace Go.Proofs.YtkclgbccnbiojaaGreatDoor.Mor
open Go Go.RowKit
set_option linter.unusedVariables false
set_option linter.unusedSimpArgs false
def adl (p : Nat × Nat) (l : List Nat) : Nat × Nat := l.foldl (fun p b => ((p.1 + b) % 65521, (p.2 + (p.1 + b) % 65521) % 65521)) p
def raw (p : Nat × Nat) (l : List Nat) : Nat × Nat := l.foldl (fun p b => (p.1 + b, p.2 + (p.1 + b))) p
def adlerMore (a : Nat) (l : List Nat) : Nat := 65536 * (adl (a % 65536 % 65521, a / 65536 % 65521) l).2 + (adl (a % 65536 % 65521, a / 65536 % 65521) l).1
theorem adl_cons (p : Nat × Nat) (b : Nat) (l : List Nat) : adl p (b :: l) = adl ((p.1 + b) % 65521, (p.2 + (p.1 + b) % 65521) % 65521) l := rfl
theorem raw_cons (p : Nat × Nat) (b : Nat) (l : List Nat) : raw p (b :: l) = raw (p.1 + b, p.2 + (p.1 + b)) l := rfl
theorem raw_snoc (p : Nat × Nat) (b : Nat) (l : List Nat) : raw p (l ++ [b]) = ((raw p l).1 + b, (raw p l).2 + ((raw p l).1 + b)) := by simp [raw]
theorem adl_append (p : Nat × Nat) (l m : List Nat) : adl p (l ++ m) = adl (adl p l) m := by simp [adl]
theorem adl_lt (l : List Nat) : ∀ p : Nat × Nat, p.1 < 65521 → p.2 < 65521 → (adl p l).1 < 65521 ∧ (adl p l).2 < 65521 := by
  induction l with
  | nil => intro p h1 h2; exact ⟨h1, h2⟩
  | cons b l ih => intro p h1 h2; rw [adl_cons]; exact ih _ (Nat.mod_lt _ (by decide)) (Nat.mod_lt _ (by decide))
theorem raw_adl (l : List Nat) : ∀ p : Nat × Nat, adl (p.1 % 65521, p.2 % 65521) l = ((raw p l).1 % 65521, (raw p l).2 % 65521) := by
  induction l with
  | nil => intro p; rfl
  | cons b l ih =>
    intro p
    rw [adl_cons, raw_cons, ← ih]
    have e1 : (p.1 % 65521 + b) % 65521 = (p.1 + b) % 65521 := by omega
    have e2 : (p.2 % 65521 + (p.1 + b) % 65521) % 65521 = (p.2 + (p.1 + b)) % 65521 := by omega
    simp only [e1, e2]
theorem adlerMore_append (a : Nat) (l m : List Nat) : adlerMore a (l ++ m) = adlerMore (adlerMore a l) m := by
  unfold adlerMore
  have h := adl_lt l (a % 65536 % 65521, a / 65536 % 65521) (Nat.mod_lt _ (by decide)) (Nat.mod_lt _ (by decide))
  generalize hq : adl (a % 65536 % 65521, a / 65536 % 65521) l = q at h
  obtain ⟨x, y⟩ := q
  simp only at h
  have e1 : (65536 * y + x) % 65536 % 65521 = x := by omega
  have e2 : (65536 * y + x) / 65536 % 65521 = y := by omega
  simp only [e1, e2]
  rw [adl_append, hq]
theorem adlerMore_lt (a : Nat) (l : List Nat) : adlerMore a l < 4294967296 := by
  unfold adlerMore
  have h := adl_lt l (a % 65536 % 65521, a / 65536 % 65521) (Nat.mod_lt _ (by decide)) (Nat.mod_lt _ (by decide))
  omega
def Room (i : Nat) (p : Nat × Nat) : Prop := p.1 ≤ 65520 + 255 * i ∧ 2 * p.2 ≤ 131040 * (i + 1) + 255 * (i * (i + 1))
theorem Room.next {i b : Nat} {p : Nat × Nat} (h : Room i p) (hb : b < 256) : Room (i + 1) (p.1 + b, p.2 + (p.1 + b)) := by
  obtain ⟨h1, h2⟩ := h
  have e : (i + 1) * (i + 1 + 1) = i * (i + 1) + 2 * (i + 1) := by
    rw [Nat.add_mul i 1 (i + 1 + 1), Nat.mul_add i (i + 1) 1]; omega
  refine ⟨by simp only; omega, ?_⟩
  simp only
  rw [e]
  omega
theorem Room.fits {i : Nat} {p : Nat × Nat} (h : Room i p) (hi : i ≤ 5000) : p.1 < 4294967296 ∧ p.2 < 4294967296 := by
  obtain ⟨h1, h2⟩ := h
  have : i * (i + 1) ≤ 5000 * 5001 := Nat.mul_le_mul hi (by omega)
  exact ⟨by omega, by omega⟩
theorem room_take (p : Nat × Nat) (h1 : p.1 < 65521) (h2 : p.2 < 65521) (s : ByteArray) : ∀ k, k ≤ s.size → Room k (raw p ((byts s).take k)) := by
  intro k
  induction k with
  | zero => intro _; exact ⟨by simp [raw]; omega, by simp [raw]; omega⟩
  | succ k ih =>
    intro hk
    rw [byts_take s k (by omega), raw_snoc]
    exact (ih (by omega)).next (s[k]'(by omega)).toNat_lt
theorem or_join (x y : Nat) (hx : x < 65521) (hy : y < 65521) : Go.bits .or .u32 (((y : Int) * 65536) % 4294967296) (x : Int) = ((65536 * y + x : Nat) : Int) := by
  have e : ((y : Int) * 65536) % 4294967296 = ((65536 * y : Nat) : Int) := by omega
  rw [e, u32_or_nat _ _ (by omega) (by omega)]
  congr 1
  have h := Nat.two_pow_add_eq_or_of_lt (i := 16) (b := x) (by omega) y
  simp only [show (2 : Nat) ^ 16 = 65536 from rfl] at h
  exact h.symm
theorem low16 (a : Nat) (ha : a < 4294967296) : Go.bits .and .u32 (a : Int) 65535 = ((a % 65536 : Nat) : Int) := by
  have h := u32_and_nat a 65535 ha (by decide)
  have e : a &&& 65535 = a % 65536 := Nat.and_two_pow_sub_one_eq_mod a 16
  rw [e] at h
  exact h
end Go.Proofs.YtkclgbccnbiojaaGreatDoor.Mor

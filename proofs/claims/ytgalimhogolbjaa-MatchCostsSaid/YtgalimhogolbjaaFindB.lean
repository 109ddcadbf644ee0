/- Walk of the finder's 'long': how far two places go alike. -/
import Derived.Test.YtgalimhogolbjaaFindA
import Derived.BigQuiet
import Derived.Deep.QuietTactic
namespace Go.Proofs.Ytgalimhogolbjaa.Fnd
open Go Go.RowKit Go.Proofs.YtgalimhogolbjaaW.PrintWords Go.Proofs.YtgalimhogolbjaaW.PrintLast Go.Proofs.YtgalimhogolbjaaW.PrintMore
set_option linter.unusedVariables false
set_option linter.unusedSimpArgs false

/-- From n bytes on: how far two places go alike. -/
def lngF (s : ByteArray) (a b : Nat) : Nat → Nat → Nat
  | 0, n => n
  | f + 1, n => if b + n < s.size ∧ bt s ((a + n : Nat) : Int) = bt s ((b + n : Nat) : Int) then lngF s a b f (n + 1) else n
def lng (s : ByteArray) (a b : Nat) : Nat := lngF s a b 258 0

theorem lng_yes (s : ByteArray) (a b n : Nat) (h1 : n < 258) (h2 : b + n < s.size) (hl : a + n < s.size) (h3 : s[a + n] = s[b + n]) : lngF s a b (258 - n) n = lngF s a b (258 - (n + 1)) (n + 1) := by
  obtain ⟨m, hm⟩ : ∃ m, 258 - n = m + 1 := ⟨257 - n, by omega⟩
  rw [hm, show 258 - (n + 1) = m from by omega, lngF, if_pos]
  refine ⟨h2, ?_⟩
  simp only [bt, Int.toNat_natCast, hl, h2, dif_pos, h3]
theorem lng_no (s : ByteArray) (a b n : Nat) (h1 : n < 258) (h2 : b + n < s.size) (hl : a + n < s.size) (h3 : ¬ s[a + n] = s[b + n]) : lngF s a b (258 - n) n = n := by
  obtain ⟨m, hm⟩ : ∃ m, 258 - n = m + 1 := ⟨257 - n, by omega⟩
  rw [hm, lngF, if_neg]
  rintro ⟨_, h4⟩
  simp only [bt, Int.toNat_natCast, hl, h2, dif_pos] at h4
  exact h3 (UInt8.toNat_inj.1 (by omega))
theorem lng_end (s : ByteArray) (a b n : Nat) (h2 : ¬ b + n < s.size) : lngF s a b (258 - n) n = n := by
  cases h : 258 - n with
  | zero => rfl
  | succ m => rw [lngF, if_neg (fun hh => h2 hh.1)]

set_option maxHeartbeats 4000000 in
set_option maxRecDepth 100000 in
theorem long_any (g : Nat) (s : ByteArray) (a b : Nat) (w : World) (h0 : w.cell? ⟨g, 0, none⟩ = some (.string s)) (hab : a < b) (hb : b ≤ s.size) (hs : s.size ≤ 140737488351232) :
    Calls Try.prog 27 #[.pointer (some ⟨g, 0, none⟩), .int .i64 a, .int .i64 b] w fun e w' => e = .returned (.int .i64 (lng s a b : Nat)) ∧ Drawn0 w w' := by
  go_enter Try.func27, Try.ntmps27
  go_wp2
  go_loopw [7] (fun v wr => ∃ n : Nat, n ≤ 258 ∧ v = .int .i64 n ∧ lng s a b = lngF s a b (258 - n) n ∧ Drawn0 w wr) (fun v _ => 258 - (intOf v).toNat)
  case atStart => exact ⟨0, by omega, rfl, rfl, Drawn0.refl _⟩
  case round =>
    obtain ⟨n, hn, rfl, hl, ⟨nd, rfl⟩⟩ := hrel
    have HL := Lib.hid hl
    clear hl
    by_cases c1 : n < 258
    · by_cases c2 : b + n < s.size
      · have l1 : a + n < s.size := by omega
        have i1 : 0 ≤ (a : Int) + n := by omega
        have i2 : 0 ≤ (b : Int) + n := by omega
        have c2i : (b : Int) + n < s.size := by omega
        have l1i : (a : Int) + n < s.size := by omega
        have e1 : IntKind.i64.wrap ((a : Int) + (n : Int)) = (a : Int) + (n : Int) := by rw [IntKind.wrap_i64]; omega
        have e2 : IntKind.i64.wrap ((b : Int) + (n : Int)) = (b : Int) + (n : Int) := by rw [IntKind.wrap_i64]; omega
        have n1 : ((a : Int) + (n : Int)).toNat = a + n := by omega
        have n2 : ((b : Int) + (n : Int)).toNat = b + n := by omega
        have d1 : decide ((n : Int) < 258) = true := by simp; omega
        have d2 : decide ((b : Int) + (n : Int) < (s.size : Int)) = true := by simp; omega
        by_cases c3 : s[a + n] = s[b + n]
        · have d3 : (((s[a + n]).toNat : Int) == ((s[b + n]).toNat : Int)) = true := by rw [c3]; simp
          go_wp2
          go_quiet (fail)
          go_wp2
          go_roundw
          case rel => exact ⟨n + 1, by omega, by go_num, by rw [HL.out]; exact lng_yes s a b n c1 c2 l1 c3, by repeat (first | exact Drawn0.refl _ | apply Drawn0.step)⟩
          case measure => simp [intOf]; omega
        · have d3 : (((s[a + n]).toNat : Int) == ((s[b + n]).toNat : Int)) = false := by
            simp only [beq_eq_false_iff_ne, ne_eq]
            intro h
            exact c3 (UInt8.toNat_inj.1 (by omega))
          go_wp2
          go_quiet (fail)
          go_wp2
          go_ret
          exact ⟨by rw [HL.out, lng_no s a b n c1 c2 l1 c3]; rfl, by repeat (first | exact Drawn0.refl _ | apply Drawn0.step)⟩
      · have e2 : IntKind.i64.wrap ((b : Int) + (n : Int)) = (b : Int) + (n : Int) := by rw [IntKind.wrap_i64]; omega
        have d1 : decide ((n : Int) < 258) = true := by simp; omega
        have d2 : decide ((b : Int) + (n : Int) < (s.size : Int)) = false := by simp; omega
        go_wp2
        go_quiet (fail)
        go_wp2
        go_ret
        exact ⟨by rw [HL.out, lng_end s a b n c2]; rfl, by repeat (first | exact Drawn0.refl _ | apply Drawn0.step)⟩
    · have d1 : decide ((n : Int) < 258) = false := by simp; omega
      have hn8 : 258 - n = 0 := by omega
      go_wp2
      go_quiet (fail)
      go_wp2
      go_ret
      exact ⟨by rw [HL.out, hn8]; rfl, by repeat (first | exact Drawn0.refl _ | apply Drawn0.step)⟩
end Go.Proofs.Ytgalimhogolbjaa.Fnd

/- The walk of the law SumsTurned: for any text, place and pattern it answers true, wherever the table of half a byte reads as the program lays it. -/
import Derived.Test.YtmiknmpdlkhpaaaDoorTurnMath
import Derived.Lib.ConvBytes
import Derived.Lib.SmallJoins
import Derived.Lib.Hide
import Derived.Outline
namespace Go.Proofs.YtmiknmpdlkhpaaaDoor.Mor
open Go Go.RowKit Go.Proofs.YtmiknmpdlkhpaaaDoor.PSumsAll Go.Proofs.YtmiknmpdlkhpaaaDoorW.PrintWords Go.Proofs.YtmiknmpdlkhpaaaDoorW.PrintLast Go.Proofs.YtmiknmpdlkhpaaaDoorW.PrintMore
set_option linter.unusedVariables false
set_option linter.unusedSimpArgs false

theorem strOfNums_byts (l : List Nat) (h : ∀ b ∈ l, b < 256) : byts (strOfNums (l.map fun (b : Nat) => (b : Int))) = l := by
  simp only [byts, strOfNums]
  induction l with
  | nil => rfl
  | cons b l ih =>
    have hb := h b (by simp)
    have := ih fun x hx => h x (by simp [hx])
    simp_all
/-- The row of bytes at the head of block g holds l, and may be written. -/
structure BRow (w : World) (g : Nat) (l : List Nat) : Prop where
  cell : ∀ (i : Nat) (h : i < l.length), w.cell? ⟨g, i, none⟩ = some (.int .u8 ((l[i] : Nat) : Int))
  free : ∀ i, i < l.length → w.frozen? ⟨g, i, none⟩ = false
theorem BRow.set {w : World} {g : Nat} {l : List Nat} (h : BRow w g l) (k : Nat) (hk : k < l.length) (x : Nat) : BRow (w.setCell ⟨g, k, none⟩ (.int .u8 (x : Int))) g (l.set k x) := by
  constructor
  · intro i hi
    simp only [List.length_set] at hi
    rw [List.getElem_set]
    by_cases e : k = i
    · subst e
      rw [if_pos rfl, World.cell?_setCell_same _ _ _ (h.cell k hk)]
    · rw [if_neg e, World.cell?_setCell_other _ _ _ _ (by intro he; injection he with _ h2; exact e h2)]
      exact h.cell i hi
  · intro i hi
    rw [World.frozen?_setCell]
    exact h.free i (by simpa using hi)
theorem BRow.reads {w : World} {g : Nat} {l : List Nat} (h : BRow w g l) (hl : l.length ≤ 9223372036854775807) : ReadsInt w .u8 (some ⟨g, 0, none⟩) l.length (l.map fun (x : Nat) => (x : Int)) := by
  refine ⟨by simp, hl, fun _ => ⟨_, rfl, fun j hj => ?_⟩⟩
  rw [add_plain, h.cell j hj]
  simp [List.getD, hj]
theorem BRow.made (w : World) (s : ByteArray) : BRow (Lib.bytesWorld w 5 s) w.heap.size (byts s) := by
  constructor
  · intro i hi
    have hs : i < s.size := by rwa [byts_length] at hi
    rw [Lib.bytesWorld_cell w 5 s i hs]
    simp [byts, List.getD, hs]
  · intro i hi
    have hs : i < s.size := by rwa [byts_length] at hi
    simp only [World.frozen?, Lib.bytesWorld_at_new]
    have : (Lib.bytesCells w 5 s).size ≥ s.size := by simp [Lib.bytesCells]
    simp
    omega

theorem live_calls (w : World) (HG : HalfIs w) : Calls Tryd.prog 14 #[] w fun e w' => e = .returned (.bool true) ∧ Below w.heap.size w w' := by
  obtain ⟨k, hk⟩ := Ev.rounds live_ev
  exact mortiselaw03_live.calls k true w HG hk
theorem crc_calls (s : ByteArray) (w : World) (HG : HalfIs w) (hs : s.size ≤ big) : Calls Tryd.prog 10 #[.string s] w fun e w' => e = .returned (.int .u32 ((crcMore 0 (byts s) : Nat) : Int)) ∧ Drawn0 w w' :=
  sums_Crc.calls s _ w HG (crc_ev s hs)

set_option maxHeartbeats 4000000 in
set_option maxRecDepth 100000 in
theorem turned_nil (s : ByteArray) (at_ p : Int) (w : World) (HG : HalfIs w) (h0 : ((s.size : Int) == 0) = true) :
    Calls Tryd.prog 8 #[.string s, .int .i64 at_, .int .u32 p] w fun e w' => e = .returned (.bool true) ∧ Below w.heap.size w w' := by
  go_enter Tryd.func8, Tryd.ntmps8
  go_wp2_with (go_at_call 14; refine (live_calls _ HG).mono ?_; rintro e w' ⟨rfl, hb⟩)
  go_ret
  exact ⟨rfl, by assumption⟩

set_option maxHeartbeats 4000000 in
set_option maxRecDepth 100000 in
theorem turned_any (s : ByteArray) (at_ : Int) (p : Nat) (w : World) (HG : HalfIs w) (h0 : ((s.size : Int) == 0) = false) (hp0 : ((p : Int) == 0) = false) (hs : s.size ≤ 140737488351232) (hp : p < 4294967296)
    (ha : 0 ≤ at_) (hat : at_ ≤ 9223372036854775807) (hneg : decide (at_ < 0) = false) :
    Calls Tryd.prog 8 #[.string s, .int .i64 at_, .int .u32 p] w fun e w' => e = .returned (.bool true) ∧ Below w.heap.size w w' := by
  have hcv := Lib.run_convert_string_bytes (P := Tryd.prog) w 9 32 5 s Tryd.underlying9 Tryd.underlying32 Tryd.underlying5
  have hz : 1 ≤ (s.size : Int) := by
    have : (s.size : Int) ≠ 0 := by simpa using h0
    omega
  go_enter Tryd.func8, Tryd.ntmps8
  go_wp2_with fail
  clear hcv
  obtain ⟨A, hA, hAlt⟩ : ∃ A : Nat, at_ % (s.size : Int) = A ∧ A < s.size := ⟨(at_ % (s.size : Int)).toNat, by have := Int.emod_nonneg at_ (show (s.size : Int) ≠ 0 by omega); omega, by have := Int.emod_nonneg at_ (show (s.size : Int) ≠ 0 by omega); have := Int.emod_lt_of_pos at_ (show (0 : Int) < s.size by omega); omega⟩
  simp only [hA]
  clear hA ha hat hneg
  have hB1 := BRow.made w s
  have hb1 := Joins.below_bytesWorld w.heap.size w 5 s (Nat.le_refl _)
  generalize Lib.bytesWorld w 5 s = w1 at *
  generalize grownCap w s.size 0 5 = cap at *
  go_loopw [8, 9] (fun v8 v9 wr => ∃ (i : Nat) (t : Bool), i ≤ 32 ∧ v9 = .int .i64 i ∧ v8 = .bool t ∧ Was s.size p A i t ∧ BRow wr w.heap.size (turn (byts s) p A i) ∧ Below w.heap.size w wr) (fun _ v9 _ => 32 - (intOf v9).toNat)
  case atStart => exact ⟨0, false, by omega, rfl, rfl, Was.start _ _ _, by rw [turn_zero]; exact hB1, hb1⟩
  case round =>
    clear hB1 hb1
    obtain ⟨i, t, hi, rfl, rfl, hW, hB, hb⟩ := hrel
    by_cases hlt : i < 32
    · have hl := turn_length (byts s) p A i
      rw [byts_length] at hl
      have hbit : ((p : Int) / 2 ^ i).tmod 2 = if p.testBit i = true then 1 else 0 := by
        have e1 : ((p : Int) / 2 ^ i) = ((p / 2 ^ i : Nat) : Int) := by simp
        rw [e1, tmod_k _ 2 2 rfl, Nat.testBit_eq_decide_div_mod_eq]
        split
        · rename_i h; simp at h; omega
        · rename_i h; simp at h; omega
      by_cases hb1 : p.testBit i = true
      · rw [if_pos hb1] at hbit
        by_cases hk : A + i / 8 < s.size
        · have hc := hB.cell (A + i / 8) (by omega)
          have hf := hB.free (A + i / 8) (by omega)
          have hx := turn_lt (byts s) (byts_lt s) p A i _ (List.getElem_mem (show A + i / 8 < (turn (byts s) p A i).length by omega))
          have HS := Lib.hid (turn_set (byts s) p A i hb1 (by rw [byts_length]; exact hk))
          generalize hX : (turn (byts s) p A i)[A + i / 8]'(by omega) = x at *
          clear hX
          go_wp2_with fail
          go_roundw
          case rel =>
            refine ⟨i + 1, true, by omega, by go_num, rfl, Was.yes hb1 hk, ?_, hb.setCell (Nat.le_refl _) _⟩
            rw [← HS.out]
            have hs2 := hB.set (A + i / 8) (by omega) (x ^^^ 2 ^ (i % 8))
            have hpow : 2 ^ (i % 8) < 256 := Nat.pow_lt_pow_right (a := 2) (n := 8) (by omega) (by omega)
            have hv : bits BinOp.xor IntKind.u8 (x : Int) (2 ^ (i % 8) % 256) = ((x ^^^ 2 ^ (i % 8) : Nat) : Int) := by
              have h := u8_xor_nat x (2 ^ (i % 8)) hx hpow
              have e : ((2 ^ (i % 8) : Nat) : Int) = 2 ^ (i % 8) % 256 := by
                have e1 : ((2 ^ (i % 8) : Nat) : Int) = (2 : Int) ^ (i % 8) := by simp
                rw [← e1]; exact (Int.emod_eq_of_lt (Int.natCast_nonneg _) (by exact_mod_cast hpow)).symm
              rw [e] at h
              exact h
            rw [hv]
            exact hs2
          case measure => simp [intOf]; omega
        · go_wp2_with fail
          go_roundw
          case rel => exact ⟨i + 1, t, by omega, by go_num, rfl, hW.keep (.inr (by omega)), by rw [turn_same _ _ _ _ (.inr (by rw [byts_length]; omega))]; exact hB, hb⟩
          case measure => simp [intOf]; omega
      · rw [if_neg hb1] at hbit
        have hb2 : p.testBit i = false := by simpa using hb1
        go_wp2_with fail
        go_roundw
        case rel => exact ⟨i + 1, t, by omega, by go_num, rfl, hW.keep (.inl hb2), by rw [turn_same _ _ _ _ (.inl hb2)]; exact hB, hb⟩
        case measure => simp [intOf]; omega
    · obtain rfl : i = 32 := by omega
      have hl := turn_length (byts s) p A 32
      rw [byts_length] at hl
      have hr := hB.reads (by omega)
      rw [hl] at hr
      have hsv := fun (W : World) (h : ReadsInt W .u8 (some ⟨w.heap.size, 0, none⟩) s.size ((turn (byts s) p A 32).map fun (x : Nat) => (x : Int))) => string_of_reads (P := Tryd.prog) (src := 32) (dst := 9) (c := cap) Tryd.underlying32 Tryd.underlying5 Tryd.underlying9 h
      have hG : HalfIs wr := HG.below hb
      cases t with
      | false =>
        go_wp2_with (go_at_call 14; refine (live_calls _ hG).mono ?_; rintro e w' ⟨rfl, hb2⟩)
        go_ret
        exact ⟨rfl, below_then hb hb.size hb2⟩
      | true =>
        have hc := hsv wr hr
        have hz2 : (strOfNums ((turn (byts s) p A 32).map fun (x : Nat) => (x : Int))).size ≤ big := by rw [strOfNums_size]; simp; unfold big; omega
        have Hne := Lib.hid (turned_told (byts s) p A (by rw [byts_length]; exact hAlt) (by rw [byts_length]; exact hW))
        have Hst := Lib.hid (strOfNums_byts (turn (byts s) p A 32) (turn_lt _ (byts_lt s) _ _ _))
        generalize strOfNums ((turn (byts s) p A 32).map fun (x : Nat) => (x : Int)) = s2 at *
        have hne : (((crcMore 0 (byts s2) : Nat) : Int) != ((crcMore 0 (byts s) : Nat) : Int)) = true := by
          rw [bne_iff_ne, Hst.out]
          intro h
          exact Hne.out (by omega)
        go_wp2_with fail
        refine (crc_calls s2 _ hG hz2).mono ?_
        rintro e w' ⟨rfl, ⟨n1, rfl⟩⟩
        generalize crcMore 0 (byts s2) = c1 at *
        go_wp2_with fail
        refine (crc_calls s _ (hG.drawn ⟨_, rfl⟩) (by unfold big; omega)).mono ?_
        rintro e w' ⟨rfl, ⟨n2, rfl⟩⟩
        generalize crcMore 0 (byts s) = c2 at *
        go_wp2_with fail
        refine (live_calls _ (HG.below (by repeat (first | exact hb | apply pw_below_drewN)))).mono ?_
        rintro e w' ⟨rfl, hb2⟩
        go_wp2_with fail
        go_ret
        exact ⟨rfl, below_then (by repeat (first | exact hb | apply pw_below_drewN)) (by simpa using hb.size) hb2⟩
set_option maxHeartbeats 4000000 in
set_option maxRecDepth 100000 in
theorem turned_neg (s : ByteArray) (at_ : Int) (p : Nat) (w : World) (HG : HalfIs w) (h0 : ((s.size : Int) == 0) = false) (hp0 : ((p : Int) == 0) = false) (hs : s.size ≤ 140737488351232) (hp : p < 4294967296)
    (ha : at_ < 0) (hat : -9223372036854775808 ≤ at_) (hneg : decide (at_ < 0) = true) :
    Calls Tryd.prog 8 #[.string s, .int .i64 at_, .int .u32 p] w fun e w' => e = .returned (.bool true) ∧ Below w.heap.size w w' := by
  have hcv := Lib.run_convert_string_bytes (P := Tryd.prog) w 9 32 5 s Tryd.underlying9 Tryd.underlying32 Tryd.underlying5
  have hz : 1 ≤ (s.size : Int) := by
    have : (s.size : Int) ≠ 0 := by simpa using h0
    omega
  go_enter Tryd.func8, Tryd.ntmps8
  go_wp2_with fail
  clear hcv
  obtain ⟨A, hA, hAlt⟩ : ∃ A : Nat, -(at_ + 1) % (s.size : Int) = A ∧ A < s.size := ⟨(-(at_ + 1) % (s.size : Int)).toNat, by have := Int.emod_nonneg (-(at_ + 1)) (show (s.size : Int) ≠ 0 by omega); omega, by have := Int.emod_nonneg (-(at_ + 1)) (show (s.size : Int) ≠ 0 by omega); have := Int.emod_lt_of_pos (-(at_ + 1)) (show (0 : Int) < s.size by omega); omega⟩
  have hA1 : Int.tmod (-(at_ + 1)) (s.size : Int) = A := by rw [Int.tmod_eq_emod_of_nonneg (by omega)]; exact hA
  have hA2 : -(Int.tmod (at_ + 1) (s.size : Int)) = A := by rw [← Int.neg_tmod]; exact hA1
  first | simp only [hA1] | simp only [hA2]
  clear hA hA1 hA2 ha hat hneg
  have hB1 := BRow.made w s
  have hb1 := Joins.below_bytesWorld w.heap.size w 5 s (Nat.le_refl _)
  generalize Lib.bytesWorld w 5 s = w1 at *
  generalize grownCap w s.size 0 5 = cap at *
  go_loopw [8, 9] (fun v8 v9 wr => ∃ (i : Nat) (t : Bool), i ≤ 32 ∧ v9 = .int .i64 i ∧ v8 = .bool t ∧ Was s.size p A i t ∧ BRow wr w.heap.size (turn (byts s) p A i) ∧ Below w.heap.size w wr) (fun _ v9 _ => 32 - (intOf v9).toNat)
  case atStart => exact ⟨0, false, by omega, rfl, rfl, Was.start _ _ _, by rw [turn_zero]; exact hB1, hb1⟩
  case round =>
    clear hB1 hb1
    obtain ⟨i, t, hi, rfl, rfl, hW, hB, hb⟩ := hrel
    by_cases hlt : i < 32
    · have hl := turn_length (byts s) p A i
      rw [byts_length] at hl
      have hbit : ((p : Int) / 2 ^ i).tmod 2 = if p.testBit i = true then 1 else 0 := by
        have e1 : ((p : Int) / 2 ^ i) = ((p / 2 ^ i : Nat) : Int) := by simp
        rw [e1, tmod_k _ 2 2 rfl, Nat.testBit_eq_decide_div_mod_eq]
        split
        · rename_i h; simp at h; omega
        · rename_i h; simp at h; omega
      by_cases hb1 : p.testBit i = true
      · rw [if_pos hb1] at hbit
        by_cases hk : A + i / 8 < s.size
        · have hc := hB.cell (A + i / 8) (by omega)
          have hf := hB.free (A + i / 8) (by omega)
          have hx := turn_lt (byts s) (byts_lt s) p A i _ (List.getElem_mem (show A + i / 8 < (turn (byts s) p A i).length by omega))
          have HS := Lib.hid (turn_set (byts s) p A i hb1 (by rw [byts_length]; exact hk))
          generalize hX : (turn (byts s) p A i)[A + i / 8]'(by omega) = x at *
          clear hX
          go_wp2_with fail
          go_roundw
          case rel =>
            refine ⟨i + 1, true, by omega, by go_num, rfl, Was.yes hb1 hk, ?_, hb.setCell (Nat.le_refl _) _⟩
            rw [← HS.out]
            have hs2 := hB.set (A + i / 8) (by omega) (x ^^^ 2 ^ (i % 8))
            have hpow : 2 ^ (i % 8) < 256 := Nat.pow_lt_pow_right (a := 2) (n := 8) (by omega) (by omega)
            have hv : bits BinOp.xor IntKind.u8 (x : Int) (2 ^ (i % 8) % 256) = ((x ^^^ 2 ^ (i % 8) : Nat) : Int) := by
              have h := u8_xor_nat x (2 ^ (i % 8)) hx hpow
              have e : ((2 ^ (i % 8) : Nat) : Int) = 2 ^ (i % 8) % 256 := by
                have e1 : ((2 ^ (i % 8) : Nat) : Int) = (2 : Int) ^ (i % 8) := by simp
                rw [← e1]; exact (Int.emod_eq_of_lt (Int.natCast_nonneg _) (by exact_mod_cast hpow)).symm
              rw [e] at h
              exact h
            rw [hv]
            exact hs2
          case measure => simp [intOf]; omega
        · go_wp2_with fail
          go_roundw
          case rel => exact ⟨i + 1, t, by omega, by go_num, rfl, hW.keep (.inr (by omega)), by rw [turn_same _ _ _ _ (.inr (by rw [byts_length]; omega))]; exact hB, hb⟩
          case measure => simp [intOf]; omega
      · rw [if_neg hb1] at hbit
        have hb2 : p.testBit i = false := by simpa using hb1
        go_wp2_with fail
        go_roundw
        case rel => exact ⟨i + 1, t, by omega, by go_num, rfl, hW.keep (.inl hb2), by rw [turn_same _ _ _ _ (.inl hb2)]; exact hB, hb⟩
        case measure => simp [intOf]; omega
    · obtain rfl : i = 32 := by omega
      have hl := turn_length (byts s) p A 32
      rw [byts_length] at hl
      have hr := hB.reads (by omega)
      rw [hl] at hr
      have hsv := fun (W : World) (h : ReadsInt W .u8 (some ⟨w.heap.size, 0, none⟩) s.size ((turn (byts s) p A 32).map fun (x : Nat) => (x : Int))) => string_of_reads (P := Tryd.prog) (src := 32) (dst := 9) (c := cap) Tryd.underlying32 Tryd.underlying5 Tryd.underlying9 h
      have hG : HalfIs wr := HG.below hb
      cases t with
      | false =>
        go_wp2_with (go_at_call 14; refine (live_calls _ hG).mono ?_; rintro e w' ⟨rfl, hb2⟩)
        go_ret
        exact ⟨rfl, below_then hb hb.size hb2⟩
      | true =>
        have hc := hsv wr hr
        have hz2 : (strOfNums ((turn (byts s) p A 32).map fun (x : Nat) => (x : Int))).size ≤ big := by rw [strOfNums_size]; simp; unfold big; omega
        have Hne := Lib.hid (turned_told (byts s) p A (by rw [byts_length]; exact hAlt) (by rw [byts_length]; exact hW))
        have Hst := Lib.hid (strOfNums_byts (turn (byts s) p A 32) (turn_lt _ (byts_lt s) _ _ _))
        generalize strOfNums ((turn (byts s) p A 32).map fun (x : Nat) => (x : Int)) = s2 at *
        have hne : (((crcMore 0 (byts s2) : Nat) : Int) != ((crcMore 0 (byts s) : Nat) : Int)) = true := by
          rw [bne_iff_ne, Hst.out]
          intro h
          exact Hne.out (by omega)
        go_wp2_with fail
        refine (crc_calls s2 _ hG hz2).mono ?_
        rintro e w' ⟨rfl, ⟨n1, rfl⟩⟩
        generalize crcMore 0 (byts s2) = c1 at *
        go_wp2_with fail
        refine (crc_calls s _ (hG.drawn ⟨_, rfl⟩) (by unfold big; omega)).mono ?_
        rintro e w' ⟨rfl, ⟨n2, rfl⟩⟩
        generalize crcMore 0 (byts s) = c2 at *
        go_wp2_with fail
        refine (live_calls _ (HG.below (by repeat (first | exact hb | apply pw_below_drewN)))).mono ?_
        rintro e w' ⟨rfl, hb2⟩
        go_wp2_with fail
        go_ret
        exact ⟨rfl, below_then (by repeat (first | exact hb | apply pw_below_drewN)) (by simpa using hb.size) hb2⟩

set_option maxHeartbeats 4000000 in
set_option maxRecDepth 100000 in
theorem turned_none (s : ByteArray) (at_ p : Int) (w : World) (HG : HalfIs w) (h0 : ((s.size : Int) == 0) = false) (hp0 : (p == 0) = true) :
    Calls Tryd.prog 8 #[.string s, .int .i64 at_, .int .u32 p] w fun e w' => e = .returned (.bool true) ∧ Below w.heap.size w w' := by
  go_enter Tryd.func8, Tryd.ntmps8
  go_wp2_with (go_at_call 14; refine (live_calls _ HG).mono ?_; rintro e w' ⟨rfl, hb⟩)
  go_ret
  exact ⟨rfl, by assumption⟩
theorem wf_u32'' {a : Int} (h : (Lit.int .u32 a).wf = true) : 0 ≤ a ∧ a < 4294967296 := by
  have h0 : (decide (IntKind.u32.min ≤ a) && decide (a ≤ IntKind.u32.max)) = true := h
  simp only [Bool.and_eq_true, decide_eq_true_eq] at h0
  have h1 : IntKind.u32.min = 0 := rfl
  have h2 : IntKind.u32.max = 4294967295 := rfl
  omega
theorem wf_i64' {a : Int} (h : (Lit.int .i64 a).wf = true) : -9223372036854775808 ≤ a ∧ a ≤ 9223372036854775807 := by
  have h0 : (decide (IntKind.i64.min ≤ a) && decide (a ≤ IntKind.i64.max)) = true := h
  simp only [Bool.and_eq_true, decide_eq_true_eq] at h0
  have h1 : IntKind.i64.min = -9223372036854775808 := rfl
  have h2 : IntKind.i64.max = 9223372036854775807 := rfl
  omega
theorem turned_walk (s : ByteArray) (at_ p : Int) (w : World) (HG : HalfIs w) (w0 : s.size ≤ 140737488351232) (w1 : (Lit.int .i64 at_).wf = true) (w2 : (Lit.int .u32 p).wf = true) :
    Calls Tryd.prog 8 #[.string s, .int .i64 at_, .int .u32 p] w fun e w' => e = .returned (.bool true) ∧ Below w.heap.size w w' := by
  have b1 := wf_i64' w1
  have b2 := wf_u32'' w2
  obtain ⟨q, rfl⟩ := Int.eq_ofNat_of_zero_le (show 0 ≤ p by omega)
  by_cases c0 : (s.size : Int) = 0
  · exact turned_nil s at_ q w HG (by simpa using c0)
  · have h0 : ((s.size : Int) == 0) = false := by simpa using c0
    by_cases c1 : (q : Int) = 0
    · exact turned_none s at_ q w HG h0 (by simpa using c1)
    · have hp0 : ((q : Int) == 0) = false := by simpa using c1
      by_cases c2 : at_ < 0
      · exact turned_neg s at_ q w HG h0 hp0 w0 (by omega) c2 (by omega) (decide_eq_true c2)
      · exact turned_any s at_ q w HG h0 hp0 w0 (by omega) (by omega) (by omega) (decide_eq_false c2)
end Go.Proofs.YtmiknmpdlkhpaaaDoor.Mor

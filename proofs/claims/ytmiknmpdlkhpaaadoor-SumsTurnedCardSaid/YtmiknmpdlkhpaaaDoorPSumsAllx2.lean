-- PRINTED by print.py (a twelfth state) out of the translation. Not trusted: Lean checks it.
import Derived.Test.YtmiknmpdlkhpaaaDoorPSumsAllx0
import Derived.Test.YtmiknmpdlkhpaaaDoorPSumsAllx1
namespace Go.Proofs.YtmiknmpdlkhpaaaDoor.PSumsAll
open Go.RowKit Go.Proofs.YtmiknmpdlkhpaaaDoorW.PrintWords Go.Proofs.YtmiknmpdlkhpaaaDoorW.PrintLast Go.Proofs.YtmiknmpdlkhpaaaDoorW.PrintMore
attribute [local go_sem] max2_int min2_int max_two min_two max_three min_three max_four min_four   -- for this text's walks alone
set_option linter.unusedVariables false
set_option linter.unusedSimpArgs false

/-! ### mortiseref03_AdlerMore: function 18 -/
def mortiseref03_AdlerMore.l0 : Nat → ByteArray → Int → Int → Int → Option (Int)
  | 0, _, _, _, _ => none
  | k + 1, x1, x5, x6, x7 => if x7 < (x1.size : Int) then (if 0 ≤ x7 then (mortiseref03_AdlerMore.l0 k x1 (((x5 + ((bt x1 x7) % 4294967296)) % 4294967296) % 65521) (((x6 + (((x5 + ((bt x1 x7) % 4294967296)) % 4294967296) % 65521)) % 4294967296) % 65521) (wrap64 (x7 + 1))) else (none)) else (some ((((65536 * x6) % 4294967296) + x5) % 4294967296))
def mortiseref03_AdlerMore.f (k : Nat) (a0 : Int) (a1 : ByteArray) : Option (Int) := mortiseref03_AdlerMore.l0 k a1 (Int.tmod (Int.tmod a0 65536) 65521) (((Int.tdiv a0 65536) % 4294967296) % 65521) 0
theorem mortiseref03_AdlerMore.mono_l : ∀ k, (∀ y0 y1 y2 y3, LeO (mortiseref03_AdlerMore.l0 k y0 y1 y2 y3) (mortiseref03_AdlerMore.l0 (k + 1) y0 y1 y2 y3))
  | 0 => fun _ _ _ _ r h => by simp [mortiseref03_AdlerMore.l0] at h
  | k + 1 => by
    have ih0 := mortiseref03_AdlerMore.mono_l k
    · intro y0 y1 y2 y3
      unfold mortiseref03_AdlerMore.l0
      repeat' first
      | (with_reducible exact ih0 _ _ _ _)
      | (with_reducible exact LeO.refl _)
      | (with_reducible exact LeO.none _)
      | (with_reducible refine LeO.ite ?_ ?_)
      | (with_reducible refine LeO.bind ?_ (fun _ => ?_))
      | exact ih0 _ _ _ _
      | exact LeO.none _
      | refine LeO.ite ?_ ?_
      | refine LeO.bind ?_ (fun _ => ?_)
theorem mortiseref03_AdlerMore.mono : ∀ a0 a1 k, LeO (mortiseref03_AdlerMore.f k a0 a1) (mortiseref03_AdlerMore.f (k + 1) a0 a1) := by
  intro a0 a1 k
  have ih0 := mortiseref03_AdlerMore.mono_l k
  unfold mortiseref03_AdlerMore.f
  repeat' first
      | (with_reducible exact ih0 _ _ _ _)
      | (with_reducible exact LeO.refl _)
      | (with_reducible exact LeO.none _)
      | (with_reducible refine LeO.ite ?_ ?_)
      | (with_reducible refine LeO.bind ?_ (fun _ => ?_))
      | exact ih0 _ _ _ _
      | exact LeO.none _
      | refine LeO.ite ?_ ?_
      | refine LeO.bind ?_ (fun _ => ?_)
set_option maxHeartbeats 8000000 in
set_option maxRecDepth 100000 in
theorem mortiseref03_AdlerMore.calls (k : Nat) (a0 : Int) (a1 : ByteArray) (r : Int) (w : World) (h : mortiseref03_AdlerMore.f k a0 a1 = some r) :
    Calls Tryd.prog 18 #[.int .u32 a0, .string a1] w fun e w' => e = .returned (.int .u32 r) ∧ Drawn0 w w' := by
  have H : (mortiseref03_AdlerMore.l0 k a1 (Int.tmod (Int.tmod a0 65536) 65521) (((Int.tdiv a0 65536) % 4294967296) % 65521) 0) = some r := h
  clear h
  have H' := Aside0.mk H
  clear H
  go_enter Tryd.func18, Tryd.ntmps18
  go_wp2
  go_loopg [5, 6, 7] k (fun kq v5 v6 v7 w' => ∃ (x5_1 : Int) (x6_1 : Int) (x7_1 : Int), v5 = .int .u32 x5_1 ∧ v6 = .int .u32 x6_1 ∧ v7 = .int .i64 x7_1 ∧ Aside0 (mortiseref03_AdlerMore.l0 kq a1 x5_1 x6_1 x7_1 = some r) ∧ Aside0 (kq ≤ k) ∧ Drawn0 w w')
  case atStart => exact ⟨(Int.tmod (Int.tmod a0 65536) 65521), (((Int.tdiv a0 65536) % 4294967296) % 65521), (0), (by first | rfl | (simp; done) | (simp [*]; done)), (by first | rfl | (simp; done) | (simp [*]; done)), (by first | rfl | (simp; done) | (simp [*]; done)), H', ⟨Nat.le_refl _⟩, by repeat (first | exact Drawn0.refl _ | apply Drawn0.step)⟩
  case round =>
    clear H'
    try clear c1
    try clear p2
    obtain ⟨x5_1, x6_1, x7_1, rfl, rfl, rfl, HA, HK1, ⟨m1, rfl⟩⟩ := hrel
    cases gk with
    | zero => exact absurd HA.out (by simp [mortiseref03_AdlerMore.l0])
    | succ k1 =>
      have H := HA.out
      clear HA
      simp only [mortiseref03_AdlerMore.l0] at H
      by_cases c3 : x7_1 < (a1.size : Int)
      · rw [if_pos c3] at H
        have c3b0 : decide (x7_1 < (a1.size : Int)) = true := decide_eq_true c3
        clear c3
        by_cases c4 : 0 ≤ x7_1
        · rw [if_pos c4] at H
          have c4b0 : decide (0 ≤ x7_1) = true := decide_eq_true c4
          clear c4
          have H' := Aside0.mk H
          clear H
          have p5 : 0 ≤ (x7_1 : Int) := of_decide_eq_true (by first | (with_reducible assumption) | assumption)
          have q5 : x7_1 < (a1.size : Int) := of_decide_eq_true (by first | (with_reducible assumption) | assumption)
          have hx5 := bt_at a1 x7_1
          replace p5 := eq_true p5
          replace q5 := eq_true q5
          go_wp2
          go_roundg k1
          case measure => have := HK1.out; omega
          case rel => exact ⟨(((x5_1 + ((bt a1 x7_1) % 4294967296)) % 4294967296) % 65521), (((x6_1 + (((x5_1 + ((bt a1 x7_1) % 4294967296)) % 4294967296) % 65521)) % 4294967296) % 65521), (wrap64 (x7_1 + 1)), (by first | rfl | (simp; done) | (simp [*]; done)), (by first | rfl | (simp; done) | (simp [*]; done)), (by first | rfl | (simp; done) | (simp [*]; done)), H', ⟨by have := HK1.out; omega⟩, by repeat (first | exact Drawn0.refl _ | apply Drawn0.step)⟩
        · rw [if_neg c4] at H
          exact absurd H (by simp)
      · rw [if_neg c3] at H
        have c3b0 : decide (x7_1 < (a1.size : Int)) = false := decide_eq_false c3
        clear c3
        obtain rfl := Option.some.inj H
        go_wp2
        go_ret
        exact ⟨by first | rfl | (simp; done) | (simp [*]; done), by repeat (first | exact Drawn0.refl _ | apply Drawn0.step)⟩

/-! ### mortiseref03_Adler: function 16 -/
def mortiseref03_Adler.f (k : Nat) (a0 : ByteArray) : Option (Int) := (mortiseref03_AdlerMore.f k 1 a0).bind fun t114 => (some t114)
theorem mortiseref03_Adler.mono : ∀ a0 k, LeO (mortiseref03_Adler.f k a0) (mortiseref03_Adler.f (k + 1) a0) := by
  intro a0 k
  unfold mortiseref03_Adler.f
  repeat' first
      | (with_reducible exact mortiseref03_AdlerMore.mono _ _ _)
      | (with_reducible exact LeO.refl _)
      | (with_reducible exact LeO.none _)
      | (with_reducible refine LeO.ite ?_ ?_)
      | (with_reducible refine LeO.bind ?_ (fun _ => ?_))
      | exact mortiseref03_AdlerMore.mono _ _ _
      | exact LeO.none _
      | refine LeO.ite ?_ ?_
      | refine LeO.bind ?_ (fun _ => ?_)
set_option maxHeartbeats 8000000 in
set_option maxRecDepth 100000 in
theorem mortiseref03_Adler.calls (k : Nat) (a0 : ByteArray) (r : Int) (w : World) (h : mortiseref03_Adler.f k a0 = some r) :
    Calls Tryd.prog 16 #[.string a0] w fun e w' => e = .returned (.int .u32 r) ∧ Drawn0 w w' := by
  have H : ((mortiseref03_AdlerMore.f k 1 a0).bind fun t114 => (some t114)) = some r := h
  clear h
  replace H := Option.bind_eq_some_iff.mp H
  obtain ⟨t114, A20, H⟩ := H
  replace H : (some t114) = some r := H
  have A2 := Aside0.mk A20
  clear A20
  obtain rfl := Option.some.inj H
  go_enter Tryd.func16, Tryd.ntmps16
  go_wp2_with (first | ((with_reducible refine gate_callee (f := 18) rfl ?_); refine goesL_ (some 4) rfl rfl Tryd.func18 (by kernel_rfl) rfl #[.int .u32 1, .string a0] rfl (by (try simp only [List.map_toArray, List.map_cons, List.map_nil]); first | done | rfl | (simp only [List.length_drop, List.length_take]; rfl)) ?_; (with_reducible refine (mortiseref03_AdlerMore.calls k 1 a0 t114 _ A2.out).mono ?_); rintro e w' ⟨rfl, ⟨nd, rfl⟩⟩; refine ⟨_, rfl, ?_⟩))
  go_ret
  exact ⟨by first | rfl | (simp; done) | (simp [*]; done), by repeat (first | exact Drawn0.refl _ | apply Drawn0.step)⟩

/-! ### mortiselaw03_SumsAdler: function 4 -/
def mortiselaw03_SumsAdler.f (k : Nat) (a0 : Int) (a1 : ByteArray) : Option (Bool) := (sums_Adler.f k a1).bind fun t115 => ((mortiseref03_Adler.f k a1).bind fun t116 => (if t115 = t116 then ((sums_AdlerMore.f k a0 a1).bind fun t117 => ((mortiseref03_AdlerMore.f k a0 a1).bind fun t118 => (if t117 = t118 then ((mortiselaw03_live.f k).bind fun t119 => (some t119)) else (some false)))) else (some false)))
theorem mortiselaw03_SumsAdler.mono : ∀ a0 a1 k, LeO (mortiselaw03_SumsAdler.f k a0 a1) (mortiselaw03_SumsAdler.f (k + 1) a0 a1) := by
  intro a0 a1 k
  unfold mortiselaw03_SumsAdler.f
  repeat' first
      | (with_reducible exact mortiselaw03_live.mono _)
      | (with_reducible exact mortiseref03_Adler.mono _ _)
      | (with_reducible exact mortiseref03_AdlerMore.mono _ _ _)
      | (with_reducible exact sums_Adler.mono _ _)
      | (with_reducible exact sums_AdlerMore.mono _ _ _)
      | (with_reducible exact LeO.refl _)
      | (with_reducible exact LeO.none _)
      | (with_reducible refine LeO.ite ?_ ?_)
      | (with_reducible refine LeO.bind ?_ (fun _ => ?_))
      | exact mortiselaw03_live.mono _
      | exact mortiseref03_Adler.mono _ _
      | exact mortiseref03_AdlerMore.mono _ _ _
      | exact sums_Adler.mono _ _
      | exact sums_AdlerMore.mono _ _ _
      | exact LeO.none _
      | refine LeO.ite ?_ ?_
      | refine LeO.bind ?_ (fun _ => ?_)
set_option maxHeartbeats 8000000 in
set_option maxRecDepth 100000 in
theorem mortiselaw03_SumsAdler.calls (k : Nat) (a0 : Int) (a1 : ByteArray) (r : Bool) (w : World) (HG : Mor.HalfIs w) (h : mortiselaw03_SumsAdler.f k a0 a1 = some r) :
    Calls Tryd.prog 4 #[.int .u32 a0, .string a1] w fun e w' => e = .returned (.bool r) ∧ Below w.heap.size w w' := by
  have HB := Aside0.mk (Below.refl w.heap.size w)
  have H : ((sums_Adler.f k a1).bind fun t115 => ((mortiseref03_Adler.f k a1).bind fun t116 => (if t115 = t116 then ((sums_AdlerMore.f k a0 a1).bind fun t117 => ((mortiseref03_AdlerMore.f k a0 a1).bind fun t118 => (if t117 = t118 then ((mortiselaw03_live.f k).bind fun t119 => (some t119)) else (some false)))) else (some false)))) = some r := h
  clear h
  replace H := Option.bind_eq_some_iff.mp H
  obtain ⟨t115, A30, H⟩ := H
  replace H : ((mortiseref03_Adler.f k a1).bind fun t116 => (if t115 = t116 then ((sums_AdlerMore.f k a0 a1).bind fun t117 => ((mortiseref03_AdlerMore.f k a0 a1).bind fun t118 => (if t117 = t118 then ((mortiselaw03_live.f k).bind fun t119 => (some t119)) else (some false)))) else (some false))) = some r := H
  have A3 := Aside0.mk A30
  clear A30
  replace H := Option.bind_eq_some_iff.mp H
  obtain ⟨t116, A40, H⟩ := H
  replace H : (if t115 = t116 then ((sums_AdlerMore.f k a0 a1).bind fun t117 => ((mortiseref03_AdlerMore.f k a0 a1).bind fun t118 => (if t117 = t118 then ((mortiselaw03_live.f k).bind fun t119 => (some t119)) else (some false)))) else (some false)) = some r := H
  have A4 := Aside0.mk A40
  clear A40
  by_cases c5 : t115 = t116
  · rw [if_pos c5] at H
    have c5b0 : (t115 == t116) = true := beq_iff_eq.mpr c5
    have c5b1 : (t115 != t116) = false := bne_eq_false_iff_eq.mpr c5
    clear c5
    replace H := Option.bind_eq_some_iff.mp H
    obtain ⟨t117, A60, H⟩ := H
    replace H : ((mortiseref03_AdlerMore.f k a0 a1).bind fun t118 => (if t117 = t118 then ((mortiselaw03_live.f k).bind fun t119 => (some t119)) else (some false))) = some r := H
    have A6 := Aside0.mk A60
    clear A60
    replace H := Option.bind_eq_some_iff.mp H
    obtain ⟨t118, A70, H⟩ := H
    replace H : (if t117 = t118 then ((mortiselaw03_live.f k).bind fun t119 => (some t119)) else (some false)) = some r := H
    have A7 := Aside0.mk A70
    clear A70
    by_cases c8 : t117 = t118
    · rw [if_pos c8] at H
      have c8b0 : (t117 == t118) = true := beq_iff_eq.mpr c8
      have c8b1 : (t117 != t118) = false := bne_eq_false_iff_eq.mpr c8
      clear c8
      replace H := Option.bind_eq_some_iff.mp H
      obtain ⟨t119, A90, H⟩ := H
      replace H : (some t119) = some r := H
      have A9 := Aside0.mk A90
      clear A90
      obtain rfl := Option.some.inj H
      go_enter Tryd.func4, Tryd.ntmps4
      go_wp2_with (first | ((with_reducible refine gate_callee (f := 15) rfl ?_); refine goesL_ (some 6) rfl rfl Tryd.func15 (by kernel_rfl) rfl #[.string a1] rfl (by (try simp only [List.map_toArray, List.map_cons, List.map_nil]); first | done | rfl | (simp only [List.length_drop, List.length_take]; rfl)) ?_; (with_reducible refine (sums_Adler.calls k a1 t115 _ A3.out).mono ?_); rintro e w10 ⟨rfl, hb⟩; refine ⟨_, rfl, ?_⟩; have n0_ := Aside0.mk (below_step (by repeat (first | (with_reducible first | exact HB.out | apply below_alloc | apply pw_below_drewN | apply below_drew1) | exact HB.out)) hb); clear HB; have HB := n0_; clear n0_; (try clear hb); (try clear hb2); (try clear hk); (try clear hi)) | ((with_reducible refine gate_callee (f := 16) rfl ?_); refine goesL_ (some 8) rfl rfl Tryd.func16 (by kernel_rfl) rfl #[.string a1] rfl (by (try simp only [List.map_toArray, List.map_cons, List.map_nil]); first | done | rfl | (simp only [List.length_drop, List.length_take]; rfl)) ?_; (with_reducible refine (mortiseref03_Adler.calls k a1 t116 _ A4.out).mono ?_); rintro e w' ⟨rfl, ⟨nd, rfl⟩⟩; refine ⟨_, rfl, ?_⟩) | (go_at_call 17; (with_reducible refine (sums_AdlerMore.calls k a0 a1 t117 _ A6.out).mono ?_); rintro e w11 ⟨rfl, hb⟩; have n0_ := Aside0.mk (below_step (by repeat (first | (with_reducible first | exact HB.out | apply below_alloc | apply pw_below_drewN | apply below_drew1) | exact HB.out)) hb); clear HB; have HB := n0_; clear n0_; (try clear hb); (try clear hb2); (try clear hk); (try clear hi)) | (go_at_call 18; (with_reducible refine (mortiseref03_AdlerMore.calls k a0 a1 t118 _ A7.out).mono ?_); rintro e w' ⟨rfl, ⟨nd, rfl⟩⟩) | (go_at_call 14; (with_reducible refine (mortiselaw03_live.calls k  t119 _ (by first | (refine Mor.HalfIs.drawn HG ?_; (repeat (first | exact Drawn0.refl _ | apply Drawn0.step)); done) | (refine Mor.HalfIs.below HG ?_; (repeat (first | (with_reducible first | exact HB.out | apply below_alloc | apply pw_below_drewN | apply below_drew1) | exact HB.out)); done)) A9.out).mono ?_); rintro e w12 ⟨rfl, hb⟩; have n0_ := Aside0.mk (below_step (by repeat (first | (with_reducible first | exact HB.out | apply below_alloc | apply pw_below_drewN | apply below_drew1) | exact HB.out)) hb); clear HB; have HB := n0_; clear n0_; (try clear hb); (try clear hb2); (try clear hk); (try clear hi)))
      go_ret
      exact ⟨by first | rfl | (simp [errW_none, errW_some] <;> rfl) | (simp [*, errW_none, errW_some] <;> rfl), by repeat (first | (with_reducible first | exact HB.out | apply below_alloc | apply pw_below_drewN | apply below_drew1) | exact HB.out)⟩
    · rw [if_neg c8] at H
      have c8b0 : (t117 == t118) = false := beq_eq_false_iff_ne.mpr c8
      have c8b1 : (t117 != t118) = true := bne_iff_ne.mpr c8
      obtain rfl := Option.some.inj H
      go_enter Tryd.func4, Tryd.ntmps4
      go_wp2_with (first | ((with_reducible refine gate_callee (f := 15) rfl ?_); refine goesL_ (some 6) rfl rfl Tryd.func15 (by kernel_rfl) rfl #[.string a1] rfl (by (try simp only [List.map_toArray, List.map_cons, List.map_nil]); first | done | rfl | (simp only [List.length_drop, List.length_take]; rfl)) ?_; (with_reducible refine (sums_Adler.calls k a1 t115 _ A3.out).mono ?_); rintro e w13 ⟨rfl, hb⟩; refine ⟨_, rfl, ?_⟩; have n0_ := Aside0.mk (below_step (by repeat (first | (with_reducible first | exact HB.out | apply below_alloc | apply pw_below_drewN | apply below_drew1) | exact HB.out)) hb); clear HB; have HB := n0_; clear n0_; (try clear hb); (try clear hb2); (try clear hk); (try clear hi)) | ((with_reducible refine gate_callee (f := 16) rfl ?_); refine goesL_ (some 8) rfl rfl Tryd.func16 (by kernel_rfl) rfl #[.string a1] rfl (by (try simp only [List.map_toArray, List.map_cons, List.map_nil]); first | done | rfl | (simp only [List.length_drop, List.length_take]; rfl)) ?_; (with_reducible refine (mortiseref03_Adler.calls k a1 t116 _ A4.out).mono ?_); rintro e w' ⟨rfl, ⟨nd, rfl⟩⟩; refine ⟨_, rfl, ?_⟩) | (go_at_call 17; (with_reducible refine (sums_AdlerMore.calls k a0 a1 t117 _ A6.out).mono ?_); rintro e w14 ⟨rfl, hb⟩; have n0_ := Aside0.mk (below_step (by repeat (first | (with_reducible first | exact HB.out | apply below_alloc | apply pw_below_drewN | apply below_drew1) | exact HB.out)) hb); clear HB; have HB := n0_; clear n0_; (try clear hb); (try clear hb2); (try clear hk); (try clear hi)) | (go_at_call 18; (with_reducible refine (mortiseref03_AdlerMore.calls k a0 a1 t118 _ A7.out).mono ?_); rintro e w' ⟨rfl, ⟨nd, rfl⟩⟩))
      go_ret
      exact ⟨by first | rfl | (simp [errW_none, errW_some] <;> rfl) | (simp [*, errW_none, errW_some] <;> rfl), by repeat (first | (with_reducible first | exact HB.out | apply below_alloc | apply pw_below_drewN | apply below_drew1) | exact HB.out)⟩
  · rw [if_neg c5] at H
    have c5b0 : (t115 == t116) = false := beq_eq_false_iff_ne.mpr c5
    have c5b1 : (t115 != t116) = true := bne_iff_ne.mpr c5
    obtain rfl := Option.some.inj H
    go_enter Tryd.func4, Tryd.ntmps4
    go_wp2_with (first | ((with_reducible refine gate_callee (f := 15) rfl ?_); refine goesL_ (some 6) rfl rfl Tryd.func15 (by kernel_rfl) rfl #[.string a1] rfl (by (try simp only [List.map_toArray, List.map_cons, List.map_nil]); first | done | rfl | (simp only [List.length_drop, List.length_take]; rfl)) ?_; (with_reducible refine (sums_Adler.calls k a1 t115 _ A3.out).mono ?_); rintro e w15 ⟨rfl, hb⟩; refine ⟨_, rfl, ?_⟩; have n0_ := Aside0.mk (below_step (by repeat (first | (with_reducible first | exact HB.out | apply below_alloc | apply pw_below_drewN | apply below_drew1) | exact HB.out)) hb); clear HB; have HB := n0_; clear n0_; (try clear hb); (try clear hb2); (try clear hk); (try clear hi)) | ((with_reducible refine gate_callee (f := 16) rfl ?_); refine goesL_ (some 8) rfl rfl Tryd.func16 (by kernel_rfl) rfl #[.string a1] rfl (by (try simp only [List.map_toArray, List.map_cons, List.map_nil]); first | done | rfl | (simp only [List.length_drop, List.length_take]; rfl)) ?_; (with_reducible refine (mortiseref03_Adler.calls k a1 t116 _ A4.out).mono ?_); rintro e w' ⟨rfl, ⟨nd, rfl⟩⟩; refine ⟨_, rfl, ?_⟩))
    go_ret
    exact ⟨by first | rfl | (simp [errW_none, errW_some] <;> rfl) | (simp [*, errW_none, errW_some] <;> rfl), by repeat (first | (with_reducible first | exact HB.out | apply below_alloc | apply pw_below_drewN | apply below_drew1) | exact HB.out)⟩

/-- THE ONE PURE STATEMENT of mortiselaw03_SumsAdler: yours. -/
def mortiselaw03_SumsAdler.Pure : Prop := ∀ (a0 : Int) (a1 : ByteArray), (Lit.int .u32 a0).wf = true → a1.size ≤ 140737488351232 → ∃ k, mortiselaw03_SumsAdler.f k a0 a1 = some true
theorem mortiselaw03_SumsAdler.walk (P : mortiselaw03_SumsAdler.Pure) (a0 : Int) (a1 : ByteArray) (w : World) (HG : Mor.HalfIs w) (w0 : (Lit.int .u32 a0).wf = true) (w1 : a1.size ≤ 140737488351232) :
    Calls Tryd.prog 4 #[.int .u32 a0, .string a1] w fun e w' => e = .returned (.bool true) ∧ Below w.heap.size w w' := by
  obtain ⟨k, h⟩ := P a0 a1 w0 w1
  refine (mortiselaw03_SumsAdler.calls k a0 a1 true w HG h).mono ?_
  rintro e w' ⟨rfl, hd⟩
  exact ⟨rfl, hd⟩

/-! ### mortiseref03_Words: function 20 -/
mutual
def mortiseref03_Words.l0 : Nat → ByteArray → Int → Int → Option (Int)
  | 0, _, _, _ => none
  | k + 1, x0, x3, x4 => if x4 < (x0.size : Int) then (if 0 ≤ x4 then (mortiseref03_Words.l1 k x0 x3 x4 ((bt x0 x4) % 4294967296) (Int.tmod x4 4)) else (none)) else (some x3)
def mortiseref03_Words.l1 : Nat → ByteArray → Int → Int → Int → Int → Option (Int)
  | 0, _, _, _, _, _ => none
  | k + 1, x0, x3, x4, x5, x6 => if x6 < 3 then (mortiseref03_Words.l1 k x0 x3 x4 ((x5 * 256) % 4294967296) (wrap64 (x6 + 1))) else (mortiseref03_Words.l0 k x0 ((x3 + x5) % 4294967296) (wrap64 (x4 + 1)))
end
def mortiseref03_Words.f (k : Nat) (a0 : ByteArray) : Option (Int) := mortiseref03_Words.l0 k a0 0 0
theorem mortiseref03_Words.mono_l : ∀ k, (∀ y0 y1 y2, LeO (mortiseref03_Words.l0 k y0 y1 y2) (mortiseref03_Words.l0 (k + 1) y0 y1 y2)) ∧ (∀ y0 y1 y2 y3 y4, LeO (mortiseref03_Words.l1 k y0 y1 y2 y3 y4) (mortiseref03_Words.l1 (k + 1) y0 y1 y2 y3 y4))
  | 0 => ⟨fun _ _ _ r h => by simp [mortiseref03_Words.l0] at h, fun _ _ _ _ _ r h => by simp [mortiseref03_Words.l1] at h⟩
  | k + 1 => by
    obtain ⟨ih0, ih1⟩ := mortiseref03_Words.mono_l k
    refine ⟨?_, ?_⟩
    · intro y0 y1 y2
      unfold mortiseref03_Words.l0
      repeat' first
      | (with_reducible exact ih0 _ _ _)
      | (with_reducible exact ih1 _ _ _ _ _)
      | (with_reducible exact LeO.refl _)
      | (with_reducible exact LeO.none _)
      | (with_reducible refine LeO.ite ?_ ?_)
      | (with_reducible refine LeO.bind ?_ (fun _ => ?_))
      | exact ih0 _ _ _
      | exact ih1 _ _ _ _ _
      | exact LeO.none _
      | refine LeO.ite ?_ ?_
      | refine LeO.bind ?_ (fun _ => ?_)
    · intro y0 y1 y2 y3 y4
      unfold mortiseref03_Words.l1
      repeat' first
      | (with_reducible exact ih0 _ _ _)
      | (with_reducible exact ih1 _ _ _ _ _)
      | (with_reducible exact LeO.refl _)
      | (with_reducible exact LeO.none _)
      | (with_reducible refine LeO.ite ?_ ?_)
      | (with_reducible refine LeO.bind ?_ (fun _ => ?_))
      | exact ih0 _ _ _
      | exact ih1 _ _ _ _ _
      | exact LeO.none _
      | refine LeO.ite ?_ ?_
      | refine LeO.bind ?_ (fun _ => ?_)
theorem mortiseref03_Words.mono : ∀ a0 k, LeO (mortiseref03_Words.f k a0) (mortiseref03_Words.f (k + 1) a0) := by
  intro a0 k
  obtain ⟨ih0, ih1⟩ := mortiseref03_Words.mono_l k
  unfold mortiseref03_Words.f
  repeat' first
      | (with_reducible exact ih0 _ _ _)
      | (with_reducible exact ih1 _ _ _ _ _)
      | (with_reducible exact LeO.refl _)
      | (with_reducible exact LeO.none _)
      | (with_reducible refine LeO.ite ?_ ?_)
      | (with_reducible refine LeO.bind ?_ (fun _ => ?_))
      | exact ih0 _ _ _
      | exact ih1 _ _ _ _ _
      | exact LeO.none _
      | refine LeO.ite ?_ ?_
      | refine LeO.bind ?_ (fun _ => ?_)
set_option maxHeartbeats 8000000 in
set_option maxRecDepth 100000 in
theorem mortiseref03_Words.calls (k : Nat) (a0 : ByteArray) (r : Int) (w : World) (h : mortiseref03_Words.f k a0 = some r) :
    Calls Tryd.prog 20 #[.string a0] w fun e w' => e = .returned (.int .u32 r) ∧ Drawn0 w w' := by
  have H : (mortiseref03_Words.l0 k a0 0 0) = some r := h
  clear h
  have H' := Aside0.mk H
  clear H
  go_enter Tryd.func20, Tryd.ntmps20
  go_wp2
  go_loopg [3, 4] k (fun kq v3 v4 w' => ∃ (x3_1 : Int) (x4_1 : Int), v3 = .int .u32 x3_1 ∧ v4 = .int .i64 x4_1 ∧ Aside0 (mortiseref03_Words.l0 kq a0 x3_1 x4_1 = some r) ∧ Aside0 (kq ≤ k) ∧ Drawn0 w w')
  case atStart => exact ⟨(0), (0), (by first | rfl | (simp; done) | (simp [*]; done)), (by first | rfl | (simp; done) | (simp [*]; done)), H', ⟨Nat.le_refl _⟩, by repeat (first | exact Drawn0.refl _ | apply Drawn0.step)⟩
  case round =>
    clear H'
    obtain ⟨x3_1, x4_1, rfl, rfl, HA, HK1, ⟨m1, rfl⟩⟩ := hrel
    cases gk with
    | zero => exact absurd HA.out (by simp [mortiseref03_Words.l0])
    | succ k1 =>
      have H := HA.out
      clear HA
      simp only [mortiseref03_Words.l0] at H
      by_cases c2 : x4_1 < (a0.size : Int)
      · rw [if_pos c2] at H
        have c2b0 : decide (x4_1 < (a0.size : Int)) = true := decide_eq_true c2
        clear c2
        by_cases c3 : 0 ≤ x4_1
        · rw [if_pos c3] at H
          have c3b0 : decide (0 ≤ x4_1) = true := decide_eq_true c3
          clear c3
          have H' := Aside0.mk H
          clear H
          have p4 : 0 ≤ (x4_1 : Int) := of_decide_eq_true (by first | (with_reducible assumption) | assumption)
          have q4 : x4_1 < (a0.size : Int) := of_decide_eq_true (by first | (with_reducible assumption) | assumption)
          have hx4 := bt_at a0 x4_1
          replace p4 := eq_true p4
          replace q4 := eq_true q4
          go_wp2
          go_loopg [5, 6] k1 (fun kq v5 v6 w' => ∃ (x5_2 : Int) (x6_2 : Int), v5 = .int .u32 x5_2 ∧ v6 = .int .i64 x6_2 ∧ Aside0 (mortiseref03_Words.l1 kq a0 x3_1 x4_1 x5_2 x6_2 = some r) ∧ Aside0 (kq ≤ k1) ∧ Drawn0 w w')
          case atStart => exact ⟨((bt a0 x4_1) % 4294967296), (Int.tmod x4_1 4), (by first | rfl | (simp; done) | (simp [*]; done)), (by first | rfl | (simp; done) | (simp [*]; done)), H', ⟨Nat.le_refl _⟩, by repeat (first | exact Drawn0.refl _ | apply Drawn0.step)⟩
          case round =>
            clear H'
            try clear c2
            try clear c2b0
            try clear p2
            try clear c3
            try clear c3b0
            try clear p4
            try clear q4
            try clear hx4
            try clear p4
            try clear q4
            obtain ⟨x5_2, x6_2, rfl, rfl, HA, HK2, ⟨m2, rfl⟩⟩ := hrel
            cases gk with
            | zero => exact absurd HA.out (by simp [mortiseref03_Words.l1])
            | succ k2 =>
              have H := HA.out
              clear HA
              simp only [mortiseref03_Words.l1] at H
              by_cases c5 : x6_2 < 3
              · rw [if_pos c5] at H
                have c5b0 : decide (x6_2 < 3) = true := decide_eq_true c5
                clear c5
                have H' := Aside0.mk H
                clear H
                go_wp2
                go_roundg k2
                case measure => have := HK1.out; have := HK2.out; omega
                case rel => exact ⟨((x5_2 * 256) % 4294967296), (wrap64 (x6_2 + 1)), (by first | rfl | (simp; done) | (simp [*]; done)), (by first | rfl | (simp; done) | (simp [*]; done)), H', ⟨by have := HK1.out; have := HK2.out; omega⟩, by repeat (first | exact Drawn0.refl _ | apply Drawn0.step)⟩
              · rw [if_neg c5] at H
                have c5b0 : decide (x6_2 < 3) = false := decide_eq_false c5
                clear c5
                have H' := Aside0.mk H
                clear H
                go_wp2
                go_roundg k2
                case measure => have := HK1.out; have := HK2.out; omega
                case rel => exact ⟨((x3_1 + x5_2) % 4294967296), (wrap64 (x4_1 + 1)), (by first | rfl | (simp; done) | (simp [*]; done)), (by first | rfl | (simp; done) | (simp [*]; done)), H', ⟨by have := HK1.out; have := HK2.out; omega⟩, by repeat (first | exact Drawn0.refl _ | apply Drawn0.step)⟩
        · rw [if_neg c3] at H
          exact absurd H (by simp)
      · rw [if_neg c2] at H
        have c2b0 : decide (x4_1 < (a0.size : Int)) = false := decide_eq_false c2
        clear c2
        obtain rfl := Option.some.inj H
        go_wp2
        go_ret
        exact ⟨by first | rfl | (simp; done) | (simp [*]; done), by repeat (first | exact Drawn0.refl _ | apply Drawn0.step)⟩

/-! ### mortiselaw03_SumsWords: function 5 -/
def mortiselaw03_SumsWords.f (k : Nat) (a0 : ByteArray) : Option (Bool) := (sums_Words.f k a0).bind fun t120 => ((mortiseref03_Words.f k a0).bind fun t121 => (if t120 = t121 then ((mortiselaw03_live.f k).bind fun t122 => (some t122)) else (some false)))
theorem mortiselaw03_SumsWords.mono : ∀ a0 k, LeO (mortiselaw03_SumsWords.f k a0) (mortiselaw03_SumsWords.f (k + 1) a0) := by
  intro a0 k
  unfold mortiselaw03_SumsWords.f
  repeat' first
      | (with_reducible exact mortiselaw03_live.mono _)
      | (with_reducible exact mortiseref03_Words.mono _ _)
      | (with_reducible exact sums_Words.mono _ _)
      | (with_reducible exact LeO.refl _)
      | (with_reducible exact LeO.none _)
      | (with_reducible refine LeO.ite ?_ ?_)
      | (with_reducible refine LeO.bind ?_ (fun _ => ?_))
      | exact mortiselaw03_live.mono _
      | exact mortiseref03_Words.mono _ _
      | exact sums_Words.mono _ _
      | exact LeO.none _
      | refine LeO.ite ?_ ?_
      | refine LeO.bind ?_ (fun _ => ?_)
set_option maxHeartbeats 8000000 in
set_option maxRecDepth 100000 in
theorem mortiselaw03_SumsWords.calls (k : Nat) (a0 : ByteArray) (r : Bool) (w : World) (HG : Mor.HalfIs w) (h : mortiselaw03_SumsWords.f k a0 = some r) :
    Calls Tryd.prog 5 #[.string a0] w fun e w' => e = .returned (.bool r) ∧ Below w.heap.size w w' := by
  have HB := Aside0.mk (Below.refl w.heap.size w)
  have H : ((sums_Words.f k a0).bind fun t120 => ((mortiseref03_Words.f k a0).bind fun t121 => (if t120 = t121 then ((mortiselaw03_live.f k).bind fun t122 => (some t122)) else (some false)))) = some r := h
  clear h
  replace H := Option.bind_eq_some_iff.mp H
  obtain ⟨t120, A20, H⟩ := H
  replace H : ((mortiseref03_Words.f k a0).bind fun t121 => (if t120 = t121 then ((mortiselaw03_live.f k).bind fun t122 => (some t122)) else (some false))) = some r := H
  have A2 := Aside0.mk A20
  clear A20
  replace H := Option.bind_eq_some_iff.mp H
  obtain ⟨t121, A30, H⟩ := H
  replace H : (if t120 = t121 then ((mortiselaw03_live.f k).bind fun t122 => (some t122)) else (some false)) = some r := H
  have A3 := Aside0.mk A30
  clear A30
  by_cases c4 : t120 = t121
  · rw [if_pos c4] at H
    have c4b0 : (t120 == t121) = true := beq_iff_eq.mpr c4
    have c4b1 : (t120 != t121) = false := bne_eq_false_iff_eq.mpr c4
    clear c4
    replace H := Option.bind_eq_some_iff.mp H
    obtain ⟨t122, A50, H⟩ := H
    replace H : (some t122) = some r := H
    have A5 := Aside0.mk A50
    clear A50
    obtain rfl := Option.some.inj H
    go_enter Tryd.func5, Tryd.ntmps5
    go_wp2_with (first | ((with_reducible refine gate_callee (f := 19) rfl ?_); refine goesL_ (some 4) rfl rfl Tryd.func19 (by kernel_rfl) rfl #[.string a0] rfl (by (try simp only [List.map_toArray, List.map_cons, List.map_nil]); first | done | rfl | (simp only [List.length_drop, List.length_take]; rfl)) ?_; (with_reducible refine (sums_Words.calls k a0 t120 _ A2.out).mono ?_); rintro e w' ⟨rfl, ⟨nd, rfl⟩⟩; refine ⟨_, rfl, ?_⟩) | ((with_reducible refine gate_callee (f := 20) rfl ?_); refine goesL_ (some 6) rfl rfl Tryd.func20 (by kernel_rfl) rfl #[.string a0] rfl (by (try simp only [List.map_toArray, List.map_cons, List.map_nil]); first | done | rfl | (simp only [List.length_drop, List.length_take]; rfl)) ?_; (with_reducible refine (mortiseref03_Words.calls k a0 t121 _ A3.out).mono ?_); rintro e w' ⟨rfl, ⟨nd, rfl⟩⟩; refine ⟨_, rfl, ?_⟩) | (go_at_call 14; (with_reducible refine (mortiselaw03_live.calls k  t122 _ (by first | (refine Mor.HalfIs.drawn HG ?_; (repeat (first | exact Drawn0.refl _ | apply Drawn0.step)); done) | (refine Mor.HalfIs.below HG ?_; (repeat (first | (with_reducible first | exact HB.out | apply below_alloc | apply pw_below_drewN | apply below_drew1) | exact HB.out)); done)) A5.out).mono ?_); rintro e w6 ⟨rfl, hb⟩; have n0_ := Aside0.mk (below_step (by repeat (first | (with_reducible first | exact HB.out | apply below_alloc | apply pw_below_drewN | apply below_drew1) | exact HB.out)) hb); clear HB; have HB := n0_; clear n0_; (try clear hb); (try clear hb2); (try clear hk); (try clear hi)))
    go_ret
    exact ⟨by first | rfl | (simp [errW_none, errW_some] <;> rfl) | (simp [*, errW_none, errW_some] <;> rfl), by repeat (first | (with_reducible first | exact HB.out | apply below_alloc | apply pw_below_drewN | apply below_drew1) | exact HB.out)⟩
  · rw [if_neg c4] at H
    have c4b0 : (t120 == t121) = false := beq_eq_false_iff_ne.mpr c4
    have c4b1 : (t120 != t121) = true := bne_iff_ne.mpr c4
    obtain rfl := Option.some.inj H
    go_enter Tryd.func5, Tryd.ntmps5
    go_wp2_with (first | ((with_reducible refine gate_callee (f := 19) rfl ?_); refine goesL_ (some 4) rfl rfl Tryd.func19 (by kernel_rfl) rfl #[.string a0] rfl (by (try simp only [List.map_toArray, List.map_cons, List.map_nil]); first | done | rfl | (simp only [List.length_drop, List.length_take]; rfl)) ?_; (with_reducible refine (sums_Words.calls k a0 t120 _ A2.out).mono ?_); rintro e w' ⟨rfl, ⟨nd, rfl⟩⟩; refine ⟨_, rfl, ?_⟩) | ((with_reducible refine gate_callee (f := 20) rfl ?_); refine goesL_ (some 6) rfl rfl Tryd.func20 (by kernel_rfl) rfl #[.string a0] rfl (by (try simp only [List.map_toArray, List.map_cons, List.map_nil]); first | done | rfl | (simp only [List.length_drop, List.length_take]; rfl)) ?_; (with_reducible refine (mortiseref03_Words.calls k a0 t121 _ A3.out).mono ?_); rintro e w' ⟨rfl, ⟨nd, rfl⟩⟩; refine ⟨_, rfl, ?_⟩))
    go_ret
    exact ⟨by first | rfl | (simp [errW_none, errW_some] <;> rfl) | (simp [*, errW_none, errW_some] <;> rfl), by repeat (first | (with_reducible first | exact HB.out | apply below_alloc | apply pw_below_drewN | apply below_drew1) | exact HB.out)⟩

/-- THE ONE PURE STATEMENT of mortiselaw03_SumsWords: yours. -/
def mortiselaw03_SumsWords.Pure : Prop := ∀ (a0 : ByteArray), a0.size ≤ 140737488351232 → ∃ k, mortiselaw03_SumsWords.f k a0 = some true
theorem mortiselaw03_SumsWords.walk (P : mortiselaw03_SumsWords.Pure) (a0 : ByteArray) (w : World) (HG : Mor.HalfIs w) (w0 : a0.size ≤ 140737488351232) :
    Calls Tryd.prog 5 #[.string a0] w fun e w' => e = .returned (.bool true) ∧ Below w.heap.size w w' := by
  obtain ⟨k, h⟩ := P a0 w0
  refine (mortiselaw03_SumsWords.calls k a0 true w HG h).mono ?_
  rintro e w' ⟨rfl, hd⟩
  exact ⟨rfl, hd⟩

/-! ### mortiseref03_Tar: function 22 -/
def mortiseref03_Tar.l0 : Nat → ByteArray → Int → Int → Option (Int × Int)
  | 0, _, _, _ => none
  | k + 1, x0, x4, x5 => if x5 < 512 then (if x5 ≥ 148 then (if x5 < 156 then (mortiseref03_Tar.l0 k x0 (wrap64 (x4 + 32)) (wrap64 (x5 + 1))) else (if 0 ≤ x5 then (if x5 < (x0.size : Int) then (mortiseref03_Tar.l0 k x0 (wrap64 (x4 + (wrap64 (bt x0 x5)))) (wrap64 (x5 + 1))) else (none)) else (none))) else (if 0 ≤ x5 then (if x5 < (x0.size : Int) then (mortiseref03_Tar.l0 k x0 (wrap64 (x4 + (wrap64 (bt x0 x5)))) (wrap64 (x5 + 1))) else (none)) else (none))) else (some (x4, 0))
def mortiseref03_Tar.f (k : Nat) (a0 : ByteArray) : Option (Int × Int) := if (a0.size : Int) = 512 then (mortiseref03_Tar.l0 k a0 0 0) else (some (0, 1))
theorem mortiseref03_Tar.mono_l : ∀ k, (∀ y0 y1 y2, LeO (mortiseref03_Tar.l0 k y0 y1 y2) (mortiseref03_Tar.l0 (k + 1) y0 y1 y2))
  | 0 => fun _ _ _ r h => by simp [mortiseref03_Tar.l0] at h
  | k + 1 => by
    have ih0 := mortiseref03_Tar.mono_l k
    · intro y0 y1 y2
      unfold mortiseref03_Tar.l0
      repeat' first
      | (with_reducible exact ih0 _ _ _)
      | (with_reducible exact LeO.refl _)
      | (with_reducible exact LeO.none _)
      | (with_reducible refine LeO.ite ?_ ?_)
      | (with_reducible refine LeO.bind ?_ (fun _ => ?_))
      | exact ih0 _ _ _
      | exact LeO.none _
      | refine LeO.ite ?_ ?_
      | refine LeO.bind ?_ (fun _ => ?_)
theorem mortiseref03_Tar.mono : ∀ a0 k, LeO (mortiseref03_Tar.f k a0) (mortiseref03_Tar.f (k + 1) a0) := by
  intro a0 k
  have ih0 := mortiseref03_Tar.mono_l k
  unfold mortiseref03_Tar.f
  repeat' first
      | (with_reducible exact ih0 _ _ _)
      | (with_reducible exact LeO.refl _)
      | (with_reducible exact LeO.none _)
      | (with_reducible refine LeO.ite ?_ ?_)
      | (with_reducible refine LeO.bind ?_ (fun _ => ?_))
      | exact ih0 _ _ _
      | exact LeO.none _
      | refine LeO.ite ?_ ?_
      | refine LeO.bind ?_ (fun _ => ?_)
set_option maxHeartbeats 8000000 in
set_option maxRecDepth 100000 in
theorem mortiseref03_Tar.calls (k : Nat) (a0 : ByteArray) (r1 : Int) (r2 : Int) (w : World) (h : mortiseref03_Tar.f k a0 = some (r1, r2)) :
    Calls Tryd.prog 22 #[.string a0] w fun e w' => e = .returned (.tuple #[.int .i64 r1, .int .i64 r2]) ∧ Drawn0 w w' := by
  have H : (if (a0.size : Int) = 512 then (mortiseref03_Tar.l0 k a0 0 0) else (some (0, 1))) = some (r1, r2) := h
  clear h
  by_cases c2 : (a0.size : Int) = 512
  · rw [if_pos c2] at H
    have c2b0 : ((a0.size : Int) == 512) = true := beq_iff_eq.mpr c2
    have c2b1 : ((a0.size : Int) != 512) = false := bne_eq_false_iff_eq.mpr c2
    clear c2
    have H' := Aside0.mk H
    clear H
    go_enter Tryd.func22, Tryd.ntmps22
    go_wp2
    go_loopg [4, 5] k (fun kq v4 v5 w' => ∃ (x4_1 : Int) (x5_1 : Int), v4 = .int .i64 x4_1 ∧ v5 = .int .i64 x5_1 ∧ Aside0 (mortiseref03_Tar.l0 kq a0 x4_1 x5_1 = some (r1, r2)) ∧ Aside0 (kq ≤ k) ∧ Drawn0 w w')
    case atStart => exact ⟨(0), (0), (by first | rfl | (simp; done) | (simp [*]; done)), (by first | rfl | (simp; done) | (simp [*]; done)), H', ⟨Nat.le_refl _⟩, by repeat (first | exact Drawn0.refl _ | apply Drawn0.step)⟩
    case round =>
      clear H'
      try clear c2
      try clear c2b0
      try clear c2b1
      try clear p2
      obtain ⟨x4_1, x5_1, rfl, rfl, HA, HK1, ⟨m1, rfl⟩⟩ := hrel
      cases gk with
      | zero => exact absurd HA.out (by simp [mortiseref03_Tar.l0])
      | succ k1 =>
        have H := HA.out
        clear HA
        simp only [mortiseref03_Tar.l0] at H
        by_cases c3 : x5_1 < 512
        · rw [if_pos c3] at H
          have c3b0 : decide (x5_1 < 512) = true := decide_eq_true c3
          clear c3
          by_cases c4 : x5_1 ≥ 148
          · rw [if_pos c4] at H
            have c4b0 : decide (148 ≤ x5_1) = true := decide_eq_true c4
            clear c4
            by_cases c5 : x5_1 < 156
            · rw [if_pos c5] at H
              have c5b0 : decide (x5_1 < 156) = true := decide_eq_true c5
              clear c5
              have H' := Aside0.mk H
              clear H
              go_wp2
              go_roundg k1
              case measure => have := HK1.out; omega
              case rel => exact ⟨(wrap64 (x4_1 + 32)), (wrap64 (x5_1 + 1)), (by first | rfl | (simp; done) | (simp [*]; done)), (by first | rfl | (simp; done) | (simp [*]; done)), H', ⟨by have := HK1.out; omega⟩, by repeat (first | exact Drawn0.refl _ | apply Drawn0.step)⟩
            · rw [if_neg c5] at H
              have c5b0 : decide (x5_1 < 156) = false := decide_eq_false c5
              clear c5
              by_cases c6 : 0 ≤ x5_1
              · rw [if_pos c6] at H
                have c6b0 : decide (0 ≤ x5_1) = true := decide_eq_true c6
                clear c6
                by_cases c7 : x5_1 < (a0.size : Int)
                · rw [if_pos c7] at H
                  have c7b0 : decide (x5_1 < (a0.size : Int)) = true := decide_eq_true c7
                  clear c7
                  have H' := Aside0.mk H
                  clear H
                  have p8 : 0 ≤ (x5_1 : Int) := of_decide_eq_true (by first | (with_reducible assumption) | assumption)
                  have q8 : x5_1 < (a0.size : Int) := of_decide_eq_true (by first | (with_reducible assumption) | assumption)
                  have hx8 := bt_at a0 x5_1
                  replace p8 := eq_true p8
                  replace q8 := eq_true q8
                  go_wp2
                  go_roundg k1
                  case measure => have := HK1.out; omega
                  case rel => exact ⟨(wrap64 (x4_1 + (wrap64 (bt a0 x5_1)))), (wrap64 (x5_1 + 1)), (by first | rfl | (simp; done) | (simp [*]; done)), (by first | rfl | (simp; done) | (simp [*]; done)), H', ⟨by have := HK1.out; omega⟩, by repeat (first | exact Drawn0.refl _ | apply Drawn0.step)⟩
                · rw [if_neg c7] at H
                  exact absurd H (by simp)
              · rw [if_neg c6] at H
                exact absurd H (by simp)
          · rw [if_neg c4] at H
            have c4b0 : decide (148 ≤ x5_1) = false := decide_eq_false c4
            clear c4
            by_cases c9 : 0 ≤ x5_1
            · rw [if_pos c9] at H
              have c9b0 : decide (0 ≤ x5_1) = true := decide_eq_true c9
              clear c9
              by_cases c10 : x5_1 < (a0.size : Int)
              · rw [if_pos c10] at H
                have c10b0 : decide (x5_1 < (a0.size : Int)) = true := decide_eq_true c10
                clear c10
                have H' := Aside0.mk H
                clear H
                have p11 : 0 ≤ (x5_1 : Int) := of_decide_eq_true (by first | (with_reducible assumption) | assumption)
                have q11 : x5_1 < (a0.size : Int) := of_decide_eq_true (by first | (with_reducible assumption) | assumption)
                have hx11 := bt_at a0 x5_1
                replace p11 := eq_true p11
                replace q11 := eq_true q11
                go_wp2
                go_roundg k1
                case measure => have := HK1.out; omega
                case rel => exact ⟨(wrap64 (x4_1 + (wrap64 (bt a0 x5_1)))), (wrap64 (x5_1 + 1)), (by first | rfl | (simp; done) | (simp [*]; done)), (by first | rfl | (simp; done) | (simp [*]; done)), H', ⟨by have := HK1.out; omega⟩, by repeat (first | exact Drawn0.refl _ | apply Drawn0.step)⟩
              · rw [if_neg c10] at H
                exact absurd H (by simp)
            · rw [if_neg c9] at H
              exact absurd H (by simp)
        · rw [if_neg c3] at H
          have c3b0 : decide (x5_1 < 512) = false := decide_eq_false c3
          clear c3
          simp only [Option.some.injEq, Prod.mk.injEq] at H
          obtain ⟨rfl, rfl⟩ := H
          go_wp2
          go_ret2
          exact ⟨by first | rfl | (simp; done) | (simp [*]; done), by repeat (first | exact Drawn0.refl _ | apply Drawn0.step)⟩
  · rw [if_neg c2] at H
    have c2b0 : ((a0.size : Int) == 512) = false := beq_eq_false_iff_ne.mpr c2
    have c2b1 : ((a0.size : Int) != 512) = true := bne_iff_ne.mpr c2
    simp only [Option.some.injEq, Prod.mk.injEq] at H
    obtain ⟨rfl, rfl⟩ := H
    go_enter Tryd.func22, Tryd.ntmps22
    go_wp2
    go_ret2
    exact ⟨by first | rfl | (simp; done) | (simp [*]; done), by repeat (first | exact Drawn0.refl _ | apply Drawn0.step)⟩

/-! ### mortiselaw03_SumsTar: function 6 -/
def mortiselaw03_SumsTar.f (k : Nat) (a0 : ByteArray) : Option (Bool) := (sums_Tar.f k a0).bind fun bt123 => ((mortiseref03_Tar.f k a0).bind fun bt125 => (if bt123.1 = bt125.1 then (if bt123.2 = bt125.2 then ((mortiselaw03_live.f k).bind fun t127 => (some t127)) else (some false)) else (some false)))
theorem mortiselaw03_SumsTar.mono : ∀ a0 k, LeO (mortiselaw03_SumsTar.f k a0) (mortiselaw03_SumsTar.f (k + 1) a0) := by
  intro a0 k
  unfold mortiselaw03_SumsTar.f
  repeat' first
      | (with_reducible exact mortiselaw03_live.mono _)
      | (with_reducible exact mortiseref03_Tar.mono _ _)
      | (with_reducible exact sums_Tar.mono _ _)
      | (with_reducible exact LeO.refl _)
      | (with_reducible exact LeO.none _)
      | (with_reducible refine LeO.ite ?_ ?_)
      | (with_reducible refine LeO.bind ?_ (fun _ => ?_))
      | exact mortiselaw03_live.mono _
      | exact mortiseref03_Tar.mono _ _
      | exact sums_Tar.mono _ _
      | exact LeO.none _
      | refine LeO.ite ?_ ?_
      | refine LeO.bind ?_ (fun _ => ?_)
set_option maxHeartbeats 8000000 in
set_option maxRecDepth 100000 in
theorem mortiselaw03_SumsTar.calls (k : Nat) (a0 : ByteArray) (r : Bool) (w : World) (HG : Mor.HalfIs w) (h : mortiselaw03_SumsTar.f k a0 = some r) :
    Calls Tryd.prog 6 #[.string a0] w fun e w' => e = .returned (.bool r) ∧ Below w.heap.size w w' := by
  have HB := Aside0.mk (Below.refl w.heap.size w)
  have H : ((sums_Tar.f k a0).bind fun bt123 => ((mortiseref03_Tar.f k a0).bind fun bt125 => (if bt123.1 = bt125.1 then (if bt123.2 = bt125.2 then ((mortiselaw03_live.f k).bind fun t127 => (some t127)) else (some false)) else (some false)))) = some r := h
  clear h
  replace H := Option.bind_eq_some_iff.mp H
  obtain ⟨⟨t123, t124⟩, A20, H⟩ := H
  replace H : ((mortiseref03_Tar.f k a0).bind fun bt125 => (if t123 = bt125.1 then (if t124 = bt125.2 then ((mortiselaw03_live.f k).bind fun t127 => (some t127)) else (some false)) else (some false))) = some r := H
  have A2 := Aside0.mk A20
  clear A20
  replace H := Option.bind_eq_some_iff.mp H
  obtain ⟨⟨t125, t126⟩, A30, H⟩ := H
  replace H : (if t123 = t125 then (if t124 = t126 then ((mortiselaw03_live.f k).bind fun t127 => (some t127)) else (some false)) else (some false)) = some r := H
  have A3 := Aside0.mk A30
  clear A30
  by_cases c4 : t123 = t125
  · rw [if_pos c4] at H
    have c4b0 : (t123 == t125) = true := beq_iff_eq.mpr c4
    have c4b1 : (t123 != t125) = false := bne_eq_false_iff_eq.mpr c4
    clear c4
    by_cases c5 : t124 = t126
    · rw [if_pos c5] at H
      have c5b0 : (t124 == t126) = true := beq_iff_eq.mpr c5
      have c5b1 : (t124 != t126) = false := bne_eq_false_iff_eq.mpr c5
      clear c5
      replace H := Option.bind_eq_some_iff.mp H
      obtain ⟨t127, A60, H⟩ := H
      replace H : (some t127) = some r := H
      have A6 := Aside0.mk A60
      clear A60
      obtain rfl := Option.some.inj H
      go_enter Tryd.func6, Tryd.ntmps6
      go_wp2_with (first | ((with_reducible refine gate_callee (f := 21) rfl ?_); refine goesL_ (some 9) rfl rfl Tryd.func21 (by kernel_rfl) rfl #[.string a0] rfl (by (try simp only [List.map_toArray, List.map_cons, List.map_nil]); first | done | rfl | (simp only [List.length_drop, List.length_take]; rfl)) ?_; (with_reducible refine (sums_Tar.calls k a0 t123 t124 _ A2.out).mono ?_); rintro e w' ⟨rfl, ⟨nd, rfl⟩⟩; refine ⟨_, rfl, ?_⟩) | ((with_reducible refine gate_callee (f := 22) rfl ?_); refine goesL_ (some 14) rfl rfl Tryd.func22 (by kernel_rfl) rfl #[.string a0] rfl (by (try simp only [List.map_toArray, List.map_cons, List.map_nil]); first | done | rfl | (simp only [List.length_drop, List.length_take]; rfl)) ?_; (with_reducible refine (mortiseref03_Tar.calls k a0 t125 t126 _ A3.out).mono ?_); rintro e w' ⟨rfl, ⟨nd, rfl⟩⟩; refine ⟨_, rfl, ?_⟩) | (go_at_call 14; (with_reducible refine (mortiselaw03_live.calls k  t127 _ (by first | (refine Mor.HalfIs.drawn HG ?_; (repeat (first | exact Drawn0.refl _ | apply Drawn0.step)); done) | (refine Mor.HalfIs.below HG ?_; (repeat (first | (with_reducible first | exact HB.out | apply below_alloc | apply pw_below_drewN | apply below_drew1) | exact HB.out)); done)) A6.out).mono ?_); rintro e w7 ⟨rfl, hb⟩; have n0_ := Aside0.mk (below_step (by repeat (first | (with_reducible first | exact HB.out | apply below_alloc | apply pw_below_drewN | apply below_drew1) | exact HB.out)) hb); clear HB; have HB := n0_; clear n0_; (try clear hb); (try clear hb2); (try clear hk); (try clear hi)))
      go_ret
      exact ⟨by first | rfl | (simp [errW_none, errW_some] <;> rfl) | (simp [*, errW_none, errW_some] <;> rfl), by repeat (first | (with_reducible first | exact HB.out | apply below_alloc | apply pw_below_drewN | apply below_drew1) | exact HB.out)⟩
    · rw [if_neg c5] at H
      have c5b0 : (t124 == t126) = false := beq_eq_false_iff_ne.mpr c5
      have c5b1 : (t124 != t126) = true := bne_iff_ne.mpr c5
      obtain rfl := Option.some.inj H
      go_enter Tryd.func6, Tryd.ntmps6
      go_wp2_with (first | ((with_reducible refine gate_callee (f := 21) rfl ?_); refine goesL_ (some 9) rfl rfl Tryd.func21 (by kernel_rfl) rfl #[.string a0] rfl (by (try simp only [List.map_toArray, List.map_cons, List.map_nil]); first | done | rfl | (simp only [List.length_drop, List.length_take]; rfl)) ?_; (with_reducible refine (sums_Tar.calls k a0 t123 t124 _ A2.out).mono ?_); rintro e w' ⟨rfl, ⟨nd, rfl⟩⟩; refine ⟨_, rfl, ?_⟩) | ((with_reducible refine gate_callee (f := 22) rfl ?_); refine goesL_ (some 14) rfl rfl Tryd.func22 (by kernel_rfl) rfl #[.string a0] rfl (by (try simp only [List.map_toArray, List.map_cons, List.map_nil]); first | done | rfl | (simp only [List.length_drop, List.length_take]; rfl)) ?_; (with_reducible refine (mortiseref03_Tar.calls k a0 t125 t126 _ A3.out).mono ?_); rintro e w' ⟨rfl, ⟨nd, rfl⟩⟩; refine ⟨_, rfl, ?_⟩))
      go_ret
      exact ⟨by first | rfl | (simp [errW_none, errW_some] <;> rfl) | (simp [*, errW_none, errW_some] <;> rfl), by repeat (first | (with_reducible first | exact HB.out | apply below_alloc | apply pw_below_drewN | apply below_drew1) | exact HB.out)⟩
  · rw [if_neg c4] at H
    have c4b0 : (t123 == t125) = false := beq_eq_false_iff_ne.mpr c4
    have c4b1 : (t123 != t125) = true := bne_iff_ne.mpr c4
    obtain rfl := Option.some.inj H
    go_enter Tryd.func6, Tryd.ntmps6
    go_wp2_with (first | ((with_reducible refine gate_callee (f := 21) rfl ?_); refine goesL_ (some 9) rfl rfl Tryd.func21 (by kernel_rfl) rfl #[.string a0] rfl (by (try simp only [List.map_toArray, List.map_cons, List.map_nil]); first | done | rfl | (simp only [List.length_drop, List.length_take]; rfl)) ?_; (with_reducible refine (sums_Tar.calls k a0 t123 t124 _ A2.out).mono ?_); rintro e w' ⟨rfl, ⟨nd, rfl⟩⟩; refine ⟨_, rfl, ?_⟩) | ((with_reducible refine gate_callee (f := 22) rfl ?_); refine goesL_ (some 14) rfl rfl Tryd.func22 (by kernel_rfl) rfl #[.string a0] rfl (by (try simp only [List.map_toArray, List.map_cons, List.map_nil]); first | done | rfl | (simp only [List.length_drop, List.length_take]; rfl)) ?_; (with_reducible refine (mortiseref03_Tar.calls k a0 t125 t126 _ A3.out).mono ?_); rintro e w' ⟨rfl, ⟨nd, rfl⟩⟩; refine ⟨_, rfl, ?_⟩))
    go_ret
    exact ⟨by first | rfl | (simp [errW_none, errW_some] <;> rfl) | (simp [*, errW_none, errW_some] <;> rfl), by repeat (first | (with_reducible first | exact HB.out | apply below_alloc | apply pw_below_drewN | apply below_drew1) | exact HB.out)⟩

/-- THE ONE PURE STATEMENT of mortiselaw03_SumsTar: yours. -/
def mortiselaw03_SumsTar.Pure : Prop := ∀ (a0 : ByteArray), a0.size ≤ 140737488351232 → ∃ k, mortiselaw03_SumsTar.f k a0 = some true
theorem mortiselaw03_SumsTar.walk (P : mortiselaw03_SumsTar.Pure) (a0 : ByteArray) (w : World) (HG : Mor.HalfIs w) (w0 : a0.size ≤ 140737488351232) :
    Calls Tryd.prog 6 #[.string a0] w fun e w' => e = .returned (.bool true) ∧ Below w.heap.size w w' := by
  obtain ⟨k, h⟩ := P a0 w0
  refine (mortiselaw03_SumsTar.calls k a0 true w HG h).mono ?_
  rintro e w' ⟨rfl, hd⟩
  exact ⟨rfl, hd⟩

/-! ### mortiselaw03_SumsJoined: function 7 -/
def mortiselaw03_SumsJoined.j0 : Nat → ByteArray → ByteArray → Bool → Option (Bool)
  | 0, _, _, _ => none
  | k + 1, x0, x1, x24 => if x24 = true then (some false) else (if ((x0.size : Int) % 4) = 0 then (if x0.size + x1.size ≤ 9223372036854775807 then ((sums_Words.f k (x0 ++ x1)).bind fun t134 => ((sums_Words.f k x0).bind fun t135 => ((sums_Words.f k x1).bind fun t136 => (if t134 = ((t135 + t136) % 4294967296) then ((mortiselaw03_live.f k).bind fun t137 => (some t137)) else (some false))))) else (none)) else ((mortiselaw03_live.f k).bind fun t138 => (some t138)))
def mortiselaw03_SumsJoined.f (k : Nat) (a0 : ByteArray) (a1 : ByteArray) : Option (Bool) := if a0.size + a1.size ≤ 9223372036854775807 then ((sums_Crc.f (a0 ++ a1)).bind fun t128 => ((sums_Crc.f a0).bind fun t129 => ((sums_More.f t129 a1).bind fun t130 => (if t128 = t130 then ((sums_Adler.f k (a0 ++ a1)).bind fun t131 => ((sums_Adler.f k a0).bind fun t132 => ((sums_AdlerMore.f k t132 a1).bind fun t133 => (mortiselaw03_SumsJoined.j0 k a0 a1 (t131 != t133))))) else (mortiselaw03_SumsJoined.j0 k a0 a1 true))))) else (none)
theorem mortiselaw03_SumsJoined.mono_l : ∀ k, (∀ y0 y1 y2, LeO (mortiselaw03_SumsJoined.j0 k y0 y1 y2) (mortiselaw03_SumsJoined.j0 (k + 1) y0 y1 y2))
  | 0 => fun _ _ _ r h => by simp [mortiselaw03_SumsJoined.j0] at h
  | k + 1 => by
    have ih0 := mortiselaw03_SumsJoined.mono_l k
    · intro y0 y1 y2
      unfold mortiselaw03_SumsJoined.j0
      repeat' first
      | (with_reducible exact ih0 _ _ _)
      | (with_reducible exact mortiselaw03_live.mono _)
      | (with_reducible exact sums_Adler.mono _ _)
      | (with_reducible exact sums_AdlerMore.mono _ _ _)
      | (with_reducible exact sums_Words.mono _ _)
      | (with_reducible exact LeO.refl _)
      | (with_reducible exact LeO.none _)
      | (with_reducible refine LeO.ite ?_ ?_)
      | (with_reducible refine LeO.bind ?_ (fun _ => ?_))
      | exact ih0 _ _ _
      | exact mortiselaw03_live.mono _
      | exact sums_Adler.mono _ _
      | exact sums_AdlerMore.mono _ _ _
      | exact sums_Words.mono _ _
      | exact LeO.none _
      | refine LeO.ite ?_ ?_
      | refine LeO.bind ?_ (fun _ => ?_)
theorem mortiselaw03_SumsJoined.mono : ∀ a0 a1 k, LeO (mortiselaw03_SumsJoined.f k a0 a1) (mortiselaw03_SumsJoined.f (k + 1) a0 a1) := by
  intro a0 a1 k
  have ih0 := mortiselaw03_SumsJoined.mono_l k
  unfold mortiselaw03_SumsJoined.f
  repeat' first
      | (with_reducible exact ih0 _ _ _)
      | (with_reducible exact mortiselaw03_live.mono _)
      | (with_reducible exact sums_Adler.mono _ _)
      | (with_reducible exact sums_AdlerMore.mono _ _ _)
      | (with_reducible exact sums_Words.mono _ _)
      | (with_reducible exact LeO.refl _)
      | (with_reducible exact LeO.none _)
      | (with_reducible refine LeO.ite ?_ ?_)
      | (with_reducible refine LeO.bind ?_ (fun _ => ?_))
      | exact ih0 _ _ _
      | exact mortiselaw03_live.mono _
      | exact sums_Adler.mono _ _
      | exact sums_AdlerMore.mono _ _ _
      | exact sums_Words.mono _ _
      | exact LeO.none _
      | refine LeO.ite ?_ ?_
      | refine LeO.bind ?_ (fun _ => ?_)
set_option maxHeartbeats 8000000 in
set_option maxRecDepth 100000 in
theorem mortiselaw03_SumsJoined.calls (k : Nat) (a0 : ByteArray) (a1 : ByteArray) (r : Bool) (w : World) (HG : Mor.HalfIs w) (h : mortiselaw03_SumsJoined.f k a0 a1 = some r) :
    Calls Tryd.prog 7 #[.string a0, .string a1] w fun e w' => e = .returned (.bool r) ∧ Below w.heap.size w w' := by
  have HB := Aside0.mk (Below.refl w.heap.size w)
  have H : (if a0.size + a1.size ≤ 9223372036854775807 then ((sums_Crc.f (a0 ++ a1)).bind fun t128 => ((sums_Crc.f a0).bind fun t129 => ((sums_More.f t129 a1).bind fun t130 => (if t128 = t130 then ((sums_Adler.f k (a0 ++ a1)).bind fun t131 => ((sums_Adler.f k a0).bind fun t132 => ((sums_AdlerMore.f k t132 a1).bind fun t133 => (mortiselaw03_SumsJoined.j0 k a0 a1 (t131 != t133))))) else (mortiselaw03_SumsJoined.j0 k a0 a1 true))))) else (none)) = some r := h
  clear h
  have HC3 := Aside0.mk H
  clear H
  go_enter Tryd.func7, Tryd.ntmps7
  go_upto_region 1 with (fail)
  go_cut [24] (fun v24 wc => ∃ (kq : Nat) (x24_2 : Bool), v24 = .bool x24_2 ∧ Aside0 (mortiselaw03_SumsJoined.j0 kq a0 a1 x24_2 = some r) ∧ Aside0 (kq ≤ k) ∧ Aside0 (Below w.heap.size w wc))
  case first =>
    have H := HC3.out
    clear HC3
    by_cases c4 : a0.size + a1.size ≤ 9223372036854775807
    · rw [if_pos c4] at H
      have c4b0 := eq_true c4
      have c4b1 : decide (a0.size + a1.size ≤ 9223372036854775807) = true := decide_eq_true c4
      try have c4b2 : (9223372036854775807 < a0.size + a1.size) = False := eq_false (Nat.not_lt.2 c4)
      replace H := Option.bind_eq_some_iff.mp H
      obtain ⟨t128, A50, H⟩ := H
      replace H : ((sums_Crc.f a0).bind fun t129 => ((sums_More.f t129 a1).bind fun t130 => (if t128 = t130 then ((sums_Adler.f k (a0 ++ a1)).bind fun t131 => ((sums_Adler.f k a0).bind fun t132 => ((sums_AdlerMore.f k t132 a1).bind fun t133 => (mortiselaw03_SumsJoined.j0 k a0 a1 (t131 != t133))))) else (mortiselaw03_SumsJoined.j0 k a0 a1 true)))) = some r := H
      have A5 := Aside0.mk A50
      clear A50
      replace H := Option.bind_eq_some_iff.mp H
      obtain ⟨t129, A60, H⟩ := H
      replace H : ((sums_More.f t129 a1).bind fun t130 => (if t128 = t130 then ((sums_Adler.f k (a0 ++ a1)).bind fun t131 => ((sums_Adler.f k a0).bind fun t132 => ((sums_AdlerMore.f k t132 a1).bind fun t133 => (mortiselaw03_SumsJoined.j0 k a0 a1 (t131 != t133))))) else (mortiselaw03_SumsJoined.j0 k a0 a1 true))) = some r := H
      have A6 := Aside0.mk A60
      clear A60
      replace H := Option.bind_eq_some_iff.mp H
      obtain ⟨t130, A70, H⟩ := H
      replace H : (if t128 = t130 then ((sums_Adler.f k (a0 ++ a1)).bind fun t131 => ((sums_Adler.f k a0).bind fun t132 => ((sums_AdlerMore.f k t132 a1).bind fun t133 => (mortiselaw03_SumsJoined.j0 k a0 a1 (t131 != t133))))) else (mortiselaw03_SumsJoined.j0 k a0 a1 true)) = some r := H
      have A7 := Aside0.mk A70
      clear A70
      by_cases c8 : t128 = t130
      · rw [if_pos c8] at H
        have c8b0 : (t128 == t130) = true := beq_iff_eq.mpr c8
        have c8b1 : (t128 != t130) = false := bne_eq_false_iff_eq.mpr c8
        clear c8
        (first | rw [c8b0] | (simp only [i64_w, i32_w]; rw [c8b0]) | skip)
        replace H := Option.bind_eq_some_iff.mp H
        obtain ⟨t131, A90, H⟩ := H
        replace H : ((sums_Adler.f k a0).bind fun t132 => ((sums_AdlerMore.f k t132 a1).bind fun t133 => (mortiselaw03_SumsJoined.j0 k a0 a1 (t131 != t133)))) = some r := H
        have A9 := Aside0.mk A90
        clear A90
        replace H := Option.bind_eq_some_iff.mp H
        obtain ⟨t132, A100, H⟩ := H
        replace H : ((sums_AdlerMore.f k t132 a1).bind fun t133 => (mortiselaw03_SumsJoined.j0 k a0 a1 (t131 != t133))) = some r := H
        have A10 := Aside0.mk A100
        clear A100
        replace H := Option.bind_eq_some_iff.mp H
        obtain ⟨t133, A110, H⟩ := H
        replace H : (mortiselaw03_SumsJoined.j0 k a0 a1 (t131 != t133)) = some r := H
        have A11 := Aside0.mk A110
        clear A110
        have H' := Aside0.mk H
        clear H
        go_wp2_with (first | ((with_reducible refine gate_callee (f := 10) rfl ?_); refine goesL_ (some 8) rfl rfl Tryd.func10 (by kernel_rfl) rfl #[.string (a0 ++ a1)] rfl (by (try simp only [List.map_toArray, List.map_cons, List.map_nil]); first | done | rfl | (simp only [List.length_drop, List.length_take]; rfl)) ?_; (with_reducible refine (sums_Crc.calls (a0 ++ a1) t128 _ (by first | (refine Mor.HalfIs.drawn HG ?_; (repeat (first | exact Drawn0.refl _ | apply Drawn0.step)); done) | (refine Mor.HalfIs.below HG ?_; (repeat (first | (with_reducible first | exact HB.out | apply below_alloc | apply pw_below_drewN | apply below_drew1) | exact HB.out)); done)) A5.out).mono ?_); rintro e w' ⟨rfl, ⟨nd, rfl⟩⟩; refine ⟨_, rfl, ?_⟩) | ((with_reducible refine gate_callee (f := 10) rfl ?_); refine goesL_ (some 10) rfl rfl Tryd.func10 (by kernel_rfl) rfl #[.string a0] rfl (by (try simp only [List.map_toArray, List.map_cons, List.map_nil]); first | done | rfl | (simp only [List.length_drop, List.length_take]; rfl)) ?_; (with_reducible refine (sums_Crc.calls a0 t129 _ (by first | (refine Mor.HalfIs.drawn HG ?_; (repeat (first | exact Drawn0.refl _ | apply Drawn0.step)); done) | (refine Mor.HalfIs.below HG ?_; (repeat (first | (with_reducible first | exact HB.out | apply below_alloc | apply pw_below_drewN | apply below_drew1) | exact HB.out)); done)) A6.out).mono ?_); rintro e w' ⟨rfl, ⟨nd, rfl⟩⟩; refine ⟨_, rfl, ?_⟩) | ((with_reducible refine gate_callee (f := 12) rfl ?_); refine goesL_ (some 12) rfl rfl Tryd.func12 (by kernel_rfl) rfl #[.int .u32 t129, .string a1] rfl (by (try simp only [List.map_toArray, List.map_cons, List.map_nil]); first | done | rfl | (simp only [List.length_drop, List.length_take]; rfl)) ?_; (with_reducible refine (sums_More.calls t129 a1 t130 _ (by first | (refine Mor.HalfIs.drawn HG ?_; (repeat (first | exact Drawn0.refl _ | apply Drawn0.step)); done) | (refine Mor.HalfIs.below HG ?_; (repeat (first | (with_reducible first | exact HB.out | apply below_alloc | apply pw_below_drewN | apply below_drew1) | exact HB.out)); done)) A7.out).mono ?_); rintro e w' ⟨rfl, ⟨nd, rfl⟩⟩; refine ⟨_, rfl, ?_⟩) | (go_at_call 15; (with_reducible refine (sums_Adler.calls k (a0 ++ a1) t131 _ A9.out).mono ?_); rintro e w12 ⟨rfl, hb⟩; have n0_ := Aside0.mk (below_step (by repeat (first | (with_reducible first | exact HB.out | apply below_alloc | apply pw_below_drewN | apply below_drew1) | exact HB.out)) hb); clear HB; have HB := n0_; clear n0_; (try clear hb); (try clear hb2); (try clear hk); (try clear hi)) | (go_at_call 15; (with_reducible refine (sums_Adler.calls k a0 t132 _ A10.out).mono ?_); rintro e w13 ⟨rfl, hb⟩; have n0_ := Aside0.mk (below_step (by repeat (first | (with_reducible first | exact HB.out | apply below_alloc | apply pw_below_drewN | apply below_drew1) | exact HB.out)) hb); clear HB; have HB := n0_; clear n0_; (try clear hb); (try clear hb2); (try clear hk); (try clear hi)) | (go_at_call 17; (with_reducible refine (sums_AdlerMore.calls k t132 a1 t133 _ A11.out).mono ?_); rintro e w14 ⟨rfl, hb⟩; have n0_ := Aside0.mk (below_step (by repeat (first | (with_reducible first | exact HB.out | apply below_alloc | apply pw_below_drewN | apply below_drew1) | exact HB.out)) hb); clear HB; have HB := n0_; clear n0_; (try clear hb); (try clear hb2); (try clear hk); (try clear hi)))
        go_meet
        case rel => exact ⟨_, ((t131 != t133)), (by first | rfl | (simp; done) | (simp [*]; done)), H', ⟨by first | omega | exact Nat.le_refl _⟩, ⟨by repeat (first | (with_reducible first | exact HB.out | apply below_alloc | apply pw_below_drewN | apply below_drew1) | exact HB.out)⟩⟩
      · rw [if_neg c8] at H
        have c8b0 : (t128 == t130) = false := beq_eq_false_iff_ne.mpr c8
        have c8b1 : (t128 != t130) = true := bne_iff_ne.mpr c8
        (first | rw [c8b0] | (simp only [i64_w, i32_w]; rw [c8b0]) | skip)
        have H' := Aside0.mk H
        clear H
        go_wp2_with (first | ((with_reducible refine gate_callee (f := 10) rfl ?_); refine goesL_ (some 8) rfl rfl Tryd.func10 (by kernel_rfl) rfl #[.string (a0 ++ a1)] rfl (by (try simp only [List.map_toArray, List.map_cons, List.map_nil]); first | done | rfl | (simp only [List.length_drop, List.length_take]; rfl)) ?_; (with_reducible refine (sums_Crc.calls (a0 ++ a1) t128 _ (by first | (refine Mor.HalfIs.drawn HG ?_; (repeat (first | exact Drawn0.refl _ | apply Drawn0.step)); done) | (refine Mor.HalfIs.below HG ?_; (repeat (first | (with_reducible first | exact HB.out | apply below_alloc | apply pw_below_drewN | apply below_drew1) | exact HB.out)); done)) A5.out).mono ?_); rintro e w' ⟨rfl, ⟨nd, rfl⟩⟩; refine ⟨_, rfl, ?_⟩) | ((with_reducible refine gate_callee (f := 10) rfl ?_); refine goesL_ (some 10) rfl rfl Tryd.func10 (by kernel_rfl) rfl #[.string a0] rfl (by (try simp only [List.map_toArray, List.map_cons, List.map_nil]); first | done | rfl | (simp only [List.length_drop, List.length_take]; rfl)) ?_; (with_reducible refine (sums_Crc.calls a0 t129 _ (by first | (refine Mor.HalfIs.drawn HG ?_; (repeat (first | exact Drawn0.refl _ | apply Drawn0.step)); done) | (refine Mor.HalfIs.below HG ?_; (repeat (first | (with_reducible first | exact HB.out | apply below_alloc | apply pw_below_drewN | apply below_drew1) | exact HB.out)); done)) A6.out).mono ?_); rintro e w' ⟨rfl, ⟨nd, rfl⟩⟩; refine ⟨_, rfl, ?_⟩) | ((with_reducible refine gate_callee (f := 12) rfl ?_); refine goesL_ (some 12) rfl rfl Tryd.func12 (by kernel_rfl) rfl #[.int .u32 t129, .string a1] rfl (by (try simp only [List.map_toArray, List.map_cons, List.map_nil]); first | done | rfl | (simp only [List.length_drop, List.length_take]; rfl)) ?_; (with_reducible refine (sums_More.calls t129 a1 t130 _ (by first | (refine Mor.HalfIs.drawn HG ?_; (repeat (first | exact Drawn0.refl _ | apply Drawn0.step)); done) | (refine Mor.HalfIs.below HG ?_; (repeat (first | (with_reducible first | exact HB.out | apply below_alloc | apply pw_below_drewN | apply below_drew1) | exact HB.out)); done)) A7.out).mono ?_); rintro e w' ⟨rfl, ⟨nd, rfl⟩⟩; refine ⟨_, rfl, ?_⟩))
        go_meet
        case rel => exact ⟨_, (true), (by first | rfl | (simp; done) | (simp [*]; done)), H', ⟨by first | omega | exact Nat.le_refl _⟩, ⟨by repeat (first | (with_reducible first | exact HB.out | apply below_alloc | apply pw_below_drewN | apply below_drew1) | exact HB.out)⟩⟩
    · rw [if_neg c4] at H
      exact absurd H (by simp)
  case rest =>
    clear HC3
    try clear c1
    try clear p2
    try clear c4
    try clear c4b0
    try clear c4b1
    try clear c4b2
    try clear c7
    try clear c8
    try clear c8b0
    try clear c8b1
    try clear c10
    try clear c12
    obtain ⟨kq, x24_2, rfl, HA, HJ2, HB⟩ := hcut
    cases kq with
    | zero => exact absurd HA.out (by simp [mortiselaw03_SumsJoined.j0])
    | succ kj2 =>
      have H := HA.out
      clear HA
      simp only [mortiselaw03_SumsJoined.j0] at H
      by_cases c15 : x24_2 = true
      · subst c15
        have H1 : (some false) = some r := by rw [if_pos rfl] at H; exact H
        clear H
        have H := H1
        clear H1
        obtain rfl := Option.some.inj H
        go_wp2
        go_ret
        exact ⟨by first | rfl | (simp [errW_none, errW_some] <;> rfl) | (simp [*, errW_none, errW_some] <;> rfl), by repeat (first | (with_reducible first | exact HB.out | apply below_alloc | apply pw_below_drewN | apply below_drew1) | exact HB.out)⟩
      · replace c15 := Bool.eq_false_iff.mpr c15
        subst c15
        have H1 : (if ((a0.size : Int) % 4) = 0 then (if a0.size + a1.size ≤ 9223372036854775807 then ((sums_Words.f kj2 (a0 ++ a1)).bind fun t134 => ((sums_Words.f kj2 a0).bind fun t135 => ((sums_Words.f kj2 a1).bind fun t136 => (if t134 = ((t135 + t136) % 4294967296) then ((mortiselaw03_live.f kj2).bind fun t137 => (some t137)) else (some false))))) else (none)) else ((mortiselaw03_live.f kj2).bind fun t138 => (some t138))) = some r := by rw [if_neg (show ¬ (false = true) by decide)] at H; exact H
        clear H
        have H := H1
        clear H1
        by_cases c16 : ((a0.size : Int) % 4) = 0
        · rw [if_pos c16] at H
          have c16b0 : (((a0.size : Int) % 4) == 0) = true := beq_iff_eq.mpr c16
          have c16b1 : (((a0.size : Int) % 4) != 0) = false := bne_eq_false_iff_eq.mpr c16
          clear c16
          by_cases c17 : a0.size + a1.size ≤ 9223372036854775807
          · rw [if_pos c17] at H
            have c17b0 := eq_true c17
            have c17b1 : decide (a0.size + a1.size ≤ 9223372036854775807) = true := decide_eq_true c17
            try have c17b2 : (9223372036854775807 < a0.size + a1.size) = False := eq_false (Nat.not_lt.2 c17)
            replace H := Option.bind_eq_some_iff.mp H
            obtain ⟨t134, A180, H⟩ := H
            replace H : ((sums_Words.f kj2 a0).bind fun t135 => ((sums_Words.f kj2 a1).bind fun t136 => (if t134 = ((t135 + t136) % 4294967296) then ((mortiselaw03_live.f kj2).bind fun t137 => (some t137)) else (some false)))) = some r := H
            have A18 := Aside0.mk A180
            clear A180
            replace H := Option.bind_eq_some_iff.mp H
            obtain ⟨t135, A190, H⟩ := H
            replace H : ((sums_Words.f kj2 a1).bind fun t136 => (if t134 = ((t135 + t136) % 4294967296) then ((mortiselaw03_live.f kj2).bind fun t137 => (some t137)) else (some false))) = some r := H
            have A19 := Aside0.mk A190
            clear A190
            replace H := Option.bind_eq_some_iff.mp H
            obtain ⟨t136, A200, H⟩ := H
            replace H : (if t134 = ((t135 + t136) % 4294967296) then ((mortiselaw03_live.f kj2).bind fun t137 => (some t137)) else (some false)) = some r := H
            have A20 := Aside0.mk A200
            clear A200
            by_cases c21 : t134 = ((t135 + t136) % 4294967296)
            · rw [if_pos c21] at H
              have c21b0 : (t134 == ((t135 + t136) % 4294967296)) = true := beq_iff_eq.mpr c21
              have c21b1 : (t134 != ((t135 + t136) % 4294967296)) = false := bne_eq_false_iff_eq.mpr c21
              clear c21
              replace H := Option.bind_eq_some_iff.mp H
              obtain ⟨t137, A220, H⟩ := H
              replace H : (some t137) = some r := H
              have A22 := Aside0.mk A220
              clear A220
              obtain rfl := Option.some.inj H
              go_wp2_with (first | (go_at_call 19; (with_reducible refine (sums_Words.calls kj2 (a0 ++ a1) t134 _ A18.out).mono ?_); rintro e w' ⟨rfl, ⟨nd, rfl⟩⟩) | (go_at_call 19; (with_reducible refine (sums_Words.calls kj2 a0 t135 _ A19.out).mono ?_); rintro e w' ⟨rfl, ⟨nd, rfl⟩⟩) | (go_at_call 19; (with_reducible refine (sums_Words.calls kj2 a1 t136 _ A20.out).mono ?_); rintro e w' ⟨rfl, ⟨nd, rfl⟩⟩) | (go_at_call 14; (with_reducible refine (mortiselaw03_live.calls kj2  t137 _ (by first | (refine Mor.HalfIs.drawn HG ?_; (repeat (first | exact Drawn0.refl _ | apply Drawn0.step)); done) | (refine Mor.HalfIs.below HG ?_; (repeat (first | (with_reducible first | exact HB.out | apply below_alloc | apply pw_below_drewN | apply below_drew1) | exact HB.out)); done)) A22.out).mono ?_); rintro e w23 ⟨rfl, hb⟩; have n0_ := Aside0.mk (below_step (by repeat (first | (with_reducible first | exact HB.out | apply below_alloc | apply pw_below_drewN | apply below_drew1) | exact HB.out)) hb); clear HB; have HB := n0_; clear n0_; (try clear hb); (try clear hb2); (try clear hk); (try clear hi)))
              go_ret
              exact ⟨by first | rfl | (simp [errW_none, errW_some] <;> rfl) | (simp [*, errW_none, errW_some] <;> rfl), by repeat (first | (with_reducible first | exact HB.out | apply below_alloc | apply pw_below_drewN | apply below_drew1) | exact HB.out)⟩
            · rw [if_neg c21] at H
              have c21b0 : (t134 == ((t135 + t136) % 4294967296)) = false := beq_eq_false_iff_ne.mpr c21
              have c21b1 : (t134 != ((t135 + t136) % 4294967296)) = true := bne_iff_ne.mpr c21
              obtain rfl := Option.some.inj H
              go_wp2_with (first | (go_at_call 19; (with_reducible refine (sums_Words.calls kj2 (a0 ++ a1) t134 _ A18.out).mono ?_); rintro e w' ⟨rfl, ⟨nd, rfl⟩⟩) | (go_at_call 19; (with_reducible refine (sums_Words.calls kj2 a0 t135 _ A19.out).mono ?_); rintro e w' ⟨rfl, ⟨nd, rfl⟩⟩) | (go_at_call 19; (with_reducible refine (sums_Words.calls kj2 a1 t136 _ A20.out).mono ?_); rintro e w' ⟨rfl, ⟨nd, rfl⟩⟩))
              go_ret
              exact ⟨by first | rfl | (simp [errW_none, errW_some] <;> rfl) | (simp [*, errW_none, errW_some] <;> rfl), by repeat (first | (with_reducible first | exact HB.out | apply below_alloc | apply pw_below_drewN | apply below_drew1) | exact HB.out)⟩
          · rw [if_neg c17] at H
            exact absurd H (by simp)
        · rw [if_neg c16] at H
          have c16b0 : (((a0.size : Int) % 4) == 0) = false := beq_eq_false_iff_ne.mpr c16
          have c16b1 : (((a0.size : Int) % 4) != 0) = true := bne_iff_ne.mpr c16
          replace H := Option.bind_eq_some_iff.mp H
          obtain ⟨t138, A240, H⟩ := H
          replace H : (some t138) = some r := H
          have A24 := Aside0.mk A240
          clear A240
          obtain rfl := Option.some.inj H
          go_wp2_with (first | (go_at_call 14; (with_reducible refine (mortiselaw03_live.calls kj2  t138 _ (by first | (refine Mor.HalfIs.drawn HG ?_; (repeat (first | exact Drawn0.refl _ | apply Drawn0.step)); done) | (refine Mor.HalfIs.below HG ?_; (repeat (first | (with_reducible first | exact HB.out | apply below_alloc | apply pw_below_drewN | apply below_drew1) | exact HB.out)); done)) A24.out).mono ?_); rintro e w25 ⟨rfl, hb⟩; have n0_ := Aside0.mk (below_step (by repeat (first | (with_reducible first | exact HB.out | apply below_alloc | apply pw_below_drewN | apply below_drew1) | exact HB.out)) hb); clear HB; have HB := n0_; clear n0_; (try clear hb); (try clear hb2); (try clear hk); (try clear hi)))
          go_ret
          exact ⟨by first | rfl | (simp [errW_none, errW_some] <;> rfl) | (simp [*, errW_none, errW_some] <;> rfl), by repeat (first | (with_reducible first | exact HB.out | apply below_alloc | apply pw_below_drewN | apply below_drew1) | exact HB.out)⟩

/-- THE ONE PURE STATEMENT of mortiselaw03_SumsJoined: yours. -/
def mortiselaw03_SumsJoined.Pure : Prop := ∀ (a0 : ByteArray) (a1 : ByteArray), a0.size ≤ 140737488351232 → a1.size ≤ 140737488351232 → ∃ k, mortiselaw03_SumsJoined.f k a0 a1 = some true
theorem mortiselaw03_SumsJoined.walk (P : mortiselaw03_SumsJoined.Pure) (a0 : ByteArray) (a1 : ByteArray) (w : World) (HG : Mor.HalfIs w) (w0 : a0.size ≤ 140737488351232) (w1 : a1.size ≤ 140737488351232) :
    Calls Tryd.prog 7 #[.string a0, .string a1] w fun e w' => e = .returned (.bool true) ∧ Below w.heap.size w w' := by
  obtain ⟨k, h⟩ := P a0 a1 w0 w1
  refine (mortiselaw03_SumsJoined.calls k a0 a1 true w HG h).mono ?_
  rintro e w' ⟨rfl, hd⟩
  exact ⟨rfl, hd⟩

-- NOT PRINTED: function 8 (mortiselaw03_SumsTurned)

end Go.Proofs.YtmiknmpdlkhpaaaDoor.PSumsAll

-- PRINTED by print.py (a twelfth state) out of the translation. Not trusted: Lean checks it.
import Derived.Test.YtgalimhogolbjaaPMatchAllx0
import Derived.Test.YtgalimhogolbjaaPMatchAllx1
import Derived.Test.YtgalimhogolbjaaPMatchAllx2
namespace Go.Proofs.Ytgalimhogolbjaa.PMatchAll
open Go.RowKit Go.Proofs.YtgalimhogolbjaaW.PrintWords Go.Proofs.YtgalimhogolbjaaW.PrintLast Go.Proofs.YtgalimhogolbjaaW.PrintMore
attribute [local go_sem] max2_int min2_int max_two min_two max_three min_three max_four min_four   -- for this text's walks alone
set_option linter.unusedVariables false
set_option linter.unusedSimpArgs false

/-! ### mortiseref08_Expand: function 11 -/
mutual
def mortiseref08_Expand.j0 : Nat → List (S37) → Int → Bool → Option (ByteArray × Int)
  | 0, _, _, _ => none
  | k + 1, x0, x1, x17 => if x17 = true then (some ((⟨#[]⟩ : ByteArray), 1)) else (mortiseref08_Expand.l0 k x0 x1 ([] : List Int) 0)
def mortiseref08_Expand.l0 : Nat → List (S37) → Int → List Int → Int → Option (ByteArray × Int)
  | 0, _, _, _, _ => none
  | k + 1, x0, x1, x6, x7 => if x7 < (x0.length : Int) then (if 0 ≤ x7 then ((mortiseref08_May.f ((rd_T37 x0 x7).f0) ((rd_T37 x0 x7).f1) ((rd_T37 x0 x7).f2)).bind fun t143 => (if t143 = true then (if ((rd_T37 x0 x7).f2) > (x6.length : Int) then (some ((⟨#[]⟩ : ByteArray), 3)) else (if (mx 1 ((rd_T37 x0 x7).f1)) > (wrap64 (x1 - (x6.length : Int))) then (some ((⟨#[]⟩ : ByteArray), 11)) else (if ((rd_T37 x0 x7).f2) = 0 then (if x6.length < 140737488355328 then (mortiseref08_Expand.l0 k x0 x1 (x6 ++ [(rd_T37 x0 x7).f0]) (wrap64 (x7 + 1))) else (none)) else (mortiseref08_Expand.l1 k x0 x1 x6 x7 (mx 1 ((rd_T37 x0 x7).f1)) 0 ((rd_T37 x0 x7).f0) ((rd_T37 x0 x7).f1) ((rd_T37 x0 x7).f2))))) else (some ((⟨#[]⟩ : ByteArray), 1)))) else (none)) else (some (strOfNums x6, 0))
def mortiseref08_Expand.l1 : Nat → List (S37) → Int → List Int → Int → Int → Int → Int → Int → Int → Option (ByteArray × Int)
  | 0, _, _, _, _, _, _, _, _, _ => none
  | k + 1, x0, x1, x6, x7, x10, x11, x143000, x143001, x143002 => if x11 < x10 then (if 0 ≤ (wrap64 ((x6.length : Int) - x143002)) then (if (wrap64 ((x6.length : Int) - x143002)) < (x6.length : Int) then (if x6.length < 140737488355328 then (mortiseref08_Expand.l1 k x0 x1 (x6 ++ [rd x6 (wrap64 ((x6.length : Int) - x143002))]) x7 x10 (wrap64 (x11 + 1)) x143000 x143001 x143002) else (none)) else (none)) else (none)) else (mortiseref08_Expand.l0 k x0 x1 x6 (wrap64 (x7 + 1)))
end
def mortiseref08_Expand.f (k : Nat) (l0 : List (S37)) (a1 : Int) : Option (ByteArray × Int) := if a1 < 0 then (mortiseref08_Expand.j0 k l0 a1 true) else (mortiseref08_Expand.j0 k l0 a1 (decide (a1 > 1073741824)))
theorem mortiseref08_Expand.mono_l : ∀ k, (∀ y0 y1 y2, LeO (mortiseref08_Expand.j0 k y0 y1 y2) (mortiseref08_Expand.j0 (k + 1) y0 y1 y2)) ∧ (∀ y0 y1 y2 y3, LeO (mortiseref08_Expand.l0 k y0 y1 y2 y3) (mortiseref08_Expand.l0 (k + 1) y0 y1 y2 y3)) ∧ (∀ y0 y1 y2 y3 y4 y5 y6 y7 y8, LeO (mortiseref08_Expand.l1 k y0 y1 y2 y3 y4 y5 y6 y7 y8) (mortiseref08_Expand.l1 (k + 1) y0 y1 y2 y3 y4 y5 y6 y7 y8))
  | 0 => ⟨fun _ _ _ r h => by simp [mortiseref08_Expand.j0] at h, fun _ _ _ _ r h => by simp [mortiseref08_Expand.l0] at h, fun _ _ _ _ _ _ _ _ _ r h => by simp [mortiseref08_Expand.l1] at h⟩
  | k + 1 => by
    obtain ⟨ih0, ih1, ih2⟩ := mortiseref08_Expand.mono_l k
    refine ⟨?_, ?_, ?_⟩
    · intro y0 y1 y2
      unfold mortiseref08_Expand.j0
      repeat' first
      | (with_reducible exact ih0 _ _ _)
      | (with_reducible exact ih1 _ _ _ _)
      | (with_reducible exact ih2 _ _ _ _ _ _ _ _ _)
      | (with_reducible exact LeO.refl _)
      | (with_reducible exact LeO.none _)
      | (with_reducible refine LeO.ite ?_ ?_)
      | (with_reducible refine LeO.bind ?_ (fun _ => ?_))
      | exact ih0 _ _ _
      | exact ih1 _ _ _ _
      | exact ih2 _ _ _ _ _ _ _ _ _
      | exact LeO.none _
      | refine LeO.ite ?_ ?_
      | refine LeO.bind ?_ (fun _ => ?_)
    · intro y0 y1 y2 y3
      unfold mortiseref08_Expand.l0
      repeat' first
      | (with_reducible exact ih0 _ _ _)
      | (with_reducible exact ih1 _ _ _ _)
      | (with_reducible exact ih2 _ _ _ _ _ _ _ _ _)
      | (with_reducible exact LeO.refl _)
      | (with_reducible exact LeO.none _)
      | (with_reducible refine LeO.ite ?_ ?_)
      | (with_reducible refine LeO.bind ?_ (fun _ => ?_))
      | exact ih0 _ _ _
      | exact ih1 _ _ _ _
      | exact ih2 _ _ _ _ _ _ _ _ _
      | exact LeO.none _
      | refine LeO.ite ?_ ?_
      | refine LeO.bind ?_ (fun _ => ?_)
    · intro y0 y1 y2 y3 y4 y5 y6 y7 y8
      unfold mortiseref08_Expand.l1
      repeat' first
      | (with_reducible exact ih0 _ _ _)
      | (with_reducible exact ih1 _ _ _ _)
      | (with_reducible exact ih2 _ _ _ _ _ _ _ _ _)
      | (with_reducible exact LeO.refl _)
      | (with_reducible exact LeO.none _)
      | (with_reducible refine LeO.ite ?_ ?_)
      | (with_reducible refine LeO.bind ?_ (fun _ => ?_))
      | exact ih0 _ _ _
      | exact ih1 _ _ _ _
      | exact ih2 _ _ _ _ _ _ _ _ _
      | exact LeO.none _
      | refine LeO.ite ?_ ?_
      | refine LeO.bind ?_ (fun _ => ?_)
theorem mortiseref08_Expand.mono : ∀ a0 a1 k, LeO (mortiseref08_Expand.f k a0 a1) (mortiseref08_Expand.f (k + 1) a0 a1) := by
  intro a0 a1 k
  obtain ⟨ih0, ih1, ih2⟩ := mortiseref08_Expand.mono_l k
  unfold mortiseref08_Expand.f
  repeat' first
      | (with_reducible exact ih0 _ _ _)
      | (with_reducible exact ih1 _ _ _ _)
      | (with_reducible exact ih2 _ _ _ _ _ _ _ _ _)
      | (with_reducible exact LeO.refl _)
      | (with_reducible exact LeO.none _)
      | (with_reducible refine LeO.ite ?_ ?_)
      | (with_reducible refine LeO.bind ?_ (fun _ => ?_))
      | exact ih0 _ _ _
      | exact ih1 _ _ _ _
      | exact ih2 _ _ _ _ _ _ _ _ _
      | exact LeO.none _
      | refine LeO.ite ?_ ?_
      | refine LeO.bind ?_ (fun _ => ?_)
set_option maxHeartbeats 8000000 in
set_option maxRecDepth 100000 in
theorem mortiseref08_Expand.calls (k : Nat) (A0 : Option Addr) (c0 : Nat) (l0 : List (S37)) (a1 : Int) (r1 : ByteArray) (r2 : Int) (w : World) (hr0 : Kd.C k37 w A0 l0.length l0) (hc0 : l0.length ≤ c0) (h : mortiseref08_Expand.f k l0 a1 = some (r1, r2)) :
    Calls Try.prog 11 #[.slice A0 l0.length c0, .int .i64 a1] w fun e w' => e = .returned (.tuple #[.string r1, .int .i64 r2]) ∧ Below w.heap.size w w' := by
  have hu37 := Try.underlying37
  have HR0 := Aside0.mk hr0
  have HC0 := Aside0.mk hc0
  clear hr0 hc0
  have HB := Aside0.mk (Below.refl w.heap.size w)
  have H : (if a1 < 0 then (mortiseref08_Expand.j0 k l0 a1 true) else (mortiseref08_Expand.j0 k l0 a1 (decide (a1 > 1073741824)))) = some (r1, r2) := h
  clear h
  have HC3 := Aside0.mk H
  clear H
  go_enter Try.func11, Try.ntmps11
  go_upto_region 1 with (fail)
  go_cut [17] (fun v17 wc => ∃ (kq : Nat) (x17_2 : Bool), v17 = .bool x17_2 ∧ Aside0 (mortiseref08_Expand.j0 kq l0 a1 x17_2 = some (r1, r2)) ∧ Aside0 (kq ≤ k) ∧ Aside0 (Below w.heap.size w wc))
  case first =>
    have H := HC3.out
    clear HC3
    by_cases c4 : a1 < 0
    · rw [if_pos c4] at H
      have c4b0 : decide (a1 < 0) = true := decide_eq_true c4
      clear c4
      (first | rw [c4b0] | (simp only [i64_w, i32_w]; rw [c4b0]) | skip)
      have H' := Aside0.mk H
      clear H
      go_wp2
      go_meet
      case rel => exact ⟨_, (true), (by first | rfl | (simp; done) | (simp [*]; done)), H', ⟨by first | omega | exact Nat.le_refl _⟩, ⟨by repeat (first | (with_reducible first | exact HB.out | apply below_alloc | apply pw_below_drewN | apply below_drew1) | exact HB.out)⟩⟩
    · rw [if_neg c4] at H
      have c4b0 : decide (a1 < 0) = false := decide_eq_false c4
      clear c4
      (first | rw [c4b0] | (simp only [i64_w, i32_w]; rw [c4b0]) | skip)
      have H' := Aside0.mk H
      clear H
      go_wp2
      go_meet
      case rel => exact ⟨_, (decide (a1 > 1073741824)), (by first | rfl | (simp; done) | (simp [*]; done)), H', ⟨by first | omega | exact Nat.le_refl _⟩, ⟨by repeat (first | (with_reducible first | exact HB.out | apply below_alloc | apply pw_below_drewN | apply below_drew1) | exact HB.out)⟩⟩
  case rest =>
    clear HC3
    try clear c1
    try clear p2
    try clear c4
    try clear c4b0
    obtain ⟨kq, x17_2, rfl, HA, HJ2, HB⟩ := hcut
    cases kq with
    | zero => exact absurd HA.out (by simp [mortiseref08_Expand.j0])
    | succ kj2 =>
      have H := HA.out
      clear HA
      simp only [mortiseref08_Expand.j0] at H
      by_cases c5 : x17_2 = true
      · subst c5
        have H1 : (some ((⟨#[]⟩ : ByteArray), 1)) = some (r1, r2) := by rw [if_pos rfl] at H; exact H
        clear H
        have H := H1
        clear H1
        simp only [Option.some.injEq, Prod.mk.injEq] at H
        obtain ⟨rfl, rfl⟩ := H
        go_wp2
        go_ret2
        exact ⟨by first | rfl | (simp [errW_none, errW_some] <;> rfl) | (simp [*, errW_none, errW_some] <;> rfl), by repeat (first | (with_reducible first | exact HB.out | apply below_alloc | apply pw_below_drewN | apply below_drew1) | exact HB.out)⟩
      · replace c5 := Bool.eq_false_iff.mpr c5
        subst c5
        have H1 : (mortiseref08_Expand.l0 kj2 l0 a1 ([] : List Int) 0) = some (r1, r2) := by rw [if_neg (show ¬ (false = true) by decide)] at H; exact H
        clear H
        have H := H1
        clear H1
        have H' := Aside0.mk H
        clear H
        go_wp2
        go_loopg [6, 7] kj2 (fun kq v6 v7 w' => ∃ (x6_2 : List Int) (x7_2 : Int), v7 = .int .i64 x7_2 ∧ Aside0 (mortiseref08_Expand.l0 kq l0 a1 x6_2 x7_2 = some (r1, r2)) ∧ Aside0 (kq ≤ kj2) ∧ Aside0 (Kd.R (Kd.int .u8) 5 w' w.heap.size (fun _ => True) v6 x6_2) ∧ Aside0 (Below w.heap.size w w'))
        case atStart => exact ⟨(([] : List Int)), (0), (by first | rfl | (simp; done) | (simp [*]; done)), H', ⟨Nat.le_refl _⟩, ⟨by first | exact Kd.R_nil _ _ _ _ _ | exact Kd.N_nil _ _ _ _ _ | exact Kd.V_nil _ _ _ _ _ | exact Kd.Q_nil _ _ _ _ _ | exact Kd.S_nil _ _ _ _ _⟩, ⟨by repeat (first | (with_reducible first | exact HB.out | apply below_alloc | apply pw_below_drewN | apply below_drew1) | exact HB.out)⟩⟩
        case round =>
          clear H'
          try clear c1
          try clear p2
          try clear c4
          try clear c4b0
          try clear c5
          try clear p2
          obtain ⟨x6_2, x7_2, rfl, HA, HK2, HO_6, HB⟩ := hrel
          cases gk with
          | zero => exact absurd HA.out (by simp [mortiseref08_Expand.l0])
          | succ k2 =>
            have H := HA.out
            clear HA
            simp only [mortiseref08_Expand.l0] at H
            by_cases c6 : x7_2 < (l0.length : Int)
            · rw [if_pos c6] at H
              have c6b0 : decide (x7_2 < (l0.length : Int)) = true := decide_eq_true c6
              clear c6
              by_cases c7 : 0 ≤ x7_2
              · rw [if_pos c7] at H
                have c7b0 : decide (0 ≤ x7_2) = true := decide_eq_true c7
                clear c7
                replace H := Option.bind_eq_some_iff.mp H
                obtain ⟨t143, A80, H⟩ := H
                replace H : (if t143 = true then (if ((rd_T37 l0 x7_2).f2) > (x6_2.length : Int) then (some ((⟨#[]⟩ : ByteArray), 3)) else (if (mx 1 ((rd_T37 l0 x7_2).f1)) > (wrap64 (a1 - (x6_2.length : Int))) then (some ((⟨#[]⟩ : ByteArray), 11)) else (if ((rd_T37 l0 x7_2).f2) = 0 then (if x6_2.length < 140737488355328 then (mortiseref08_Expand.l0 k2 l0 a1 (x6_2 ++ [(rd_T37 l0 x7_2).f0]) (wrap64 (x7_2 + 1))) else (none)) else (mortiseref08_Expand.l1 k2 l0 a1 x6_2 x7_2 (mx 1 ((rd_T37 l0 x7_2).f1)) 0 ((rd_T37 l0 x7_2).f0) ((rd_T37 l0 x7_2).f1) ((rd_T37 l0 x7_2).f2))))) else (some ((⟨#[]⟩ : ByteArray), 1))) = some (r1, r2) := H
                have A8 := Aside0.mk A80
                clear A80
                by_cases c9 : t143 = true
                · subst c9
                  have H1 : (if ((rd_T37 l0 x7_2).f2) > (x6_2.length : Int) then (some ((⟨#[]⟩ : ByteArray), 3)) else (if (mx 1 ((rd_T37 l0 x7_2).f1)) > (wrap64 (a1 - (x6_2.length : Int))) then (some ((⟨#[]⟩ : ByteArray), 11)) else (if ((rd_T37 l0 x7_2).f2) = 0 then (if x6_2.length < 140737488355328 then (mortiseref08_Expand.l0 k2 l0 a1 (x6_2 ++ [(rd_T37 l0 x7_2).f0]) (wrap64 (x7_2 + 1))) else (none)) else (mortiseref08_Expand.l1 k2 l0 a1 x6_2 x7_2 (mx 1 ((rd_T37 l0 x7_2).f1)) 0 ((rd_T37 l0 x7_2).f0) ((rd_T37 l0 x7_2).f1) ((rd_T37 l0 x7_2).f2))))) = some (r1, r2) := by rw [if_pos rfl] at H; exact H
                  clear H
                  have H := H1
                  clear H1
                  by_cases c10 : ((rd_T37 l0 x7_2).f2) > (x6_2.length : Int)
                  · rw [if_pos c10] at H
                    have c10b0 : decide ((x6_2.length : Int) < ((rd_T37 l0 x7_2).f2)) = true := decide_eq_true c10
                    clear c10
                    simp only [Option.some.injEq, Prod.mk.injEq] at H
                    obtain ⟨rfl, rfl⟩ := H
                    have p141 : 0 ≤ (x7_2 : Int) := of_decide_eq_true (by first | (with_reducible assumption) | assumption)
                    have q141 : x7_2 < (l0.length : Int) := of_decide_eq_true (by first | (with_reducible assumption) | assumption)
                    obtain ⟨ad141, e141, hx141_0, hx141_1, hx141_2⟩ := at_T37 HR0.out x7_2 p141 q141
                    cases e141
                    replace hx141_0 := (HB.out.cell (World.block_lt_of_cell? w _ hx141_0)).trans hx141_0
                    replace hx141_1 := (HB.out.cell (World.block_lt_of_cell? w _ hx141_1)).trans hx141_1
                    replace hx141_2 := (HB.out.cell (World.block_lt_of_cell? w _ hx141_2)).trans hx141_2
                    replace p141 := eq_true p141
                    replace q141 := eq_true q141
                    go_wp2_with (first | ((with_reducible refine gate_dst (N := 8) rfl ?_); refine box_event ?hg (N := 8) ?hd (cs := #[.int .u8 0, .int .i64 0, .int .i64 0]) (t := 37) ?hr ?_; (case hd => rfl); (case hg => rfl); (case hr => first | (go_simp; done) | (go_simp; rfl)); intro gb142 hg w11 hbox hb; have n0_ := Aside0.mk (Kd.R_below (by (with_reducible repeat (first | apply Kd.R_alloc | apply Kd.R_drewN | apply Kd.R_drew)); exact HO_6.out) hb); have n1_ := Aside0.mk (below_step (by repeat (first | (with_reducible first | exact HB.out | apply below_alloc | apply pw_below_drewN | apply below_drew1) | exact HB.out)) hb); have n2_ := Aside0.mk (hbox); have n3_ := Aside0.mk ((by rw [hg]; exact (below_size (by repeat (first | (with_reducible first | exact HB.out | apply below_alloc | apply pw_below_drewN | apply below_drew1) | exact HB.out))) : w.heap.size ≤ gb142)); have n4_ := Aside0.mk ((by rw [hg]; exact (below_size (by repeat (first | (with_reducible first | exact HB.out | apply below_alloc | apply pw_below_drewN | apply below_drew1) | exact HB.out))) : w.heap.size ≤ gb142)); clear HO_6; clear HB; have HO_6 := n0_; have HB := n1_; have BK142 := n2_; have GW142 := n3_; have GE142 := n4_; clear n0_ n1_ n2_ n3_ n4_; clear hb hbox hg; have hcz12_0 : w11.cell? ⟨gb142, 0, none⟩ = some (.int .u8 0) := (blk_cell BK142.out 0).trans rfl; have hcz12_1 : w11.cell? ⟨gb142, 1, none⟩ = some (.int .i64 0) := (blk_cell BK142.out 1).trans rfl; have hcz12_2 : w11.cell? ⟨gb142, 2, none⟩ = some (.int .i64 0) := (blk_cell BK142.out 2).trans rfl; have hfz12_0 := blk_frozen BK142.out 0; have hfz12_1 := blk_frozen BK142.out 1; have hfz12_2 := blk_frozen BK142.out 2) | ((with_reducible refine gate_callee (f := 16) rfl ?_); refine goesL_ (some 29) rfl rfl Try.func16 (by kernel_rfl) rfl #[.agg #[.int .u8 ((rd_T37 l0 x7_2).f0), .int .i64 ((rd_T37 l0 x7_2).f1), .int .i64 ((rd_T37 l0 x7_2).f2)]] rfl (by (try simp only [List.map_toArray, List.map_cons, List.map_nil]); first | done | rfl | (simp only [List.length_drop, List.length_take]; rfl)) ?_; (with_reducible refine (mortiseref08_May.calls ((rd_T37 l0 x7_2).f0) ((rd_T37 l0 x7_2).f1) ((rd_T37 l0 x7_2).f2) true _ A8.out).mono ?_); rintro e w13 ⟨rfl, hb⟩; refine ⟨_, rfl, ?_⟩; have n0_ := Aside0.mk (Kd.R_below (by (with_reducible repeat (first | apply Kd.R_alloc | apply Kd.R_drewN | apply Kd.R_drew)); exact (Kd.R_mono (Kd.R_far (p := ⟨gb142, 2, none⟩) (Kd.R_far (p := ⟨gb142, 1, none⟩) (Kd.R_far (p := ⟨gb142, 0, none⟩) (Kd.R_types HO_6.out BK142.out (by decide)) (fun _ hk => hk.2) (.int .u8 ((rd_T37 l0 x7_2).f0))) (fun _ hk => hk.2) (.int .i64 ((rd_T37 l0 x7_2).f1))) (fun _ hk => hk.2) (.int .i64 ((rd_T37 l0 x7_2).f2))) (fun _ h_ => h_.1))) hb); have n1_ := Aside0.mk (blk_below (g := gb142) (o := .cells #[.int .u8 ((rd_T37 l0 x7_2).f0), .int .i64 ((rd_T37 l0 x7_2).f1), .int .i64 ((rd_T37 l0 x7_2).f2)] 37 (0, 0)) (by (with_reducible repeat (first | refine blk_drewN ?_ _ | refine blk_drew ?_ | refine blk_alloc ?_ _)); refine blk_put (cs := #[.int .u8 ((rd_T37 l0 x7_2).f0), .int .i64 ((rd_T37 l0 x7_2).f1), .int .i64 0]) ?_ 2 _ rfl; (with_reducible repeat (first | refine blk_drewN ?_ _ | refine blk_drew ?_ | refine blk_alloc ?_ _)); refine blk_put (cs := #[.int .u8 ((rd_T37 l0 x7_2).f0), .int .i64 0, .int .i64 0]) ?_ 1 _ rfl; (with_reducible repeat (first | refine blk_drewN ?_ _ | refine blk_drew ?_ | refine blk_alloc ?_ _)); refine blk_put (cs := #[.int .u8 0, .int .i64 0, .int .i64 0]) ?_ 0 _ rfl; (with_reducible repeat (first | refine blk_drewN ?_ _ | refine blk_drew ?_ | refine blk_alloc ?_ _)); exact BK142.out) hb); have n2_ := Aside0.mk (below_step (by repeat (first | (with_reducible first | exact HB.out | apply below_alloc | apply pw_below_drewN | apply below_drew1 | refine below_set ?_ GE142.out) | exact HB.out)) hb); clear HO_6; clear BK142; clear HB; have HO_6 := n0_; have BK142 := n1_; have HB := n2_; clear n0_ n1_ n2_; (try clear hb); (try clear hb2); (try clear hk); (try clear hi); have hcz14_0 : w13.cell? ⟨gb142, 0, none⟩ = some (.int .u8 ((rd_T37 l0 x7_2).f0)) := (blk_cell BK142.out 0).trans rfl; have hcz14_1 : w13.cell? ⟨gb142, 1, none⟩ = some (.int .i64 ((rd_T37 l0 x7_2).f1)) := (blk_cell BK142.out 1).trans rfl; have hcz14_2 : w13.cell? ⟨gb142, 2, none⟩ = some (.int .i64 ((rd_T37 l0 x7_2).f2)) := (blk_cell BK142.out 2).trans rfl; have hfz14_0 := blk_frozen BK142.out 0; have hfz14_1 := blk_frozen BK142.out 1; have hfz14_2 := blk_frozen BK142.out 2; obtain ⟨Ao15, co15, eo15⟩ := Kd.R_slice HO_6.out; subst eo15))
                    go_ret2
                    exact ⟨by first | rfl | (simp [errW_none, errW_some] <;> rfl) | (simp [*, errW_none, errW_some] <;> rfl), by repeat (first | (with_reducible first | exact HB.out | apply below_alloc | apply pw_below_drewN | apply below_drew1 | refine below_set ?_ GE142.out) | exact HB.out)⟩
                  · rw [if_neg c10] at H
                    have c10b0 : decide ((x6_2.length : Int) < ((rd_T37 l0 x7_2).f2)) = false := decide_eq_false c10
                    clear c10
                    obtain ⟨ji16, hji16⟩ : ∃ j_ : Int, (mx 1 ((rd_T37 l0 x7_2).f1)) = j_ := ⟨_, rfl⟩
                    replace H : (if (ji16) > (wrap64 (a1 - (x6_2.length : Int))) then (some ((⟨#[]⟩ : ByteArray), 11)) else (if ((rd_T37 l0 x7_2).f2) = 0 then (if x6_2.length < 140737488355328 then (mortiseref08_Expand.l0 k2 l0 a1 (x6_2 ++ [(rd_T37 l0 x7_2).f0]) (wrap64 (x7_2 + 1))) else (none)) else (mortiseref08_Expand.l1 k2 l0 a1 x6_2 x7_2 ji16 0 ((rd_T37 l0 x7_2).f0) ((rd_T37 l0 x7_2).f1) ((rd_T37 l0 x7_2).f2)))) = some (r1, r2) := by first | (rw [hji16] at H; exact H) | (simp only [hji16] at H ⊢; exact H)
                    (try rw [hji16] at A8)
                    have hji16_ : (if 1 < ((rd_T37 l0 x7_2).f1) then ((rd_T37 l0 x7_2).f1) else 1) = ji16 := hji16
                    by_cases c17 : (ji16) > (wrap64 (a1 - (x6_2.length : Int)))
                    · rw [if_pos c17] at H
                      have c17b0 : decide ((wrap64 (a1 - (x6_2.length : Int))) < (ji16)) = true := decide_eq_true c17
                      clear c17
                      simp only [Option.some.injEq, Prod.mk.injEq] at H
                      obtain ⟨rfl, rfl⟩ := H
                      have p141 : 0 ≤ (x7_2 : Int) := of_decide_eq_true (by first | (with_reducible assumption) | assumption)
                      have q141 : x7_2 < (l0.length : Int) := of_decide_eq_true (by first | (with_reducible assumption) | assumption)
                      obtain ⟨ad141, e141, hx141_0, hx141_1, hx141_2⟩ := at_T37 HR0.out x7_2 p141 q141
                      cases e141
                      replace hx141_0 := (HB.out.cell (World.block_lt_of_cell? w _ hx141_0)).trans hx141_0
                      replace hx141_1 := (HB.out.cell (World.block_lt_of_cell? w _ hx141_1)).trans hx141_1
                      replace hx141_2 := (HB.out.cell (World.block_lt_of_cell? w _ hx141_2)).trans hx141_2
                      replace p141 := eq_true p141
                      replace q141 := eq_true q141
                      go_wp2_with (first | ((with_reducible refine gate_dst (N := 8) rfl ?_); refine box_event ?hg (N := 8) ?hd (cs := #[.int .u8 0, .int .i64 0, .int .i64 0]) (t := 37) ?hr ?_; (case hd => rfl); (case hg => rfl); (case hr => first | (go_simp; done) | (go_simp; rfl)); intro gb142 hg w18 hbox hb; have n0_ := Aside0.mk (Kd.R_below (by (with_reducible repeat (first | apply Kd.R_alloc | apply Kd.R_drewN | apply Kd.R_drew)); exact HO_6.out) hb); have n1_ := Aside0.mk (below_step (by repeat (first | (with_reducible first | exact HB.out | apply below_alloc | apply pw_below_drewN | apply below_drew1) | exact HB.out)) hb); have n2_ := Aside0.mk (hbox); have n3_ := Aside0.mk ((by rw [hg]; exact (below_size (by repeat (first | (with_reducible first | exact HB.out | apply below_alloc | apply pw_below_drewN | apply below_drew1) | exact HB.out))) : w.heap.size ≤ gb142)); have n4_ := Aside0.mk ((by rw [hg]; exact (below_size (by repeat (first | (with_reducible first | exact HB.out | apply below_alloc | apply pw_below_drewN | apply below_drew1) | exact HB.out))) : w.heap.size ≤ gb142)); clear HO_6; clear HB; have HO_6 := n0_; have HB := n1_; have BK142 := n2_; have GW142 := n3_; have GE142 := n4_; clear n0_ n1_ n2_ n3_ n4_; clear hb hbox hg; have hcz19_0 : w18.cell? ⟨gb142, 0, none⟩ = some (.int .u8 0) := (blk_cell BK142.out 0).trans rfl; have hcz19_1 : w18.cell? ⟨gb142, 1, none⟩ = some (.int .i64 0) := (blk_cell BK142.out 1).trans rfl; have hcz19_2 : w18.cell? ⟨gb142, 2, none⟩ = some (.int .i64 0) := (blk_cell BK142.out 2).trans rfl; have hfz19_0 := blk_frozen BK142.out 0; have hfz19_1 := blk_frozen BK142.out 1; have hfz19_2 := blk_frozen BK142.out 2) | ((with_reducible refine gate_callee (f := 16) rfl ?_); refine goesL_ (some 29) rfl rfl Try.func16 (by kernel_rfl) rfl #[.agg #[.int .u8 ((rd_T37 l0 x7_2).f0), .int .i64 ((rd_T37 l0 x7_2).f1), .int .i64 ((rd_T37 l0 x7_2).f2)]] rfl (by (try simp only [List.map_toArray, List.map_cons, List.map_nil]); first | done | rfl | (simp only [List.length_drop, List.length_take]; rfl)) ?_; (with_reducible refine (mortiseref08_May.calls ((rd_T37 l0 x7_2).f0) ((rd_T37 l0 x7_2).f1) ((rd_T37 l0 x7_2).f2) true _ A8.out).mono ?_); rintro e w20 ⟨rfl, hb⟩; refine ⟨_, rfl, ?_⟩; have n0_ := Aside0.mk (Kd.R_below (by (with_reducible repeat (first | apply Kd.R_alloc | apply Kd.R_drewN | apply Kd.R_drew)); exact (Kd.R_mono (Kd.R_far (p := ⟨gb142, 2, none⟩) (Kd.R_far (p := ⟨gb142, 1, none⟩) (Kd.R_far (p := ⟨gb142, 0, none⟩) (Kd.R_types HO_6.out BK142.out (by decide)) (fun _ hk => hk.2) (.int .u8 ((rd_T37 l0 x7_2).f0))) (fun _ hk => hk.2) (.int .i64 ((rd_T37 l0 x7_2).f1))) (fun _ hk => hk.2) (.int .i64 ((rd_T37 l0 x7_2).f2))) (fun _ h_ => h_.1))) hb); have n1_ := Aside0.mk (blk_below (g := gb142) (o := .cells #[.int .u8 ((rd_T37 l0 x7_2).f0), .int .i64 ((rd_T37 l0 x7_2).f1), .int .i64 ((rd_T37 l0 x7_2).f2)] 37 (0, 0)) (by (with_reducible repeat (first | refine blk_drewN ?_ _ | refine blk_drew ?_ | refine blk_alloc ?_ _)); refine blk_put (cs := #[.int .u8 ((rd_T37 l0 x7_2).f0), .int .i64 ((rd_T37 l0 x7_2).f1), .int .i64 0]) ?_ 2 _ rfl; (with_reducible repeat (first | refine blk_drewN ?_ _ | refine blk_drew ?_ | refine blk_alloc ?_ _)); refine blk_put (cs := #[.int .u8 ((rd_T37 l0 x7_2).f0), .int .i64 0, .int .i64 0]) ?_ 1 _ rfl; (with_reducible repeat (first | refine blk_drewN ?_ _ | refine blk_drew ?_ | refine blk_alloc ?_ _)); refine blk_put (cs := #[.int .u8 0, .int .i64 0, .int .i64 0]) ?_ 0 _ rfl; (with_reducible repeat (first | refine blk_drewN ?_ _ | refine blk_drew ?_ | refine blk_alloc ?_ _)); exact BK142.out) hb); have n2_ := Aside0.mk (below_step (by repeat (first | (with_reducible first | exact HB.out | apply below_alloc | apply pw_below_drewN | apply below_drew1 | refine below_set ?_ GE142.out) | exact HB.out)) hb); clear HO_6; clear BK142; clear HB; have HO_6 := n0_; have BK142 := n1_; have HB := n2_; clear n0_ n1_ n2_; (try clear hb); (try clear hb2); (try clear hk); (try clear hi); have hcz21_0 : w20.cell? ⟨gb142, 0, none⟩ = some (.int .u8 ((rd_T37 l0 x7_2).f0)) := (blk_cell BK142.out 0).trans rfl; have hcz21_1 : w20.cell? ⟨gb142, 1, none⟩ = some (.int .i64 ((rd_T37 l0 x7_2).f1)) := (blk_cell BK142.out 1).trans rfl; have hcz21_2 : w20.cell? ⟨gb142, 2, none⟩ = some (.int .i64 ((rd_T37 l0 x7_2).f2)) := (blk_cell BK142.out 2).trans rfl; have hfz21_0 := blk_frozen BK142.out 0; have hfz21_1 := blk_frozen BK142.out 1; have hfz21_2 := blk_frozen BK142.out 2; obtain ⟨Ao22, co22, eo22⟩ := Kd.R_slice HO_6.out; subst eo22))
                      go_ret2
                      exact ⟨by first | rfl | (simp [errW_none, errW_some] <;> rfl) | (simp only [← hji16]; first | rfl | (simp [errW_none, errW_some] <;> rfl)) | (simp [*, errW_none, errW_some] <;> rfl), by repeat (first | (with_reducible first | exact HB.out | apply below_alloc | apply pw_below_drewN | apply below_drew1 | refine below_set ?_ GE142.out) | exact HB.out)⟩
                    · rw [if_neg c17] at H
                      have c17b0 : decide ((wrap64 (a1 - (x6_2.length : Int))) < (ji16)) = false := decide_eq_false c17
                      clear c17
                      by_cases c23 : ((rd_T37 l0 x7_2).f2) = 0
                      · rw [if_pos c23] at H
                        have c23b0 : (((rd_T37 l0 x7_2).f2) == 0) = true := beq_iff_eq.mpr c23
                        have c23b1 : (((rd_T37 l0 x7_2).f2) != 0) = false := bne_eq_false_iff_eq.mpr c23
                        clear c23
                        by_cases c24 : x6_2.length < 140737488355328
                        · rw [if_pos c24] at H
                          have LMc24 := Aside0.mk c24
                          clear c24
                          obtain ⟨y144, hy144⟩ : ∃ y_ : List Int, y_ = (x6_2 ++ [(rd_T37 l0 x7_2).f0]) := ⟨_, rfl⟩
                          replace H : (mortiseref08_Expand.l0 k2 l0 a1 y144 (wrap64 (x7_2 + 1))) = some (r1, r2) := by first | (rw [hy144]; with_reducible exact H) | (have H2_ := (Option.bind_some _ _).symm.trans H; rw [hy144]; with_reducible exact H2_) | (have H2_ := (Option.bind_some _ _).symm.trans H; with_reducible exact H2_) | with_reducible exact H | (rw [hy144]; exact H) | exact H
                          have Ny144 := Aside0.mk hy144
                          clear hy144
                          have H' := Aside0.mk H
                          clear H
                          have p141 : 0 ≤ (x7_2 : Int) := of_decide_eq_true (by first | (with_reducible assumption) | assumption)
                          have q141 : x7_2 < (l0.length : Int) := of_decide_eq_true (by first | (with_reducible assumption) | assumption)
                          obtain ⟨ad141, e141, hx141_0, hx141_1, hx141_2⟩ := at_T37 HR0.out x7_2 p141 q141
                          cases e141
                          replace hx141_0 := (HB.out.cell (World.block_lt_of_cell? w _ hx141_0)).trans hx141_0
                          replace hx141_1 := (HB.out.cell (World.block_lt_of_cell? w _ hx141_1)).trans hx141_1
                          replace hx141_2 := (HB.out.cell (World.block_lt_of_cell? w _ hx141_2)).trans hx141_2
                          replace p141 := eq_true p141
                          replace q141 := eq_true q141
                          go_wp2_with (first | ((with_reducible refine gate_dst (N := 8) rfl ?_); refine box_event ?hg (N := 8) ?hd (cs := #[.int .u8 0, .int .i64 0, .int .i64 0]) (t := 37) ?hr ?_; (case hd => rfl); (case hg => rfl); (case hr => first | (go_simp; done) | (go_simp; rfl)); intro gb142 hg w25 hbox hb; have n0_ := Aside0.mk (Kd.R_below (by (with_reducible repeat (first | apply Kd.R_alloc | apply Kd.R_drewN | apply Kd.R_drew)); exact HO_6.out) hb); have n1_ := Aside0.mk (below_step (by repeat (first | (with_reducible first | exact HB.out | apply below_alloc | apply pw_below_drewN | apply below_drew1) | exact HB.out)) hb); have n2_ := Aside0.mk (hbox); have n3_ := Aside0.mk ((by rw [hg]; exact (below_size (by repeat (first | (with_reducible first | exact HB.out | apply below_alloc | apply pw_below_drewN | apply below_drew1) | exact HB.out))) : w.heap.size ≤ gb142)); have n4_ := Aside0.mk ((by rw [hg]; exact (below_size (by repeat (first | (with_reducible first | exact HB.out | apply below_alloc | apply pw_below_drewN | apply below_drew1) | exact HB.out))) : w.heap.size ≤ gb142)); clear HO_6; clear HB; have HO_6 := n0_; have HB := n1_; have BK142 := n2_; have GW142 := n3_; have GE142 := n4_; clear n0_ n1_ n2_ n3_ n4_; clear hb hbox hg; have hcz26_0 : w25.cell? ⟨gb142, 0, none⟩ = some (.int .u8 0) := (blk_cell BK142.out 0).trans rfl; have hcz26_1 : w25.cell? ⟨gb142, 1, none⟩ = some (.int .i64 0) := (blk_cell BK142.out 1).trans rfl; have hcz26_2 : w25.cell? ⟨gb142, 2, none⟩ = some (.int .i64 0) := (blk_cell BK142.out 2).trans rfl; have hfz26_0 := blk_frozen BK142.out 0; have hfz26_1 := blk_frozen BK142.out 1; have hfz26_2 := blk_frozen BK142.out 2) | ((with_reducible refine gate_callee (f := 16) rfl ?_); refine goesL_ (some 29) rfl rfl Try.func16 (by kernel_rfl) rfl #[.agg #[.int .u8 ((rd_T37 l0 x7_2).f0), .int .i64 ((rd_T37 l0 x7_2).f1), .int .i64 ((rd_T37 l0 x7_2).f2)]] rfl (by (try simp only [List.map_toArray, List.map_cons, List.map_nil]); first | done | rfl | (simp only [List.length_drop, List.length_take]; rfl)) ?_; (with_reducible refine (mortiseref08_May.calls ((rd_T37 l0 x7_2).f0) ((rd_T37 l0 x7_2).f1) ((rd_T37 l0 x7_2).f2) true _ A8.out).mono ?_); rintro e w27 ⟨rfl, hb⟩; refine ⟨_, rfl, ?_⟩; have n0_ := Aside0.mk (Kd.R_below (by (with_reducible repeat (first | apply Kd.R_alloc | apply Kd.R_drewN | apply Kd.R_drew)); exact (Kd.R_mono (Kd.R_far (p := ⟨gb142, 2, none⟩) (Kd.R_far (p := ⟨gb142, 1, none⟩) (Kd.R_far (p := ⟨gb142, 0, none⟩) (Kd.R_types HO_6.out BK142.out (by decide)) (fun _ hk => hk.2) (.int .u8 ((rd_T37 l0 x7_2).f0))) (fun _ hk => hk.2) (.int .i64 ((rd_T37 l0 x7_2).f1))) (fun _ hk => hk.2) (.int .i64 ((rd_T37 l0 x7_2).f2))) (fun _ h_ => h_.1))) hb); have n1_ := Aside0.mk (blk_below (g := gb142) (o := .cells #[.int .u8 ((rd_T37 l0 x7_2).f0), .int .i64 ((rd_T37 l0 x7_2).f1), .int .i64 ((rd_T37 l0 x7_2).f2)] 37 (0, 0)) (by (with_reducible repeat (first | refine blk_drewN ?_ _ | refine blk_drew ?_ | refine blk_alloc ?_ _)); refine blk_put (cs := #[.int .u8 ((rd_T37 l0 x7_2).f0), .int .i64 ((rd_T37 l0 x7_2).f1), .int .i64 0]) ?_ 2 _ rfl; (with_reducible repeat (first | refine blk_drewN ?_ _ | refine blk_drew ?_ | refine blk_alloc ?_ _)); refine blk_put (cs := #[.int .u8 ((rd_T37 l0 x7_2).f0), .int .i64 0, .int .i64 0]) ?_ 1 _ rfl; (with_reducible repeat (first | refine blk_drewN ?_ _ | refine blk_drew ?_ | refine blk_alloc ?_ _)); refine blk_put (cs := #[.int .u8 0, .int .i64 0, .int .i64 0]) ?_ 0 _ rfl; (with_reducible repeat (first | refine blk_drewN ?_ _ | refine blk_drew ?_ | refine blk_alloc ?_ _)); exact BK142.out) hb); have n2_ := Aside0.mk (below_step (by repeat (first | (with_reducible first | exact HB.out | apply below_alloc | apply pw_below_drewN | apply below_drew1 | refine below_set ?_ GE142.out) | exact HB.out)) hb); clear HO_6; clear BK142; clear HB; have HO_6 := n0_; have BK142 := n1_; have HB := n2_; clear n0_ n1_ n2_; (try clear hb); (try clear hb2); (try clear hk); (try clear hi); have hcz28_0 : w27.cell? ⟨gb142, 0, none⟩ = some (.int .u8 ((rd_T37 l0 x7_2).f0)) := (blk_cell BK142.out 0).trans rfl; have hcz28_1 : w27.cell? ⟨gb142, 1, none⟩ = some (.int .i64 ((rd_T37 l0 x7_2).f1)) := (blk_cell BK142.out 1).trans rfl; have hcz28_2 : w27.cell? ⟨gb142, 2, none⟩ = some (.int .i64 ((rd_T37 l0 x7_2).f2)) := (blk_cell BK142.out 2).trans rfl; have hfz28_0 := blk_frozen BK142.out 0; have hfz28_1 := blk_frozen BK142.out 1; have hfz28_2 := blk_frozen BK142.out 2; obtain ⟨Ao29, co29, eo29⟩ := Kd.R_slice HO_6.out; subst eo29) | ((with_reducible refine gate_builtin (b := .append) (xs := #[.tmp 49, .tmp 52]) rfl ?_); at_builtin; refine Kd.R_append (Kd.int .u8) (w0 := w) w.heap.size rfl (.tmp 49) (.tmp 52) 33 5 (.int .u8 0) 1 rfl Try.underlying33 info5 rfl (by decide) (by omega) (.slice Ao29 x6_2.length co29) x6_2 ((rd_T37 l0 x7_2).f0) [.int .u8 ((rd_T37 l0 x7_2).f0)] (fun _ => True) (fun _ => False) rfl rfl ?aP (fun _ hk => hk.elim) ?aF ?aO ?aB ?aS ?aL ?_; (case aP => exact rfl); (case aB => exact (by repeat (first | (with_reducible first | exact HB.out | apply below_alloc | apply pw_below_drewN | apply below_drew1 | refine below_set ?_ GE142.out) | exact HB.out))); (case aF => exact (fun _ _ => trivial)); (case aO => exact (by (with_reducible repeat (first | apply Kd.R_alloc | apply Kd.R_drewN | apply Kd.R_drew)); exact HO_6.out)); (case aS => exact (below_size (by repeat (first | (with_reducible first | exact HB.out | apply below_alloc | apply pw_below_drewN | apply below_drew1 | refine below_set ?_ GE142.out) | exact HB.out)))); (case aL => have := LMc24.out; omega); intro v145 w30 ho hb hg hat; rw [← Ny144.out] at ho; have n0_ := Aside0.mk (blk_grown (g := gb142) (o := .cells #[.int .u8 ((rd_T37 l0 x7_2).f0), .int .i64 ((rd_T37 l0 x7_2).f1), .int .i64 ((rd_T37 l0 x7_2).f2)] 37 (0, 0)) (by (with_reducible repeat (first | refine blk_drewN ?_ _ | refine blk_drew ?_ | refine blk_alloc ?_ _)); exact BK142.out) hg (Kd.R_ne HO_6.out BK142.out (by decide))); have n1_ := Aside0.mk (hb); have n2_ := Aside0.mk (ho); clear BK142; clear HB; clear HO_6; have BK142 := n0_; have HB := n1_; have HO146 := n2_; clear n0_ n1_ n2_; clear ho hb hg hat))
                          go_roundg k2
                          case measure => have := HJ2.out; have := HK2.out; omega
                          case rel => exact ⟨(y144), (wrap64 (x7_2 + 1)), (by first | rfl | (simp; done) | (simp [*]; done)), H', ⟨by have := HJ2.out; have := HK2.out; omega⟩, ⟨by (with_reducible repeat (first | apply Kd.R_alloc | apply Kd.R_drewN | apply Kd.R_drew)); exact HO146.out⟩, ⟨by repeat (first | (with_reducible first | exact HB.out | apply below_alloc | apply pw_below_drewN | apply below_drew1 | refine below_set ?_ GE142.out) | exact HB.out)⟩⟩
                        · rw [if_neg c24] at H
                          exact absurd H (by simp)
                      · rw [if_neg c23] at H
                        have c23b0 : (((rd_T37 l0 x7_2).f2) == 0) = false := beq_eq_false_iff_ne.mpr c23
                        have c23b1 : (((rd_T37 l0 x7_2).f2) != 0) = true := bne_iff_ne.mpr c23
                        have H' := Aside0.mk H
                        clear H
                        have p141 : 0 ≤ (x7_2 : Int) := of_decide_eq_true (by first | (with_reducible assumption) | assumption)
                        have q141 : x7_2 < (l0.length : Int) := of_decide_eq_true (by first | (with_reducible assumption) | assumption)
                        obtain ⟨ad141, e141, hx141_0, hx141_1, hx141_2⟩ := at_T37 HR0.out x7_2 p141 q141
                        cases e141
                        replace hx141_0 := (HB.out.cell (World.block_lt_of_cell? w _ hx141_0)).trans hx141_0
                        replace hx141_1 := (HB.out.cell (World.block_lt_of_cell? w _ hx141_1)).trans hx141_1
                        replace hx141_2 := (HB.out.cell (World.block_lt_of_cell? w _ hx141_2)).trans hx141_2
                        replace p141 := eq_true p141
                        replace q141 := eq_true q141
                        go_wp2_with (first | ((with_reducible refine gate_dst (N := 8) rfl ?_); refine box_event ?hg (N := 8) ?hd (cs := #[.int .u8 0, .int .i64 0, .int .i64 0]) (t := 37) ?hr ?_; (case hd => rfl); (case hg => rfl); (case hr => first | (go_simp; done) | (go_simp; rfl)); intro gb142 hg w31 hbox hb; have n0_ := Aside0.mk (Kd.R_below (by (with_reducible repeat (first | apply Kd.R_alloc | apply Kd.R_drewN | apply Kd.R_drew)); exact HO_6.out) hb); have n1_ := Aside0.mk (below_step (by repeat (first | (with_reducible first | exact HB.out | apply below_alloc | apply pw_below_drewN | apply below_drew1) | exact HB.out)) hb); have n2_ := Aside0.mk (hbox); have n3_ := Aside0.mk ((by rw [hg]; exact (below_size (by repeat (first | (with_reducible first | exact HB.out | apply below_alloc | apply pw_below_drewN | apply below_drew1) | exact HB.out))) : w.heap.size ≤ gb142)); have n4_ := Aside0.mk ((by rw [hg]; exact (below_size (by repeat (first | (with_reducible first | exact HB.out | apply below_alloc | apply pw_below_drewN | apply below_drew1) | exact HB.out))) : w.heap.size ≤ gb142)); clear HO_6; clear HB; have HO_6 := n0_; have HB := n1_; have BK142 := n2_; have GW142 := n3_; have GE142 := n4_; clear n0_ n1_ n2_ n3_ n4_; clear hb hbox hg; have hcz32_0 : w31.cell? ⟨gb142, 0, none⟩ = some (.int .u8 0) := (blk_cell BK142.out 0).trans rfl; have hcz32_1 : w31.cell? ⟨gb142, 1, none⟩ = some (.int .i64 0) := (blk_cell BK142.out 1).trans rfl; have hcz32_2 : w31.cell? ⟨gb142, 2, none⟩ = some (.int .i64 0) := (blk_cell BK142.out 2).trans rfl; have hfz32_0 := blk_frozen BK142.out 0; have hfz32_1 := blk_frozen BK142.out 1; have hfz32_2 := blk_frozen BK142.out 2) | ((with_reducible refine gate_callee (f := 16) rfl ?_); refine goesL_ (some 29) rfl rfl Try.func16 (by kernel_rfl) rfl #[.agg #[.int .u8 ((rd_T37 l0 x7_2).f0), .int .i64 ((rd_T37 l0 x7_2).f1), .int .i64 ((rd_T37 l0 x7_2).f2)]] rfl (by (try simp only [List.map_toArray, List.map_cons, List.map_nil]); first | done | rfl | (simp only [List.length_drop, List.length_take]; rfl)) ?_; (with_reducible refine (mortiseref08_May.calls ((rd_T37 l0 x7_2).f0) ((rd_T37 l0 x7_2).f1) ((rd_T37 l0 x7_2).f2) true _ A8.out).mono ?_); rintro e w33 ⟨rfl, hb⟩; refine ⟨_, rfl, ?_⟩; have n0_ := Aside0.mk (Kd.R_below (by (with_reducible repeat (first | apply Kd.R_alloc | apply Kd.R_drewN | apply Kd.R_drew)); exact (Kd.R_mono (Kd.R_far (p := ⟨gb142, 2, none⟩) (Kd.R_far (p := ⟨gb142, 1, none⟩) (Kd.R_far (p := ⟨gb142, 0, none⟩) (Kd.R_types HO_6.out BK142.out (by decide)) (fun _ hk => hk.2) (.int .u8 ((rd_T37 l0 x7_2).f0))) (fun _ hk => hk.2) (.int .i64 ((rd_T37 l0 x7_2).f1))) (fun _ hk => hk.2) (.int .i64 ((rd_T37 l0 x7_2).f2))) (fun _ h_ => h_.1))) hb); have n1_ := Aside0.mk (blk_below (g := gb142) (o := .cells #[.int .u8 ((rd_T37 l0 x7_2).f0), .int .i64 ((rd_T37 l0 x7_2).f1), .int .i64 ((rd_T37 l0 x7_2).f2)] 37 (0, 0)) (by (with_reducible repeat (first | refine blk_drewN ?_ _ | refine blk_drew ?_ | refine blk_alloc ?_ _)); refine blk_put (cs := #[.int .u8 ((rd_T37 l0 x7_2).f0), .int .i64 ((rd_T37 l0 x7_2).f1), .int .i64 0]) ?_ 2 _ rfl; (with_reducible repeat (first | refine blk_drewN ?_ _ | refine blk_drew ?_ | refine blk_alloc ?_ _)); refine blk_put (cs := #[.int .u8 ((rd_T37 l0 x7_2).f0), .int .i64 0, .int .i64 0]) ?_ 1 _ rfl; (with_reducible repeat (first | refine blk_drewN ?_ _ | refine blk_drew ?_ | refine blk_alloc ?_ _)); refine blk_put (cs := #[.int .u8 0, .int .i64 0, .int .i64 0]) ?_ 0 _ rfl; (with_reducible repeat (first | refine blk_drewN ?_ _ | refine blk_drew ?_ | refine blk_alloc ?_ _)); exact BK142.out) hb); have n2_ := Aside0.mk (below_step (by repeat (first | (with_reducible first | exact HB.out | apply below_alloc | apply pw_below_drewN | apply below_drew1 | refine below_set ?_ GE142.out) | exact HB.out)) hb); clear HO_6; clear BK142; clear HB; have HO_6 := n0_; have BK142 := n1_; have HB := n2_; clear n0_ n1_ n2_; (try clear hb); (try clear hb2); (try clear hk); (try clear hi); have hcz34_0 : w33.cell? ⟨gb142, 0, none⟩ = some (.int .u8 ((rd_T37 l0 x7_2).f0)) := (blk_cell BK142.out 0).trans rfl; have hcz34_1 : w33.cell? ⟨gb142, 1, none⟩ = some (.int .i64 ((rd_T37 l0 x7_2).f1)) := (blk_cell BK142.out 1).trans rfl; have hcz34_2 : w33.cell? ⟨gb142, 2, none⟩ = some (.int .i64 ((rd_T37 l0 x7_2).f2)) := (blk_cell BK142.out 2).trans rfl; have hfz34_0 := blk_frozen BK142.out 0; have hfz34_1 := blk_frozen BK142.out 1; have hfz34_2 := blk_frozen BK142.out 2; obtain ⟨Ao35, co35, eo35⟩ := Kd.R_slice HO_6.out; subst eo35))
                        go_loopg [6, 11] k2 (fun kq v6 v11 w' => ∃ (x6_3 : List Int) (x11_3 : Int), v11 = .int .i64 x11_3 ∧ Aside0 (mortiseref08_Expand.l1 kq l0 a1 x6_3 x7_2 ji16 x11_3 ((rd_T37 l0 x7_2).f0) ((rd_T37 l0 x7_2).f1) ((rd_T37 l0 x7_2).f2) = some (r1, r2)) ∧ Aside0 (kq ≤ k2) ∧ Aside0 (Kd.R (Kd.int .u8) 5 w' w.heap.size (fun _ => True) v6 x6_3) ∧ Aside0 (w'.heap[gb142]? = some (.cells #[.int .u8 ((rd_T37 l0 x7_2).f0), .int .i64 ((rd_T37 l0 x7_2).f1), .int .i64 ((rd_T37 l0 x7_2).f2)] 37 (0, 0))) ∧ Aside0 (Below w.heap.size w w'))
                        case atStart => exact ⟨(x6_2), (0), (by first | rfl | (simp; done) | (simp [*]; done)), H', ⟨Nat.le_refl _⟩, ⟨by (with_reducible repeat (first | apply Kd.R_alloc | apply Kd.R_drewN | apply Kd.R_drew)); exact HO_6.out⟩, ⟨by (with_reducible repeat (first | refine blk_drewN ?_ _ | refine blk_drew ?_ | refine blk_alloc ?_ _)); exact BK142.out⟩, ⟨by repeat (first | (with_reducible first | exact HB.out | apply below_alloc | apply pw_below_drewN | apply below_drew1 | refine below_set ?_ GE142.out) | exact HB.out)⟩⟩
                        case round =>
                          clear H'
                          try clear c1
                          try clear p1
                          try clear q1
                          try clear hx1
                          try clear c2
                          try clear p2
                          try clear c4
                          try clear c4b0
                          try clear c5
                          try clear c6
                          try clear c6b0
                          try clear p6
                          try clear c7
                          try clear c7b0
                          try clear c9
                          try clear c10
                          try clear c10b0
                          try clear c11
                          try clear p14
                          try clear q14
                          try clear hx14
                          try clear c16
                          try clear c17
                          try clear c17b0
                          try clear c23
                          try clear c23b0
                          try clear c23b1
                          try clear c24
                          try clear hcz12_0
                          try clear hcz12_1
                          try clear hcz12_2
                          try clear hcz14_0
                          try clear hcz14_1
                          try clear hcz14_2
                          try clear hcz19_0
                          try clear hcz19_1
                          try clear hcz19_2
                          try clear hcz21_0
                          try clear hcz21_1
                          try clear hcz21_2
                          try clear hcz26_0
                          try clear hcz26_1
                          try clear hcz26_2
                          try clear hcz28_0
                          try clear hcz28_1
                          try clear hcz28_2
                          try clear hcz32_0
                          try clear hcz32_1
                          try clear hcz32_2
                          try clear hcz34_0
                          try clear hcz34_1
                          try clear hcz34_2
                          try clear hfz12_0
                          try clear hfz12_1
                          try clear hfz12_2
                          try clear hfz14_0
                          try clear hfz14_1
                          try clear hfz14_2
                          try clear hfz19_0
                          try clear hfz19_1
                          try clear hfz19_2
                          try clear hfz21_0
                          try clear hfz21_1
                          try clear hfz21_2
                          try clear hfz26_0
                          try clear hfz26_1
                          try clear hfz26_2
                          try clear hfz28_0
                          try clear hfz28_1
                          try clear hfz28_2
                          try clear hfz32_0
                          try clear hfz32_1
                          try clear hfz32_2
                          try clear hfz34_0
                          try clear hfz34_1
                          try clear hfz34_2
                          try clear hx141_0
                          try clear hx141_1
                          try clear hx141_2
                          try clear p141
                          try clear p2
                          try clear q141
                          obtain ⟨x6_3, x11_3, rfl, HA, HK3, HO_6, BK142, HB⟩ := hrel
                          cases gk with
                          | zero => exact absurd HA.out (by simp [mortiseref08_Expand.l1])
                          | succ k3 =>
                            have H := HA.out
                            clear HA
                            simp only [mortiseref08_Expand.l1] at H
                            by_cases c36 : x11_3 < ji16
                            · rw [if_pos c36] at H
                              have c36b0 : decide (x11_3 < ji16) = true := decide_eq_true c36
                              clear c36
                              obtain ⟨ji37, hji37⟩ : ∃ j_ : Int, (wrap64 ((x6_3.length : Int) - ((rd_T37 l0 x7_2).f2))) = j_ := ⟨_, rfl⟩
                              replace H : (if 0 ≤ (ji37) then (if (ji37) < (x6_3.length : Int) then (if x6_3.length < 140737488355328 then (mortiseref08_Expand.l1 k3 l0 a1 (x6_3 ++ [rd x6_3 (ji37)]) x7_2 ji16 (wrap64 (x11_3 + 1)) ((rd_T37 l0 x7_2).f0) ((rd_T37 l0 x7_2).f1) ((rd_T37 l0 x7_2).f2)) else (none)) else (none)) else (none)) = some (r1, r2) := by first | (rw [hji37] at H; exact H) | (simp only [hji37] at H ⊢; exact H)
                              have hji37w : (IntKind.i64.wrap ((x6_3.length : Int) - ((rd_T37 l0 x7_2).f2))) = ji37 := (i64_w _).trans hji37
                              by_cases c38 : 0 ≤ (ji37)
                              · rw [if_pos c38] at H
                                have c38b0 : decide (0 ≤ (ji37)) = true := decide_eq_true c38
                                clear c38
                                by_cases c39 : (ji37) < (x6_3.length : Int)
                                · rw [if_pos c39] at H
                                  have c39b0 : decide ((ji37) < (x6_3.length : Int)) = true := decide_eq_true c39
                                  clear c39
                                  by_cases c40 : x6_3.length < 140737488355328
                                  · rw [if_pos c40] at H
                                    have LMc40 := Aside0.mk c40
                                    clear c40
                                    obtain ⟨y148, hy148⟩ : ∃ y_ : List Int, y_ = (x6_3 ++ [rd x6_3 (ji37)]) := ⟨_, rfl⟩
                                    replace H : (mortiseref08_Expand.l1 k3 l0 a1 y148 x7_2 ji16 (wrap64 (x11_3 + 1)) ((rd_T37 l0 x7_2).f0) ((rd_T37 l0 x7_2).f1) ((rd_T37 l0 x7_2).f2)) = some (r1, r2) := by first | (rw [hy148]; with_reducible exact H) | (have H2_ := (Option.bind_some _ _).symm.trans H; rw [hy148]; with_reducible exact H2_) | (have H2_ := (Option.bind_some _ _).symm.trans H; with_reducible exact H2_) | with_reducible exact H | (rw [hy148]; exact H) | exact H
                                    have Ny148 := Aside0.mk hy148
                                    clear hy148
                                    have H' := Aside0.mk H
                                    clear H
                                    obtain ⟨Ao41, co41, eo41⟩ := Kd.R_slice HO_6.out
                                    subst eo41
                                    have hcz42_0 : wr.cell? ⟨gb142, 0, none⟩ = some (.int .u8 ((rd_T37 l0 x7_2).f0)) := (blk_cell BK142.out 0).trans rfl
                                    have hcz42_1 : wr.cell? ⟨gb142, 1, none⟩ = some (.int .i64 ((rd_T37 l0 x7_2).f1)) := (blk_cell BK142.out 1).trans rfl
                                    have hcz42_2 : wr.cell? ⟨gb142, 2, none⟩ = some (.int .i64 ((rd_T37 l0 x7_2).f2)) := (blk_cell BK142.out 2).trans rfl
                                    have hfz42_0 := blk_frozen BK142.out 0
                                    have hfz42_1 := blk_frozen BK142.out 1
                                    have hfz42_2 := blk_frozen BK142.out 2
                                    have p147 : 0 ≤ ((ji37) : Int) := of_decide_eq_true (by first | (with_reducible assumption) | assumption)
                                    have q147 : (ji37) < (x6_3.length : Int) := of_decide_eq_true (by first | (with_reducible assumption) | assumption)
                                    obtain ⟨ad147, e147, hx147_0⟩ := Kd.at_int (Kd.R_reads' HO_6.out).2.2 (ji37) p147 q147
                                    cases e147
                                    replace p147 := eq_true p147
                                    replace q147 := eq_true q147
                                    go_wp2_with (first | ((with_reducible refine gate_builtin (b := .append) (xs := #[.tmp 59, .tmp 68]) rfl ?_); at_builtin; refine Kd.R_append (Kd.int .u8) (w0 := w) w.heap.size rfl (.tmp 59) (.tmp 68) 33 5 (.int .u8 0) 1 rfl Try.underlying33 info5 rfl (by decide) (by omega) (.slice (some ad147) x6_3.length co41) x6_3 (rd x6_3 (ji37)) [.int .u8 (rd x6_3 (ji37))] (fun _ => True) (fun _ => False) rfl rfl ?aP (fun _ hk => hk.elim) ?aF ?aO ?aB ?aS ?aL ?_; (case aP => exact rfl); (case aB => exact (by repeat (first | (with_reducible first | exact HB.out | apply below_alloc | apply pw_below_drewN | apply below_drew1 | refine below_set ?_ GE142.out) | exact HB.out))); (case aF => exact (fun _ _ => trivial)); (case aO => exact (by (with_reducible repeat (first | apply Kd.R_alloc | apply Kd.R_drewN | apply Kd.R_drew)); exact HO_6.out)); (case aS => exact (below_size (by repeat (first | (with_reducible first | exact HB.out | apply below_alloc | apply pw_below_drewN | apply below_drew1 | refine below_set ?_ GE142.out) | exact HB.out)))); (case aL => have := LMc40.out; omega); intro v149 w43 ho hb hg hat; rw [← Ny148.out] at ho; have n0_ := Aside0.mk (blk_grown (g := gb142) (o := .cells #[.int .u8 ((rd_T37 l0 x7_2).f0), .int .i64 ((rd_T37 l0 x7_2).f1), .int .i64 ((rd_T37 l0 x7_2).f2)] 37 (0, 0)) (by (with_reducible repeat (first | refine blk_drewN ?_ _ | refine blk_drew ?_ | refine blk_alloc ?_ _)); exact BK142.out) hg (Kd.R_ne HO_6.out BK142.out (by decide))); have n1_ := Aside0.mk (hb); have n2_ := Aside0.mk (ho); clear BK142; clear HB; clear HO_6; have BK142 := n0_; have HB := n1_; have HO150 := n2_; clear n0_ n1_ n2_; clear ho hb hg hat))
                                    go_roundg k3
                                    case measure => have := HJ2.out; have := HK2.out; have := HK3.out; omega
                                    case rel => exact ⟨(y148), (wrap64 (x11_3 + 1)), (by first | rfl | (simp; done) | (simp [*]; done)), H', ⟨by have := HJ2.out; have := HK2.out; have := HK3.out; omega⟩, ⟨by (with_reducible repeat (first | apply Kd.R_alloc | apply Kd.R_drewN | apply Kd.R_drew)); exact HO150.out⟩, ⟨by (with_reducible repeat (first | refine blk_drewN ?_ _ | refine blk_drew ?_ | refine blk_alloc ?_ _)); exact BK142.out⟩, ⟨by repeat (first | (with_reducible first | exact HB.out | apply below_alloc | apply pw_below_drewN | apply below_drew1 | refine below_set ?_ GE142.out) | exact HB.out)⟩⟩
                                  · rw [if_neg c40] at H
                                    exact absurd H (by simp)
                                · rw [if_neg c39] at H
                                  exact absurd H (by simp)
                              · rw [if_neg c38] at H
                                exact absurd H (by simp)
                            · rw [if_neg c36] at H
                              have c36b0 : decide (x11_3 < ji16) = false := decide_eq_false c36
                              clear c36
                              have H' := Aside0.mk H
                              clear H
                              go_wp2
                              go_roundg k3
                              case measure => have := HJ2.out; have := HK2.out; have := HK3.out; omega
                              case rel => exact ⟨(x6_3), (wrap64 (x7_2 + 1)), (by first | rfl | (simp; done) | (simp [*]; done)), H', ⟨by have := HJ2.out; have := HK2.out; have := HK3.out; omega⟩, ⟨by (with_reducible repeat (first | apply Kd.R_alloc | apply Kd.R_drewN | apply Kd.R_drew)); exact HO_6.out⟩, ⟨by repeat (first | (with_reducible first | exact HB.out | apply below_alloc | apply pw_below_drewN | apply below_drew1 | refine below_set ?_ GE142.out) | exact HB.out)⟩⟩
                · replace c9 := Bool.eq_false_iff.mpr c9
                  subst c9
                  have H1 : (some ((⟨#[]⟩ : ByteArray), 1)) = some (r1, r2) := by rw [if_neg (show ¬ (false = true) by decide)] at H; exact H
                  clear H
                  have H := H1
                  clear H1
                  simp only [Option.some.injEq, Prod.mk.injEq] at H
                  obtain ⟨rfl, rfl⟩ := H
                  have p141 : 0 ≤ (x7_2 : Int) := of_decide_eq_true (by first | (with_reducible assumption) | assumption)
                  have q141 : x7_2 < (l0.length : Int) := of_decide_eq_true (by first | (with_reducible assumption) | assumption)
                  obtain ⟨ad141, e141, hx141_0, hx141_1, hx141_2⟩ := at_T37 HR0.out x7_2 p141 q141
                  cases e141
                  replace hx141_0 := (HB.out.cell (World.block_lt_of_cell? w _ hx141_0)).trans hx141_0
                  replace hx141_1 := (HB.out.cell (World.block_lt_of_cell? w _ hx141_1)).trans hx141_1
                  replace hx141_2 := (HB.out.cell (World.block_lt_of_cell? w _ hx141_2)).trans hx141_2
                  replace p141 := eq_true p141
                  replace q141 := eq_true q141
                  go_wp2_with (first | ((with_reducible refine gate_dst (N := 8) rfl ?_); refine box_event ?hg (N := 8) ?hd (cs := #[.int .u8 0, .int .i64 0, .int .i64 0]) (t := 37) ?hr ?_; (case hd => rfl); (case hg => rfl); (case hr => first | (go_simp; done) | (go_simp; rfl)); intro gb142 hg w44 hbox hb; have n0_ := Aside0.mk (Kd.R_below (by (with_reducible repeat (first | apply Kd.R_alloc | apply Kd.R_drewN | apply Kd.R_drew)); exact HO_6.out) hb); have n1_ := Aside0.mk (below_step (by repeat (first | (with_reducible first | exact HB.out | apply below_alloc | apply pw_below_drewN | apply below_drew1) | exact HB.out)) hb); have n2_ := Aside0.mk (hbox); have n3_ := Aside0.mk ((by rw [hg]; exact (below_size (by repeat (first | (with_reducible first | exact HB.out | apply below_alloc | apply pw_below_drewN | apply below_drew1) | exact HB.out))) : w.heap.size ≤ gb142)); have n4_ := Aside0.mk ((by rw [hg]; exact (below_size (by repeat (first | (with_reducible first | exact HB.out | apply below_alloc | apply pw_below_drewN | apply below_drew1) | exact HB.out))) : w.heap.size ≤ gb142)); clear HO_6; clear HB; have HO_6 := n0_; have HB := n1_; have BK142 := n2_; have GW142 := n3_; have GE142 := n4_; clear n0_ n1_ n2_ n3_ n4_; clear hb hbox hg; have hcz45_0 : w44.cell? ⟨gb142, 0, none⟩ = some (.int .u8 0) := (blk_cell BK142.out 0).trans rfl; have hcz45_1 : w44.cell? ⟨gb142, 1, none⟩ = some (.int .i64 0) := (blk_cell BK142.out 1).trans rfl; have hcz45_2 : w44.cell? ⟨gb142, 2, none⟩ = some (.int .i64 0) := (blk_cell BK142.out 2).trans rfl; have hfz45_0 := blk_frozen BK142.out 0; have hfz45_1 := blk_frozen BK142.out 1; have hfz45_2 := blk_frozen BK142.out 2) | ((with_reducible refine gate_callee (f := 16) rfl ?_); refine goesL_ (some 29) rfl rfl Try.func16 (by kernel_rfl) rfl #[.agg #[.int .u8 ((rd_T37 l0 x7_2).f0), .int .i64 ((rd_T37 l0 x7_2).f1), .int .i64 ((rd_T37 l0 x7_2).f2)]] rfl (by (try simp only [List.map_toArray, List.map_cons, List.map_nil]); first | done | rfl | (simp only [List.length_drop, List.length_take]; rfl)) ?_; (with_reducible refine (mortiseref08_May.calls ((rd_T37 l0 x7_2).f0) ((rd_T37 l0 x7_2).f1) ((rd_T37 l0 x7_2).f2) false _ A8.out).mono ?_); rintro e w46 ⟨rfl, hb⟩; refine ⟨_, rfl, ?_⟩; have n0_ := Aside0.mk (Kd.R_below (by (with_reducible repeat (first | apply Kd.R_alloc | apply Kd.R_drewN | apply Kd.R_drew)); exact (Kd.R_mono (Kd.R_far (p := ⟨gb142, 2, none⟩) (Kd.R_far (p := ⟨gb142, 1, none⟩) (Kd.R_far (p := ⟨gb142, 0, none⟩) (Kd.R_types HO_6.out BK142.out (by decide)) (fun _ hk => hk.2) (.int .u8 ((rd_T37 l0 x7_2).f0))) (fun _ hk => hk.2) (.int .i64 ((rd_T37 l0 x7_2).f1))) (fun _ hk => hk.2) (.int .i64 ((rd_T37 l0 x7_2).f2))) (fun _ h_ => h_.1))) hb); have n1_ := Aside0.mk (blk_below (g := gb142) (o := .cells #[.int .u8 ((rd_T37 l0 x7_2).f0), .int .i64 ((rd_T37 l0 x7_2).f1), .int .i64 ((rd_T37 l0 x7_2).f2)] 37 (0, 0)) (by (with_reducible repeat (first | refine blk_drewN ?_ _ | refine blk_drew ?_ | refine blk_alloc ?_ _)); refine blk_put (cs := #[.int .u8 ((rd_T37 l0 x7_2).f0), .int .i64 ((rd_T37 l0 x7_2).f1), .int .i64 0]) ?_ 2 _ rfl; (with_reducible repeat (first | refine blk_drewN ?_ _ | refine blk_drew ?_ | refine blk_alloc ?_ _)); refine blk_put (cs := #[.int .u8 ((rd_T37 l0 x7_2).f0), .int .i64 0, .int .i64 0]) ?_ 1 _ rfl; (with_reducible repeat (first | refine blk_drewN ?_ _ | refine blk_drew ?_ | refine blk_alloc ?_ _)); refine blk_put (cs := #[.int .u8 0, .int .i64 0, .int .i64 0]) ?_ 0 _ rfl; (with_reducible repeat (first | refine blk_drewN ?_ _ | refine blk_drew ?_ | refine blk_alloc ?_ _)); exact BK142.out) hb); have n2_ := Aside0.mk (below_step (by repeat (first | (with_reducible first | exact HB.out | apply below_alloc | apply pw_below_drewN | apply below_drew1 | refine below_set ?_ GE142.out) | exact HB.out)) hb); clear HO_6; clear BK142; clear HB; have HO_6 := n0_; have BK142 := n1_; have HB := n2_; clear n0_ n1_ n2_; (try clear hb); (try clear hb2); (try clear hk); (try clear hi)))
                  go_ret2
                  exact ⟨by first | rfl | (simp [errW_none, errW_some] <;> rfl) | (simp [*, errW_none, errW_some] <;> rfl), by repeat (first | (with_reducible first | exact HB.out | apply below_alloc | apply pw_below_drewN | apply below_drew1 | refine below_set ?_ GE142.out) | exact HB.out)⟩
              · rw [if_neg c7] at H
                exact absurd H (by simp)
            · rw [if_neg c6] at H
              have c6b0 : decide (x7_2 < (l0.length : Int)) = false := decide_eq_false c6
              clear c6
              simp only [Option.some.injEq, Prod.mk.injEq] at H
              obtain ⟨rfl, rfl⟩ := H
              have hcv47 := own_string (P := Try.prog) Try.underlying33 Try.underlying5 Try.underlying9 (Kd.own_of_R HO_6.out)
              go_wp2
              go_ret2
              exact ⟨by first | rfl | (simp [errW_none, errW_some] <;> rfl) | (simp [*, errW_none, errW_some] <;> rfl), by repeat (first | (with_reducible first | exact HB.out | apply below_alloc | apply pw_below_drewN | apply below_drew1) | exact HB.out)⟩

/-! ### mortiselaw08_MatchExpands: function 3 -/
def mortiselaw08_MatchExpands.j0 : Nat → List (S37) → Int → Bool → Option (Bool)
  | 0, _, _, _ => none
  | k + 1, x0, x1, x15 => if x15 = true then ((mortiselaw08_live.f k).bind fun t151 => (some t151)) else ((match_Expand.f k x0 x1).bind fun bt152 => ((mortiseref08_Expand.f k x0 x1).bind fun bt154 => (if bt152.1.toList = bt154.1.toList then (if bt152.2 = bt154.2 then ((mortiselaw08_live.f k).bind fun t156 => (some t156)) else (some false)) else (some false))))
def mortiselaw08_MatchExpands.f (k : Nat) (l0 : List (S37)) (a1 : Int) : Option (Bool) := if (l0.length : Int) > 300 then (mortiselaw08_MatchExpands.j0 k l0 a1 true) else (mortiselaw08_MatchExpands.j0 k l0 a1 (decide (a1 > 100000)))
theorem mortiselaw08_MatchExpands.mono_l : ∀ k, (∀ y0 y1 y2, LeO (mortiselaw08_MatchExpands.j0 k y0 y1 y2) (mortiselaw08_MatchExpands.j0 (k + 1) y0 y1 y2))
  | 0 => fun _ _ _ r h => by simp [mortiselaw08_MatchExpands.j0] at h
  | k + 1 => by
    have ih0 := mortiselaw08_MatchExpands.mono_l k
    · intro y0 y1 y2
      unfold mortiselaw08_MatchExpands.j0
      repeat' first
      | (with_reducible exact ih0 _ _ _)
      | (with_reducible exact match_Expand.mono _ _ _)
      | (with_reducible exact mortiselaw08_live.mono _)
      | (with_reducible exact mortiseref08_Expand.mono _ _ _)
      | (with_reducible exact LeO.refl _)
      | (with_reducible exact LeO.none _)
      | (with_reducible refine LeO.ite ?_ ?_)
      | (with_reducible refine LeO.bind ?_ (fun _ => ?_))
      | exact ih0 _ _ _
      | exact match_Expand.mono _ _ _
      | exact mortiselaw08_live.mono _
      | exact mortiseref08_Expand.mono _ _ _
      | exact LeO.none _
      | refine LeO.ite ?_ ?_
      | refine LeO.bind ?_ (fun _ => ?_)
theorem mortiselaw08_MatchExpands.mono : ∀ a0 a1 k, LeO (mortiselaw08_MatchExpands.f k a0 a1) (mortiselaw08_MatchExpands.f (k + 1) a0 a1) := by
  intro a0 a1 k
  have ih0 := mortiselaw08_MatchExpands.mono_l k
  unfold mortiselaw08_MatchExpands.f
  repeat' first
      | (with_reducible exact ih0 _ _ _)
      | (with_reducible exact match_Expand.mono _ _ _)
      | (with_reducible exact mortiselaw08_live.mono _)
      | (with_reducible exact mortiseref08_Expand.mono _ _ _)
      | (with_reducible exact LeO.refl _)
      | (with_reducible exact LeO.none _)
      | (with_reducible refine LeO.ite ?_ ?_)
      | (with_reducible refine LeO.bind ?_ (fun _ => ?_))
      | exact ih0 _ _ _
      | exact match_Expand.mono _ _ _
      | exact mortiselaw08_live.mono _
      | exact mortiseref08_Expand.mono _ _ _
      | exact LeO.none _
      | refine LeO.ite ?_ ?_
      | refine LeO.bind ?_ (fun _ => ?_)
set_option maxHeartbeats 8000000 in
set_option maxRecDepth 100000 in
theorem mortiselaw08_MatchExpands.calls (k : Nat) (A0 : Option Addr) (c0 : Nat) (l0 : List (S37)) (a1 : Int) (r : Bool) (w : World) (hr0 : Kd.C k37 w A0 l0.length l0) (hc0 : l0.length ≤ c0) (h : mortiselaw08_MatchExpands.f k l0 a1 = some r) :
    Calls Try.prog 3 #[.slice A0 l0.length c0, .int .i64 a1] w fun e w' => e = .returned (.bool r) ∧ Below w.heap.size w w' := by
  have HR0 := Aside0.mk hr0
  have HC0 := Aside0.mk hc0
  clear hr0 hc0
  have HB := Aside0.mk (Below.refl w.heap.size w)
  have H : (if (l0.length : Int) > 300 then (mortiselaw08_MatchExpands.j0 k l0 a1 true) else (mortiselaw08_MatchExpands.j0 k l0 a1 (decide (a1 > 100000)))) = some r := h
  clear h
  have HC3 := Aside0.mk H
  clear H
  go_enter Try.func3, Try.ntmps3
  go_upto_region 1 with (fail)
  go_cut [15] (fun v15 wc => ∃ (kq : Nat) (x15_2 : Bool), v15 = .bool x15_2 ∧ Aside0 (mortiselaw08_MatchExpands.j0 kq l0 a1 x15_2 = some r) ∧ Aside0 (kq ≤ k) ∧ Aside0 (Below w.heap.size w wc))
  case first =>
    have H := HC3.out
    clear HC3
    by_cases c4 : (l0.length : Int) > 300
    · rw [if_pos c4] at H
      have c4b0 : decide (300 < (l0.length : Int)) = true := decide_eq_true c4
      have c4b1 : decide (300 < l0.length) = true := decide_eq_true (by omega)
      clear c4
      (first | rw [c4b0] | (simp only [i64_w, i32_w]; rw [c4b0]) | skip)
      have H' := Aside0.mk H
      clear H
      go_wp2
      go_meet
      case rel => exact ⟨_, (true), (by first | rfl | (simp; done) | (simp [*]; done)), H', ⟨by first | omega | exact Nat.le_refl _⟩, ⟨by repeat (first | (with_reducible first | exact HB.out | apply below_alloc | apply pw_below_drewN | apply below_drew1) | exact HB.out)⟩⟩
    · rw [if_neg c4] at H
      have c4b0 : decide (300 < (l0.length : Int)) = false := decide_eq_false c4
      have c4b1 : decide (300 < l0.length) = false := decide_eq_false (by omega)
      clear c4
      (first | rw [c4b0] | (simp only [i64_w, i32_w]; rw [c4b0]) | skip)
      have H' := Aside0.mk H
      clear H
      go_wp2
      go_meet
      case rel => exact ⟨_, (decide (a1 > 100000)), (by first | rfl | (simp; done) | (simp [*]; done)), H', ⟨by first | omega | exact Nat.le_refl _⟩, ⟨by repeat (first | (with_reducible first | exact HB.out | apply below_alloc | apply pw_below_drewN | apply below_drew1) | exact HB.out)⟩⟩
  case rest =>
    clear HC3
    try clear p2
    try clear c3
    try clear c4
    try clear c4b0
    try clear c4b1
    obtain ⟨kq, x15_2, rfl, HA, HJ2, HB⟩ := hcut
    cases kq with
    | zero => exact absurd HA.out (by simp [mortiselaw08_MatchExpands.j0])
    | succ kj2 =>
      have H := HA.out
      clear HA
      simp only [mortiselaw08_MatchExpands.j0] at H
      by_cases c5 : x15_2 = true
      · subst c5
        have H1 : ((mortiselaw08_live.f kj2).bind fun t151 => (some t151)) = some r := by rw [if_pos rfl] at H; exact H
        clear H
        have H := H1
        clear H1
        replace H := Option.bind_eq_some_iff.mp H
        obtain ⟨t151, A60, H⟩ := H
        replace H : (some t151) = some r := H
        have A6 := Aside0.mk A60
        clear A60
        obtain rfl := Option.some.inj H
        go_wp2_with (first | ((with_reducible refine gate_callee (f := 9) rfl ?_); refine goesL_ (some 16) rfl rfl Try.func9 (by kernel_rfl) rfl #[] rfl (by (try simp only [List.map_toArray, List.map_cons, List.map_nil]); first | done | rfl | (simp only [List.length_drop, List.length_take]; rfl)) ?_; (with_reducible refine (mortiselaw08_live.calls kj2  t151 _ A6.out).mono ?_); rintro e w7 ⟨rfl, hb⟩; refine ⟨_, rfl, ?_⟩; have n0_ := Aside0.mk (below_step (by repeat (first | (with_reducible first | exact HB.out | apply below_alloc | apply pw_below_drewN | apply below_drew1) | exact HB.out)) hb); clear HB; have HB := n0_; clear n0_; (try clear hb); (try clear hb2); (try clear hk); (try clear hi)))
        go_ret
        exact ⟨by first | rfl | (simp [errW_none, errW_some] <;> rfl) | (simp [*, errW_none, errW_some] <;> rfl), by repeat (first | (with_reducible first | exact HB.out | apply below_alloc | apply pw_below_drewN | apply below_drew1) | exact HB.out)⟩
      · replace c5 := Bool.eq_false_iff.mpr c5
        subst c5
        have H1 : ((match_Expand.f kj2 l0 a1).bind fun bt152 => ((mortiseref08_Expand.f kj2 l0 a1).bind fun bt154 => (if bt152.1.toList = bt154.1.toList then (if bt152.2 = bt154.2 then ((mortiselaw08_live.f kj2).bind fun t156 => (some t156)) else (some false)) else (some false)))) = some r := by rw [if_neg (show ¬ (false = true) by decide)] at H; exact H
        clear H
        have H := H1
        clear H1
        replace H := Option.bind_eq_some_iff.mp H
        obtain ⟨⟨t152, t153⟩, A80, H⟩ := H
        replace H : ((mortiseref08_Expand.f kj2 l0 a1).bind fun bt154 => (if t152.toList = bt154.1.toList then (if t153 = bt154.2 then ((mortiselaw08_live.f kj2).bind fun t156 => (some t156)) else (some false)) else (some false))) = some r := H
        have A8 := Aside0.mk A80
        clear A80
        replace H := Option.bind_eq_some_iff.mp H
        obtain ⟨⟨t154, t155⟩, A90, H⟩ := H
        replace H : (if t152.toList = t154.toList then (if t153 = t155 then ((mortiselaw08_live.f kj2).bind fun t156 => (some t156)) else (some false)) else (some false)) = some r := H
        have A9 := Aside0.mk A90
        clear A90
        by_cases c10 : t152.toList = t154.toList
        · rw [if_pos c10] at H
          have c10b0 : (t152.toList == t154.toList) = true := beq_iff_eq.mpr c10
          have c10b1 : (t152.toList != t154.toList) = false := bne_eq_false_iff_eq.mpr c10
          clear c10
          by_cases c11 : t153 = t155
          · rw [if_pos c11] at H
            have c11b0 : (t153 == t155) = true := beq_iff_eq.mpr c11
            have c11b1 : (t153 != t155) = false := bne_eq_false_iff_eq.mpr c11
            clear c11
            replace H := Option.bind_eq_some_iff.mp H
            obtain ⟨t156, A120, H⟩ := H
            replace H : (some t156) = some r := H
            have A12 := Aside0.mk A120
            clear A120
            obtain rfl := Option.some.inj H
            go_wp2_with (first | ((with_reducible refine gate_callee (f := 10) rfl ?_); refine goesL_ (some 20) rfl rfl Try.func10 (by kernel_rfl) rfl #[.slice A0 l0.length c0, .int .i64 a1] rfl (by (try simp only [List.map_toArray, List.map_cons, List.map_nil]); first | done | rfl | (simp only [List.length_drop, List.length_take]; rfl)) ?_; (with_reducible refine (match_Expand.calls kj2 _ _ l0 a1 t152 t153 _ ?side1 ?side2 A8.out).mono ?_); (case side1 => repeat (first | exact (Kd.C_below HR0.out HB.out) | (with_reducible refine Kd.C_alloc ?_ _) | (with_reducible refine Kd.C_drewN ?_ _) | (with_reducible refine Kd.C_drew ?_))); (case side2 => exact HC0.out); rintro e w13 ⟨rfl, hb⟩; refine ⟨_, rfl, ?_⟩; have n0_ := Aside0.mk (below_step (by repeat (first | (with_reducible first | exact HB.out | apply below_alloc | apply pw_below_drewN | apply below_drew1) | exact HB.out)) hb); clear HB; have HB := n0_; clear n0_; (try clear hb); (try clear hb2); (try clear hk); (try clear hi)) | ((with_reducible refine gate_callee (f := 11) rfl ?_); refine goesL_ (some 26) rfl rfl Try.func11 (by kernel_rfl) rfl #[.slice A0 l0.length c0, .int .i64 a1] rfl (by (try simp only [List.map_toArray, List.map_cons, List.map_nil]); first | done | rfl | (simp only [List.length_drop, List.length_take]; rfl)) ?_; (with_reducible refine (mortiseref08_Expand.calls kj2 _ _ l0 a1 t154 t155 _ ?side1 ?side2 A9.out).mono ?_); (case side1 => repeat (first | exact (Kd.C_below HR0.out HB.out) | (with_reducible refine Kd.C_alloc ?_ _) | (with_reducible refine Kd.C_drewN ?_ _) | (with_reducible refine Kd.C_drew ?_))); (case side2 => exact HC0.out); rintro e w14 ⟨rfl, hb⟩; refine ⟨_, rfl, ?_⟩; have n0_ := Aside0.mk (below_step (by repeat (first | (with_reducible first | exact HB.out | apply below_alloc | apply pw_below_drewN | apply below_drew1) | exact HB.out)) hb); clear HB; have HB := n0_; clear n0_; (try clear hb); (try clear hb2); (try clear hk); (try clear hi)) | (go_at_call 9; (with_reducible refine (mortiselaw08_live.calls kj2  t156 _ A12.out).mono ?_); rintro e w15 ⟨rfl, hb⟩; have n0_ := Aside0.mk (below_step (by repeat (first | (with_reducible first | exact HB.out | apply below_alloc | apply pw_below_drewN | apply below_drew1) | exact HB.out)) hb); clear HB; have HB := n0_; clear n0_; (try clear hb); (try clear hb2); (try clear hk); (try clear hi)))
            go_ret
            exact ⟨by first | rfl | (simp [errW_none, errW_some] <;> rfl) | (simp [*, errW_none, errW_some] <;> rfl), by repeat (first | (with_reducible first | exact HB.out | apply below_alloc | apply pw_below_drewN | apply below_drew1) | exact HB.out)⟩
          · rw [if_neg c11] at H
            have c11b0 : (t153 == t155) = false := beq_eq_false_iff_ne.mpr c11
            have c11b1 : (t153 != t155) = true := bne_iff_ne.mpr c11
            obtain rfl := Option.some.inj H
            go_wp2_with (first | ((with_reducible refine gate_callee (f := 10) rfl ?_); refine goesL_ (some 20) rfl rfl Try.func10 (by kernel_rfl) rfl #[.slice A0 l0.length c0, .int .i64 a1] rfl (by (try simp only [List.map_toArray, List.map_cons, List.map_nil]); first | done | rfl | (simp only [List.length_drop, List.length_take]; rfl)) ?_; (with_reducible refine (match_Expand.calls kj2 _ _ l0 a1 t152 t153 _ ?side1 ?side2 A8.out).mono ?_); (case side1 => repeat (first | exact (Kd.C_below HR0.out HB.out) | (with_reducible refine Kd.C_alloc ?_ _) | (with_reducible refine Kd.C_drewN ?_ _) | (with_reducible refine Kd.C_drew ?_))); (case side2 => exact HC0.out); rintro e w16 ⟨rfl, hb⟩; refine ⟨_, rfl, ?_⟩; have n0_ := Aside0.mk (below_step (by repeat (first | (with_reducible first | exact HB.out | apply below_alloc | apply pw_below_drewN | apply below_drew1) | exact HB.out)) hb); clear HB; have HB := n0_; clear n0_; (try clear hb); (try clear hb2); (try clear hk); (try clear hi)) | ((with_reducible refine gate_callee (f := 11) rfl ?_); refine goesL_ (some 26) rfl rfl Try.func11 (by kernel_rfl) rfl #[.slice A0 l0.length c0, .int .i64 a1] rfl (by (try simp only [List.map_toArray, List.map_cons, List.map_nil]); first | done | rfl | (simp only [List.length_drop, List.length_take]; rfl)) ?_; (with_reducible refine (mortiseref08_Expand.calls kj2 _ _ l0 a1 t154 t155 _ ?side1 ?side2 A9.out).mono ?_); (case side1 => repeat (first | exact (Kd.C_below HR0.out HB.out) | (with_reducible refine Kd.C_alloc ?_ _) | (with_reducible refine Kd.C_drewN ?_ _) | (with_reducible refine Kd.C_drew ?_))); (case side2 => exact HC0.out); rintro e w17 ⟨rfl, hb⟩; refine ⟨_, rfl, ?_⟩; have n0_ := Aside0.mk (below_step (by repeat (first | (with_reducible first | exact HB.out | apply below_alloc | apply pw_below_drewN | apply below_drew1) | exact HB.out)) hb); clear HB; have HB := n0_; clear n0_; (try clear hb); (try clear hb2); (try clear hk); (try clear hi)))
            go_ret
            exact ⟨by first | rfl | (simp [errW_none, errW_some] <;> rfl) | (simp [*, errW_none, errW_some] <;> rfl), by repeat (first | (with_reducible first | exact HB.out | apply below_alloc | apply pw_below_drewN | apply below_drew1) | exact HB.out)⟩
        · rw [if_neg c10] at H
          have c10b0 : (t152.toList == t154.toList) = false := beq_eq_false_iff_ne.mpr c10
          have c10b1 : (t152.toList != t154.toList) = true := bne_iff_ne.mpr c10
          obtain rfl := Option.some.inj H
          go_wp2_with (first | ((with_reducible refine gate_callee (f := 10) rfl ?_); refine goesL_ (some 20) rfl rfl Try.func10 (by kernel_rfl) rfl #[.slice A0 l0.length c0, .int .i64 a1] rfl (by (try simp only [List.map_toArray, List.map_cons, List.map_nil]); first | done | rfl | (simp only [List.length_drop, List.length_take]; rfl)) ?_; (with_reducible refine (match_Expand.calls kj2 _ _ l0 a1 t152 t153 _ ?side1 ?side2 A8.out).mono ?_); (case side1 => repeat (first | exact (Kd.C_below HR0.out HB.out) | (with_reducible refine Kd.C_alloc ?_ _) | (with_reducible refine Kd.C_drewN ?_ _) | (with_reducible refine Kd.C_drew ?_))); (case side2 => exact HC0.out); rintro e w18 ⟨rfl, hb⟩; refine ⟨_, rfl, ?_⟩; have n0_ := Aside0.mk (below_step (by repeat (first | (with_reducible first | exact HB.out | apply below_alloc | apply pw_below_drewN | apply below_drew1) | exact HB.out)) hb); clear HB; have HB := n0_; clear n0_; (try clear hb); (try clear hb2); (try clear hk); (try clear hi)) | ((with_reducible refine gate_callee (f := 11) rfl ?_); refine goesL_ (some 26) rfl rfl Try.func11 (by kernel_rfl) rfl #[.slice A0 l0.length c0, .int .i64 a1] rfl (by (try simp only [List.map_toArray, List.map_cons, List.map_nil]); first | done | rfl | (simp only [List.length_drop, List.length_take]; rfl)) ?_; (with_reducible refine (mortiseref08_Expand.calls kj2 _ _ l0 a1 t154 t155 _ ?side1 ?side2 A9.out).mono ?_); (case side1 => repeat (first | exact (Kd.C_below HR0.out HB.out) | (with_reducible refine Kd.C_alloc ?_ _) | (with_reducible refine Kd.C_drewN ?_ _) | (with_reducible refine Kd.C_drew ?_))); (case side2 => exact HC0.out); rintro e w19 ⟨rfl, hb⟩; refine ⟨_, rfl, ?_⟩; have n0_ := Aside0.mk (below_step (by repeat (first | (with_reducible first | exact HB.out | apply below_alloc | apply pw_below_drewN | apply below_drew1) | exact HB.out)) hb); clear HB; have HB := n0_; clear n0_; (try clear hb); (try clear hb2); (try clear hk); (try clear hi)))
          go_ret
          exact ⟨by first | rfl | (simp [errW_none, errW_some] <;> rfl) | (simp [*, errW_none, errW_some] <;> rfl), by repeat (first | (with_reducible first | exact HB.out | apply below_alloc | apply pw_below_drewN | apply below_drew1) | exact HB.out)⟩

end Go.Proofs.Ytgalimhogolbjaa.PMatchAll

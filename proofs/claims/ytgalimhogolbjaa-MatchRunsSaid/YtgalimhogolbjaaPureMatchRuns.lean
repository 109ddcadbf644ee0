/- Proved: a run of one byte comes to few tokens, and they expand to it. Conditions: none beyond the card's own. -/
import Derived.Test.YtgalimhogolbjaaMatchCost
namespace Go.Proofs.Ytgalimhogolbjaa.Pure
open Go Go.RowKit Go.Proofs.Ytgalimhogolbjaa.PMatchAll Go.Proofs.YtgalimhogolbjaaW.PrintWords Go.Proofs.YtgalimhogolbjaaW.PrintLast Go.Proofs.Ytgalimhogolbjaa.Fnd

theorem strOfNums_size (l : List Int) : (strOfNums l).size = l.length := by
  show (strOfNums l).data.size = l.length
  simp [strOfNums]
theorem strOfNums_back (l : List Int) (h : ∀ b ∈ l, 0 ≤ b ∧ b ≤ 255) : bytesOf (strOfNums l) = l := by
  simp only [strOfNums, bytesOf]
  induction l with
  | nil => rfl
  | cons b l ih =>
    have hb := h b (by simp)
    have := ih fun x hx => h x (by simp [hx])
    simp only [List.map_cons, List.cons.injEq]
    refine ⟨?_, by simpa using this⟩
    rw [UInt8.toNat_ofNat', Nat.mod_eq_of_lt (by omega)]
    omega
theorem runs_last (n : Nat) (hn : n ≤ 20000) (a : Int) (ha : 0 ≤ a ∧ a ≤ 255) : Ev (fun k => (match_Find.f (strOfNums (List.replicate n a))).bind fun t207 => ((match_Expand.f k t207 (n : Int)).bind fun bt210 => (if (t207.length : Int) ≤ (wrap64 (3 + (wrap64 (Int.tdiv (n : Int) 200)))) then (if bt210.2 = 0 then (if bt210.1.toList = (strOfNums (List.replicate n a)).toList then ((mortiselaw08_live.f k).bind fun t212 => (some t212)) else (some false)) else (some false)) else (some false)))) true := by
  have hs : (strOfNums (List.replicate n a)).size = n := by rw [strOfNums_size, List.length_replicate]
  have hB := strOfNums_back (List.replicate n a) (fun b hb => by rw [List.eq_of_mem_replicate hb]; exact ha)
  have hc : ∀ j, j < (strOfNums (List.replicate n a)).size → bt (strOfNums (List.replicate n a)) ((j : Nat) : Int) = a := by
    intro j hj
    rw [← B_at, hB, List.getD_eq_getElem?_getD, List.getElem?_replicate, if_pos (by omega)]
    rfl
  have hlen := run_find _ a hc
  rw [hs] at hlen
  have hle := find_length (strOfNums (List.replicate n a))
  have he : expA (n : Int) (find (strOfNums (List.replicate n a))) = (strOfNums (List.replicate n a), 0) := by
    rw [expA_run (find_run _ []) (by rw [List.nil_append, bytesOf_length]; omega) (by omega), List.nil_append, strOfNums_bytesOf]
  refine Ev.bind (a := find (strOfNums (List.replicate n a))) (Ev.congr (fun _ => find_small _ (by omega)) (Ev.now _)) ?_
  refine Ev.bind (expand_ev (n : Int) (find _) (by omega)) ?_
  rw [he]
  refine Ev.congr (fun _ => ?_) liveSome_ev
  have hd : Int.tdiv (n : Int) 200 = ((n / 200 : Nat) : Int) := by rw [Int.tdiv_eq_ediv_of_nonneg (by omega)]; rfl
  rw [hd, w64 (n := ((n / 200 : Nat) : Int)) (by omega) (by omega), w64 (by omega) (by omega), if_pos (by omega), if_pos rfl, if_pos rfl]
theorem runs_l0 (n : Nat) (hn : n ≤ 20000) (a : Int) (ha : 0 ≤ a ∧ a ≤ 255) : ∀ (d i : Nat), i + d = n → Ev (fun k => mortiselaw08_MatchRuns.l0 k a (n : Int) (List.replicate i a ++ List.replicate d 0) (i : Int)) true := by
  intro d
  induction d with
  | zero =>
    intro i hi
    obtain rfl : i = n := by omega
    refine Ev.step (fun k => ?_) (runs_last i hn a ha)
    simp only [mortiselaw08_MatchRuns.l0]
    rw [if_neg (by omega), List.replicate_zero, List.append_nil]
  | succ d ih =>
    intro i hi
    refine Ev.step (fun k => ?_) (ih (i + 1) (by omega))
    simp only [mortiselaw08_MatchRuns.l0]
    have e : (List.replicate i a ++ List.replicate (d + 1) 0).set ((i : Int)).toNat a = List.replicate (i + 1) a ++ List.replicate d 0 := by
      rw [Int.toNat_natCast, List.set_append_right _ _ (by simp), List.length_replicate, Nat.sub_self, List.replicate_succ (n := d), List.set_cons_zero, List.replicate_succ' (n := i), List.append_assoc]
      rfl
    rw [if_pos (by omega), if_pos (by omega), if_pos (by simp; omega), w64 (by omega) (by omega), e]
    rfl
theorem MatchRuns : mortiselaw08_MatchRuns.Pure := by
  intro a n ha hn
  have ha2 : 0 ≤ a ∧ a ≤ 255 := by
    simp only [Lit.wf, Bool.and_eq_true, decide_eq_true_eq] at ha
    have h1 : (IntKind.u8).min = 0 := by decide
    have h2 : (IntKind.u8).max = 255 := by decide
    omega
  refine Ev.rounds (r := true) ?_
  unfold mortiselaw08_MatchRuns.f
  by_cases h0 : n < 0
  · simp only [if_pos h0]
    exact Ev.step (f := fun k => (mortiselaw08_live.f k).bind fun t => some t) (fun k => rfl) liveSome_ev
  · simp only [if_neg h0]
    by_cases h1 : n > 20000
    · refine Ev.step (f := fun k => (mortiselaw08_live.f k).bind fun t => some t) (fun k => ?_) liveSome_ev
      simp only [mortiselaw08_MatchRuns.j0]
      rw [if_pos (decide_eq_true h1)]
    · obtain ⟨m, rfl⟩ : ∃ m : Nat, n = (m : Int) := ⟨n.toNat, by omega⟩
      have := runs_l0 m (by omega) a ha2 m 0 (by omega)
      refine Ev.step (fun k => ?_) this
      simp only [mortiselaw08_MatchRuns.j0]
      rw [if_neg (by simpa using h1), if_pos (by omega), if_pos (by omega)]
      rfl

end Go.Proofs.Ytgalimhogolbjaa.Pure

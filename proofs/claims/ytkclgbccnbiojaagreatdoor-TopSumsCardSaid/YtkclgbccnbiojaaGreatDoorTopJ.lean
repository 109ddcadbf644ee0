import Derived.Test.YtkclgbccnbiojaaGreatDoorTopH
import Derived.Test.YtkclgbccnbiojaaGreatDoorTopI
set_option linter.unusedVariables false
set_option linter.unusedSimpArgs false
namespace Go.Proofs.YtkclgbccnbiojaaGreatDoor.SX
open Go.Proofs Go.Proofs.YtkclgbccnbiojaaGreatDoor.Mor
set_option maxRecDepth 1000000
set_option maxHeartbeats 0
theorem okG : okM mvG 1100 = true := by kernel_rfl
theorem okD : okM mvD 1104 = true := by kernel_rfl
theorem okN : okM [] 1100 = true := by kernel_rfl
section
variable {ρ0 : Rn} {H0 : Nat → Option AObj} {w0 : World}
def QT (ρ0 : Rn) (H0 : Nat → Option AObj) (w0 : World) (x : Exit) (a : Act) (w : World) : Prop := (x = .normal ∨ x = .ret) ∧ ∃ pc : Cs, Holds pc ∧ SL Tryz.prog 115 [] ρ0 H0 w0 (stP [(6, .bool false true)] [] 1100 pc []) a w
theorem stp {c y : Code} {st st' : St} {ks : List Nat} {m : List Mv} {nx : Nat} {Q : Exit → Act → World → Prop} {a : Act} {w : World} (hw : wf 115 c = true) (h : wkX 115 ks m nx (exec c tT sP 1000 st) = some (.normal, st')) (hok : okM m nx = true) (hpc : Holds st'.g.pc) (hd : st.df = []) (hno : isNo st.pm = true) (hv : st'.g.h.v = fun _ => none) (hs : SL Tryz.prog 115 [] ρ0 H0 w0 st a w)
    (k : ∀ a' w', SL Tryz.prog 115 [] ρ0 H0 w0 st' a' w' → y.wp Tryz.prog Q a' w') : (Code.seq c y).wp Tryz.prog Q a w := by
  refine wp_seq (wp_mono (exec_sl tT_ok tM sP_ok hw h hok (fun v h => by cases h) hpc hd hno rfl (by rw [hv]; exact FamOk.none) hs) ?_)
  rintro x a' w' ⟨hx, h1⟩
  obtain rfl := hx.normal
  exact k a' w' h1
theorem fin {c : Code} {st : St} {pc : Cs} {a : Act} {w : World} (hw : wf 115 c = true) (h : wkX 115 [6] [] 1100 (exec c tT sP 1000 st) = some (.ret, stP [(6, .bool false true)] [] 1100 pc [])) (hpc : Holds pc) (hd : st.df = []) (hno : isNo st.pm = true) (hs : SL Tryz.prog 115 [] ρ0 H0 w0 st a w) : c.wp Tryz.prog (QT ρ0 H0 w0) a w := by
  refine wp_mono (exec_sl tT_ok tM sP_ok hw h okN (fun v h => by cases h) hpc hd hno rfl FamOk.none hs) ?_
  rintro x a' w' ⟨hx, h1⟩
  obtain rfl := hx.ret
  exact ⟨.inr rfl, pc, hpc, h1⟩
theorem tailC {m w : Int} {S : List Nat} {a : Act} {w1 : World} (hn : S.length ≤ 1000) (hb : ∀ x ∈ S, x < 256) (hw : w = ((crcMore 0 S : Nat) : Int)) (hs : SL Tryz.prog 115 [] ρ0 H0 w0 (stL [99, 114, 99] S w m []) a w1) : (Code.seq S5h (.seq S5i S5j)).wp Tryz.prog (QT ρ0 H0 w0) a w1 := by
  obtain ⟨_, _, _, _, _, _, _, wh, wi, wj⟩ := wfs
  refine stp wh (hH1 m w S) okD trivial rfl rfl rfl hs fun a2 w2 h2 => ?_
  by_cases hS : S = []
  · subst hS
    refine stp wi (nlayE m w) okD plE_ok rfl rfl rfl (h2.alike rfl rfl rfl) fun a3 w3 h3 => ?_
    exact fin wj (nilE m w) (pcE_ok w (by rw [hw]; kernel_rfl)) rfl rfl (h3.alike rfl rfl rfl)
  · refine stp wi (layA m w S) okD (pcA_ok S hS hn hb) rfl rfl rfl (h2.alike rfl rfl rfl) fun a3 w3 h3 => ?_
    rw [outA_eq S hn hb] at h3
    exact fin wj (parD m w S _ _ _ _ _ _) (pcD_ok w S _ _ _ _ _ _ hS hn hb hw rfl rfl rfl rfl rfl rfl) rfl rfl (h3.alike rfl rfl rfl)
theorem tailA {m w : Int} {S : List Nat} {a : Act} {w1 : World} (hn : S.length ≤ 1000) (hb : ∀ x ∈ S, x < 256) (hw : w = ((adlerMore 1 S : Nat) : Int)) (hs : SL Tryz.prog 115 [] ρ0 H0 w0 (stL [97, 100, 108, 101, 114] S w m []) a w1) : (Code.seq S5h (.seq S5i S5j)).wp Tryz.prog (QT ρ0 H0 w0) a w1 := by
  obtain ⟨_, _, _, _, _, _, _, wh, wi, wj⟩ := wfs
  refine stp wh (hH2 m w S) okD trivial rfl rfl rfl hs fun a2 w2 h2 => ?_
  by_cases hS : S = []
  · subst hS
    refine stp wi (nlayF m w) okD plF_ok rfl rfl rfl (h2.alike rfl rfl rfl) fun a3 w3 h3 => ?_
    exact fin wj (nilF m w) (pcF_ok w (by rw [hw]; kernel_rfl)) rfl rfl (h3.alike rfl rfl rfl)
  · refine stp wi (layB m w S) okD (pcB_ok S hS hn hb) rfl rfl rfl (h2.alike rfl rfl rfl) fun a3 w3 h3 => ?_
    rw [outB_eq S hn hb] at h3
    exact fin wj (parG m w S _ _ _ _ _ _) (pcG_ok w S _ _ _ _ _ _ hS hn hb hw rfl rfl rfl rfl rfl rfl) rfl rfl (h3.alike rfl rfl rfl)
theorem fc_eq (S : List Nat) (k : Nat) (hb : ∀ x ∈ S, x < 256) : fc S (k : Int) = ((crcMore 0 S : Nat) : Int) := by
  show ((crcMore (crcMore 0 (List.take k S)) (List.take (S.length - k) (List.drop k S)) : Nat) : Int) = _
  rw [List.take_of_length_le (l := List.drop k S) (by rw [List.length_drop]; omega), ← crcMore_append, List.take_append_drop]
theorem fa_eq (S : List Nat) (k : Nat) : fa S (k : Int) = ((adlerMore 1 S : Nat) : Int) := by
  show ((adlerMore (adlerMore 1 (List.take k S)) (List.take (S.length - k) (List.drop k S)) : Nat) : Int) = _
  rw [List.take_of_length_le (l := List.drop k S) (by rw [List.length_drop]; omega), ← adlerMore_append, List.take_append_drop]
theorem restS {m : Int} {S : List Nat} {ad : Bool} {k : Nat} {a : Act} {w1 : World} (hn : S.length ≤ 1000) (hb : ∀ x ∈ S, x < 256) (hk : k ≤ S.length) (hs : SL Tryz.prog 115 [] ρ0 H0 w0 (stE S (k : Int) ad m []) a w1) : (Code.seq S5e (.seq S5f (.seq S5g (.seq S5h (.seq S5i S5j))))).wp Tryz.prog (QT ρ0 H0 w0) a w1 := by
  obtain ⟨_, _, _, _, we, wf', wg, _, _, _⟩ := wfs
  have c1 : okCut (k : Int) (S.length : Int) S.length = true := okCut_iff.2 (by omega)
  have c2 : okCut (Int.ofNat 0) (k : Int) S.length = true := okCut_iff.2 (by refine ⟨?_, ?_, ?_⟩ <;> (try show (0 : Int) ≤ 0) <;> (try show (0 : Int) ≤ (k : Int)) <;> omega)
  have c3 : ∀ q, 1000 ≤ q → Nat.ble (List.take ((S.length : Int).toNat - (k : Int).toNat) (List.drop (k : Int).toNat S)).length q = true := fun q hq => ble_t (by rw [List.length_take, List.length_drop]; omega)
  have c4 : ∀ q, 1000 ≤ q → Nat.ble (List.take ((k : Int).toNat - 0) (List.drop 0 S)).length q = true := fun q hq => ble_t (by rw [List.length_take, List.length_drop]; omega)
  have hb' : ∀ x ∈ List.take ((k : Int).toNat - 0) (List.drop 0 S), x < 256 := fun x hx => hb x (List.mem_of_mem_drop (List.mem_of_mem_take hx))
  have c5 : inU32 ((crcMore 0 (List.take ((k : Int).toNat - 0) (List.drop 0 S)) : Nat) : Int) = true := by
    have := crcMore_le _ hb'
    unfold inU32
    rw [nilt_t (by omega), ilt_t (by omega)]; rfl
  have c6 : inU32 ((adlerMore 1 (List.take ((k : Int).toNat - 0) (List.drop 0 S)) : Nat) : Int) = true := by
    have := adlerMore_le _ hb'
    unfold inU32
    rw [nilt_t (by omega), ilt_t (by omega)]; rfl
  refine stp we (hE m k S ad) okG trivial rfl rfl rfl hs fun a2 w2 h2 => ?_
  refine stp wf' (hF m k S ad) okG ⟨c3 _ (by decide), c5, c1, c4 _ (by decide), c2, trivial⟩ rfl rfl rfl (h2.alike rfl rfl rfl) fun a3 w3 h3 => ?_
  cases had : ad with
  | false =>
    rw [had] at h3
    refine stp wg (hG1 m k (fc S k) S false) okG ⟨rfl, trivial⟩ rfl rfl rfl (h3.alike rfl rfl rfl) fun a4 w4 h4 => ?_
    exact tailC (m := m) hn hb (fc_eq S k hb) (h4.alike rfl rfl rfl)
  | true =>
    rw [had] at h3
    refine stp wg (hG2 m k (fc S k) S true) okG ⟨c3 _ (by decide), c6, c1, c4 _ (by decide), c2, rfl, trivial⟩ rfl rfl rfl (h3.alike rfl rfl rfl) fun a4 w4 h4 => ?_
    exact tailA (m := m) hn hb (fa_eq S k) (h4.alike rfl rfl rfl)
theorem wholeS {m at_ : Int} {S : List Nat} {ad : Bool} {a : Act} {w1 : World} (hb : ∀ x ∈ S, x < 256) (ha : -9223372036854775808 ≤ at_ ∧ at_ < 9223372036854775808) (hs : SL Tryz.prog 115 [] ρ0 H0 w0 (st0 S at_ ad m) a w1) : B5.wp Tryz.prog (QT ρ0 H0 w0) a w1 := by
  obtain ⟨wa, wb, wc, wd, _⟩ := wfs
  rw [B5_eq]
  refine stp wa (hA m at_ S ad) okG trivial rfl rfl rfl hs fun a2 w2 h2 => ?_
  by_cases hn : S.length ≤ 1000
  · refine stp wb (hB2 m at_ S ad) okG ⟨ilt_f (by show (S.length : Int) ≤ 1000; omega), trivial⟩ rfl rfl rfl (h2.alike rfl rfl rfl) fun a3 w3 h3 => ?_
    have hlen : wr .i64 (Int.add (S.length : Int) (Int.ofNat 1)) = ((S.length + 1 : Nat) : Int) := by
      rw [show Int.add (S.length : Int) (Int.ofNat 1) = ((S.length + 1 : Nat) : Int) from rfl]
      exact wr_i64 (by omega) (by omega)
    have kd : ∀ (t : Nat) a4 w4, SL Tryz.prog 115 [] ρ0 H0 w0 (stB S (t : Int) ad m []) a4 w4 → (Code.seq S5d (.seq S5e (.seq S5f (.seq S5g (.seq S5h (.seq S5i S5j)))))).wp Tryz.prog (QT ρ0 H0 w0) a4 w4 := by
      intro t a4 w4 h4
      refine stp wd (hD m t S ad) okG ⟨by rw [hlen, ieq_f (by show ((S.length + 1 : Nat) : Int) ≠ 0; omega)]; rfl, trivial⟩ rfl rfl rfl h4 fun a5 w5 h5 => ?_
      rw [hlen, tmod_nat] at h5
      exact restS (m := m) (k := t % (S.length + 1)) hn hb (by have := Nat.mod_lt t (y := S.length + 1) (by omega); omega) (h5.alike rfl rfl rfl)
    by_cases h0 : at_ < 0
    · refine stp wc (hC1 m at_ S ad) okG ⟨ilt_t h0, trivial⟩ rfl rfl rfl (h3.alike rfl rfl rfl) fun a4 w4 h4 => ?_
      have e : wr .i64 (Int.sub 0 (wr .i64 (Int.add at_ (Int.ofNat 1)))) = (((-(at_ + 1)).toNat : Nat) : Int) := by
        rw [show Int.add at_ (Int.ofNat 1) = at_ + 1 from rfl, wr_i64 (x := at_ + 1) (by omega) (by omega), show Int.sub 0 (at_ + 1) = -(at_ + 1) from by show 0 - (at_ + 1) = _; omega, wr_i64 (by omega) (by omega)]
        omega
      rw [e] at h4
      exact kd _ a4 w4 (h4.alike rfl rfl rfl)
    · refine stp wc (hC2 m at_ S ad) okG ⟨ilt_f (by show (0 : Int) ≤ at_; omega), trivial⟩ rfl rfl rfl (h3.alike rfl rfl rfl) fun a4 w4 h4 => ?_
      rw [show at_ = ((at_.toNat : Nat) : Int) from by omega] at h4
      exact kd _ a4 w4 (h4.alike rfl rfl rfl)
  · refine wp_seq (wp_mono (exec_sl tT_ok tM sP_ok wb (hB1 m at_ S ad) okN (fun v h => by cases h) ⟨ilt_t (by show (1000 : Int) < (S.length : Int); omega), trivial⟩ rfl rfl rfl FamOk.none (h2.alike rfl rfl rfl)) ?_)
    rintro x a' w' ⟨hx, h1⟩
    obtain rfl := hx.ret
    exact ⟨.inr rfl, [(ilt (Int.ofNat 1000) (S.length : Int), true)], ⟨ilt_t (by show (1000 : Int) < (S.length : Int); omega), trivial⟩, h1⟩
end
theorem sums_calls {ρ : Rn} {m at_ : Int} {S : List Nat} {ad : Bool} {W : World} {vs : List Value} (hb : ∀ x ∈ S, x < 256) (ha : -9223372036854775808 ≤ at_ ∧ at_ < 9223372036854775808) (hg : Gl ρ 1100) (hL : LR ρ (Dm N0 1100) [.str true S, .int true .i64 at_, .bool true ad] vs) (hw : GR Tryz.prog ρ (Dm N0 1100) (gMem m).get W) :
    Calls Tryz.prog 5 vs.toArray W fun e w' => e = .returned (.bool true) ∧ ∃ ρ', Fram ρ (gMem m).get W ρ' (fun _ => none) w' := by
  refine (calls_sl (P := Tryz.prog) (T := tT) (F := []) (g := gG m) (args := [.str true S, .int true .i64 at_, .bool true ad]) (vs := vs) (w := W) (ρ := ρ) (R := fun st' l => oneOr l = .bool false true ∧ st'.g.h = ⟨mkT [], fun _ => none⟩) tT_ok Tryz.func5 (body_of Tryz.func5 (by kernel_rfl)) (show 3 ≤ Tryz.f5.ntmps by decide) (by decide) (fun b hb => by cases hb) hg hL hw ?_).mono ?_
  · intro act hs
    refine wp_mono (wholeS (m := m) (at_ := at_) (S := S) (ad := ad) hb ha hs) ?_
    rintro x a' w' ⟨hx, pc, hpc, h1⟩
    exact ⟨hx, _, [.bool false true], h1, hpc, by kernel_rfl, rfl, rfl⟩
  · rintro e w' ⟨st', l, v, ρ', ⟨h1, h2⟩, rfl, hv, hg', hgr, hfr, _⟩
    rw [h1] at hv
    cases hv
    refine ⟨rfl, ρ', ?_⟩
    rw [h2] at hfr
    have e : (⟨mkT [], fun _ => none⟩ : Mem).get = fun _ => none := by
      funext b
      rw [Mem.get_eq]
      split
      · exact get_e b
      · rfl
    rw [e] at hfr
    exact hfr
end Go.Proofs.YtkclgbccnbiojaaGreatDoor.SX

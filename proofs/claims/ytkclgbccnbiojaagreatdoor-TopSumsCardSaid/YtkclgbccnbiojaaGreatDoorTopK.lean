import Derived.Test.YtkclgbccnbiojaaGreatDoorTopJ
import Derived.Test.YtkclgbccnbiojaaGreatDoorRows
import Derived.OpenShut
import Derived.LaidMore
import Derived.Stop.Joined
import Derived.Lib.LaidTab
import Derived.Shelf.Vars
set_option linter.unusedVariables false
set_option linter.unusedSimpArgs false
namespace Go.Proofs.YtkclgbccnbiojaaGreatDoor.SX
open Go.Proofs Go.Proofs.YtkclgbccnbiojaaGreatDoor
set_option maxRecDepth 1000000
theorem laid_at {P : Program} {w : World} {n : String} {d : DataW Unit} : ∀ {l : List (String × DataW Unit)} {ps : List MemPlace}, DataW.LaidVars P w l ps → (n, d) ∈ l → ∃ g t cs fuel p, P.globalNamed n = some g ∧ (P.globals[g]?).map (·.type) = some t ∧ w.var? P n = some cs ∧ DataW.trod (fun _ => ()) P w 0 (fun _ => true) false fuel t cs.toList = some (d, p) := by
  intro l
  induction l with
  | nil => intro ps _ h; cases h
  | cons q r ih =>
    obtain ⟨n', d'⟩ := q
    intro ps h hm
    obtain ⟨g, t, cs, fuel, p, q, h1, h2, h3, h4, h5, _⟩ := h
    rcases List.mem_cons.1 hm with e | hm
    · obtain ⟨rfl, rfl⟩ := Prod.mk.inj e
      exact ⟨g, t, cs, fuel, p, h1, h2, h3, h4⟩
    · exact ih h5 hm
theorem var_heap {P : Program} {w : World} {n : String} {cs : Array Value} {g : Nat} (h : w.var? P n = some cs) (hg : P.globalNamed n = some g) : ∃ e fz, w.heap[g]? = some (.cells cs e fz) := by
  unfold World.var? at h
  rw [hg] at h
  simp only [Option.bind_some] at h
  split at h
  · rename_i c e fz hh
    injection h with h
    subst h
    exact ⟨e, fz, hh⟩
  · cases h
noncomputable def toV (v : AV) : Value := match v with | .int _ k n => .int k n | .bool _ b => .bool b | .str _ l => .string ⟨(l.map UInt8.ofNat).toArray⟩ | _ => .nilFunc
def okS (v : AV) : Bool := match v with | .int .. => true | .bool .. => true | .str _ l => l.all (·.blt 256) | _ => false
theorem toV_ok {ρ : Rn} {D : Nat → Prop} {v : AV} (h : okS v = true) : VR ρ D v (toV v) := by
  cases v <;> first | (cases h; done) | skip
  · exact .bool _ _
  · exact .int _ _ _
  · rename_i s l
    have hl : ∀ x ∈ l, x < 256 := fun x hx => blt_iff.1 (List.all_eq_true.1 h x hx)
    have e : bts ⟨(l.map UInt8.ofNat).toArray⟩ = l := by
      unfold bts
      simp only [List.map_map]
      refine (List.map_congr_left fun x hx => ?_).trans (List.map_id _)
      show (UInt8.ofNat x).toNat = x
      rw [UInt8.toNat_ofNat']
      exact Nat.mod_eq_of_lt (hl x hx)
    have := VR.str (ρ := ρ) (D := D) s ⟨(l.map UInt8.ofNat).toArray⟩
    rw [e] at this
    exact this
theorem rows_of {P : Program} {ρ : Rn} {D : Nat → Prop} {b e0 e sz : Nat} {avs : List AV} {arr : Array Value} {fz : Nat × Nat} (hc : ρ.c b = 0) (ha : arr.toList = avs.map toV) (ho : avs.all okS = true) (hs : avs.length = sz) : OR P ρ D b (.rows e0 sz 1 fun _ => avs) (.cells arr e fz) := by
  refine .rows _ _ _ _ _ arr fz (fun i hi => hs) (fun i j x hi hx => ?_)
  obtain rfl : i = 0 := by omega
  refine ⟨toV x, ?_, toV_ok (List.all_eq_true.1 ho x (List.mem_of_getElem? hx))⟩
  rw [hc, show 0 + (0 * sz + j) = j from by omega, ← Array.getElem?_toList, ha, List.getElem?_map, hx]
  rfl
def efS : DataW Unit → Option (List Value)
  | .lit (.string b) => some [.string ⟨b.toArray⟩]
  | _ => none
def ef3 : DataW Unit → Option (List Value)
  | .agg [.lit (.string b), .lit (.int k n), .lit (.bool q)] => some [.string ⟨b.toArray⟩, .int k n, .bool q]
  | _ => none
section
variable {P : Program} {w : World} {base : Nat} {sp : Nat → Bool} {held : Bool} {enc : TypeId × Value → Unit} {fuel : Nat} {t e : TypeId} {cs : List Value}
theorem efS_ok (ht : P.underlying t = some .string) {d : DataW Unit} {p : List MemPlace} {l : List Value} (h : DataW.trod enc P w base sp held fuel t cs = some (d, p)) (hl : efS d = some l) : cs = l := by
  obtain ⟨s, rfl, hx, _⟩ := DataW.trod_string ht h
  injection hx with hx _
  subst hx
  injection hl with hl
theorem ef3_ok {fs : Array Field} {f0 f1 f2 : Field} (ht : P.underlying t = some (.struct fs)) (hn : P.cellsOf t = 3) (hf : fs.toList = [f0, f1, f2]) (t0 : P.underlying f0.type = some .string) (t1 : ∃ k, P.underlying f1.type = some (.int k)) (t2 : P.underlying f2.type = some .bool)
    (o0 : f0.offset = 0) (o1 : f1.offset = 1) (o2 : f2.offset = 2) (c0 : P.cellsOf f0.type = 1) (c1 : P.cellsOf f1.type = 1) (c2 : P.cellsOf f2.type = 1) {d : DataW Unit} {p : List MemPlace} {l : List Value} (h : DataW.trod enc P w base sp held fuel t cs = some (d, p)) (hl : ef3 d = some l) : cs = l := by
  obtain ⟨xs, n, rfl, hx, hlen, hxl, hall⟩ := DataW.trod_struct ht h
  rw [hn] at hlen
  have hsz : fs.size = 3 := by rw [← Array.length_toList, hf]; rfl
  rw [hsz] at hxl
  obtain ⟨v0, v1, v2, rfl⟩ : ∃ a b c, cs = [a, b, c] := by
    match cs, hlen with
    | [a, b, c], _ => exact ⟨a, b, c, rfl⟩
  obtain ⟨x0, x1, x2, rfl⟩ : ∃ a b c, xs = [a, b, c] := by
    match xs, hxl with
    | [a, b, c], _ => exact ⟨a, b, c, rfl⟩
  have g : ∀ i, fs[i]? = [f0, f1, f2][i]? := fun i => by rw [← hf, Array.getElem?_toList]
  have h0 := hall 0 f0 (g 0)
  have h1 := hall 1 f1 (g 1)
  have h2 := hall 2 f2 (g 2)
  rw [o0, c0] at h0
  rw [o1, c1] at h1
  rw [o2, c2] at h2
  injection hx with hx _
  subst hx
  obtain ⟨d0, p0⟩ := x0
  obtain ⟨d1, p1⟩ := x1
  obtain ⟨d2, p2⟩ := x2
  obtain ⟨s, e0, hx0, _⟩ := DataW.trod_string t0 h0
  obtain ⟨k, t1⟩ := t1
  obtain ⟨z, e1, hx1, _⟩ := DataW.trod_int t1 h1
  obtain ⟨q, e2, hx2⟩ := DataW.trod_bool t2 h2
  injection hx0 with hx0 _
  injection hx1 with hx1 _
  injection hx2 with hx2 _
  subst hx0 hx1 hx2
  injection e0 with e0 _
  injection e1 with e1 _
  injection e2 with e2 _
  subst e0 e1 e2
  injection hl with hl
theorem chunks {α : Type} (ce : Nat) : ∀ (ls : List (List α)) (cs : List α), cs.length = ls.length * ce → (∀ (i : Nat) l, ls[i]? = some l → (cs.drop (i * ce)).take ce = l) → cs = ls.flatten := by
  intro ls
  induction ls with
  | nil => intro cs h _; exact List.length_eq_zero_iff.1 (by simpa using h)
  | cons l r ih =>
    intro cs h hi
    have h0 := hi 0 l rfl
    rw [Nat.zero_mul, List.drop_zero] at h0
    have h1 := ih (cs.drop ce) (by rw [List.length_drop, h, List.length_cons, Nat.succ_mul]; omega) fun i q hq => by
      rw [List.drop_drop, show ce + i * ce = (i + 1) * ce from by rw [Nat.succ_mul]; omega]
      exact hi (i + 1) q hq
    rw [List.flatten_cons, ← h1, ← h0, List.take_append_drop]
theorem arr_flat {ef : DataW Unit → Option (List Value)} {n ce : Nat} (ht : P.underlying t = some (.array n e)) (hce : P.cellsOf e = ce) (hct : P.cellsOf t = n * ce) (he : ∀ (fuel : Nat) (cs : List Value) (d : DataW Unit) (p : List MemPlace) (l : List Value), DataW.trod enc P w base sp held fuel e cs = some (d, p) → ef d = some l → cs = l)
    {ds : List (DataW Unit)} {p : List MemPlace} {ls : List (List Value)} (hl : ds.mapM ef = some ls) (h : DataW.trod enc P w base sp held fuel t cs = some (.agg ds, p)) : cs = ls.flatten := by
  obtain ⟨xs, m, rfl, hx, hlen, hxl, hall⟩ := DataW.trod_array ht h
  injection hx with hx _
  injection hx with hx
  subst hx
  have hll : ls.length = n := by rw [Lib.mapM_length hl, List.length_map, hxl]
  refine chunks ce ls cs (by rw [hlen, hct, hll]) fun i l hi => ?_
  have hin : i < n := by rw [← hll]; exact (List.getElem?_eq_some_iff.1 hi).1
  have h1 := hall i hin
  rw [hce] at h1
  have hxi : xs[i]? = some xs[i] := List.getElem?_eq_getElem (by omega)
  rw [hxi] at h1
  obtain ⟨b, hb, hf⟩ := Lib.mapM_at hl i (xs[i].1) (by rw [List.getElem?_map, hxi]; rfl)
  rw [hi] at hb
  injection hb with hb
  subst hb
  exact he m _ _ _ _ h1 hf
theorem slice_strs (ht : P.underlying t = some (.slice e)) (he : P.underlying e = some .string) (hce : P.cellsOf e = 1) {ds rs : List (DataW Unit)} {p : List MemPlace} (h : DataW.trod enc P w base sp held fuel t cs = some (.slice ds rs, p)) (hne : 0 < ds.length) :
    ∃ (a : Addr) (cap : Nat) (arr : Array Value) (e' : TypeId) (fz : Nat × Nat), cs = [.slice (some a) ds.length cap] ∧ a.spot = none ∧ w.heap[a.block]? = some (.cells arr e' fz) ∧ ∀ (j : Nat) d l, ds[j]? = some d → efS d = some [l] → arr[a.off + j]? = some l := by
  rcases DataW.trod_slice ht h with ⟨_, hx⟩ | ⟨a, len, cap, elems, rest, n, rfl, rfl, hx, hb, _, _, hel, hall, _⟩
  · cases hx
  · injection hx with hx _
    injection hx with hx _
    subst hx
    rw [List.length_map] at hne ⊢
    have cell : ∀ j, j < len → ∃ v, w.cell? (a.add j) = some v ∧ ∃ x, elems[j]? = some x ∧ DataW.trod enc P w base sp held n e [v] = some x := by
      intro j hj
      have h1 := hall j hj
      rw [hce, Nat.mul_one] at h1
      have hxj : elems[j]? = some elems[j] := List.getElem?_eq_getElem (by omega)
      rw [hxj] at h1
      obtain ⟨cs', hc, ht'⟩ := Option.bind_eq_some_iff.1 h1
      unfold World.cells? at hc
      split at hc
      · obtain ⟨v, hv, hh⟩ := Lib.mapM_at hc 0 0 rfl
        have hl := Lib.mapM_length hc
        obtain ⟨u, rfl⟩ : ∃ u, cs' = [u] := by
          match cs', hl with
          | [u], _ => exact ⟨u, rfl⟩
        injection hv with hv
        subst hv
        exact ⟨u, by simpa [Addr.add] using hh, _, hxj, ht'⟩
      · cases hc
    obtain ⟨v0, h0, _⟩ := cell 0 (by omega)
    have h0' : w.cell? a = some v0 := by simpa [Addr.add] using h0
    unfold World.cell? at h0'
    split at h0'
    · rename_i arr e' fz hh
      split at h0'
      · cases h0'
      · rename_i hsp
        refine ⟨a, cap, arr, e', fz, by rw [hel], by simpa using hsp, hh, fun j d l hd hl => ?_⟩
        rw [List.getElem?_map] at hd
        obtain ⟨x, hx, rfl⟩ := Option.map_eq_some_iff.1 hd
        have hj : j < len := by rw [← hel]; exact (List.getElem?_eq_some_iff.1 hx).1
        obtain ⟨v, hv, x', hx', htr⟩ := cell j hj
        rw [hx] at hx'
        injection hx' with hx'
        subst hx'
        obtain ⟨dd, pp⟩ := x
        have := efS_ok he htr hl
        injection this with this _
        subst this
        unfold World.cell? at hv
        have hbl : (a.add j).block = a.block := by unfold Addr.add; split <;> rfl
        have hof : (a.add j).off = a.off + j := by unfold Addr.add; split <;> (first | rfl | (rename_i h; rw [h]; rfl))
        rw [hbl, hh] at hv
        simp only at hv
        split at hv
        · cases hv
        · rw [hof] at hv; exact hv
    · cases h0'
end
end Go.Proofs.YtkclgbccnbiojaaGreatDoor.SX

namespace Go.Proofs.YtkclgbccnbiojaaGreatDoor.SX
open Go.Proofs Go.Proofs.YtkclgbccnbiojaaGreatDoor
set_option maxRecDepth 1000000
def efI : DataW Unit → Option (List Value)
  | .lit (.int k z) => some [.int k z]
  | _ => none
theorem efI_ok {P : Program} {w : World} {base : Nat} {sp : Nat → Bool} {held : Bool} {enc : TypeId × Value → Unit} {fuel : Nat} {t : TypeId} {cs : List Value} {k : IntKind} (ht : P.underlying t = some (.int k)) {d : DataW Unit} {p : List MemPlace} {l : List Value} (h : DataW.trod enc P w base sp held fuel t cs = some (d, p)) (hl : efI d = some l) : cs = l := by
  obtain ⟨z, rfl, hx, _⟩ := DataW.trod_int ht h
  injection hx with hx _
  subst hx
  injection hl with hl
def avsOf (o : AObj) : List AV := match o with | .rows _ _ _ f => f 0 | _ => []
def chunk3 : List AV → List (List AV)
  | a :: b :: c :: r => [a, b, c] :: chunk3 r
  | _ => []
def LLN : List (List (List Nat)) := [[[61, 61], [33, 61], [60]], [[124]], [[38]], [[60, 60], [62, 62]], [[43], [45]], [[42], [47], [37]]]
theorem lev_or {P : Program} {ρ : Rn} {D : Nat → Prop} {b e off : Nat} {L : List (List Nat)} {arr : Array Value} {fz : Nat × Nat} (hL : (L.map (AV.str false)).all okS = true) (hc : ρ.c b = off) (h : ∀ (j : Nat) l, (L.map (AV.str false))[j]? = some l → arr[off + j]? = some (toV l)) :
    OR P ρ D b (.rows 9 1 L.length fun i => [.str false (L.getD i [])]) (.cells arr e fz) := by
  refine .rows _ _ _ _ _ arr fz (fun i hi => rfl) (fun i j x hi hx => ?_)
  cases j with
  | zero =>
    injection hx with hx
    subst hx
    have hg : (L.map (AV.str false))[i]? = some (.str false (L.getD i [])) := by
      rw [List.getElem?_map, List.getD_eq_getElem?_getD, List.getElem?_eq_getElem hi]; rfl
    refine ⟨toV (.str false (L.getD i [])), ?_, toV_ok (List.all_eq_true.1 hL _ (List.mem_of_getElem? hg))⟩
    rw [hc, show i * 1 + 0 = i from by omega]
    exact h i _ hg
  | succ j => cases hx
theorem hRow0 {W : World} (hL : laidMet Tryz.prog Rows.topSumsRow.laid W) : ∃ arr e fz, W.heap[0]? = some (.cells arr e fz) ∧ arr.toList = (avsOf gHalf).map toV := by
  obtain ⟨ps, hl, _⟩ := hL
  obtain ⟨g, t, cs, fuel, p, h1, h2, h3, h4⟩ := laid_at hl (List.mem_of_getElem? (show Rows.topSumsRow.laid[3]? = some ("mortise/sums.half", Rows.laid_mortise_sums_half) from rfl))
  obtain rfl := Option.some.inj ((show Tryz.prog.globalNamed "mortise/sums.half" = some 0 by kernel_rfl).symm.trans h1)
  obtain rfl := Option.some.inj ((show (Tryz.prog.globals[0]?).map (·.type) = some 132 by kernel_rfl).symm.trans h2)
  obtain ⟨e, fz, hh⟩ := var_heap h3 h1
  refine ⟨cs, e, fz, hh, ?_⟩
  have := arr_flat (ce := 1) Tryz.underlying132 (by kernel_rfl) (by kernel_rfl) (fun f c d q l => efI_ok Tryz.underlying53) (ls := (avsOf gHalf).map fun v => [toV v]) (by kernel_rfl) h4
  exact this.trans (by kernel_rfl)
theorem hRow2 {W : World} (hL : laidMet Tryz.prog Rows.topSumsRow.laid W) : ∃ arr e fz, W.heap[2]? = some (.cells arr e fz) ∧ arr.toList = (avsOf gAutos).map toV := by
  obtain ⟨ps, hl, _⟩ := hL
  obtain ⟨g, t, cs, fuel, p, h1, h2, h3, h4⟩ := laid_at hl (List.mem_of_getElem? (show Rows.topSumsRow.laid[9]? = some ("mortise/desc.autos", Rows.laid_mortise_desc_autos) from rfl))
  obtain rfl := Option.some.inj ((show Tryz.prog.globalNamed "mortise/desc.autos" = some 2 by kernel_rfl).symm.trans h1)
  obtain rfl := Option.some.inj ((show (Tryz.prog.globals[2]?).map (·.type) = some 251 by kernel_rfl).symm.trans h2)
  obtain ⟨e, fz, hh⟩ := var_heap h3 h1
  refine ⟨cs, e, fz, hh, ?_⟩
  have := arr_flat (ce := 1) Tryz.underlying251 (by kernel_rfl) (by kernel_rfl) (fun f c d q l => efS_ok Tryz.underlying9) (ls := (avsOf gAutos).map fun v => [toV v]) (by kernel_rfl) h4
  exact this.trans (by kernel_rfl)
theorem hRow1 {W : World} (hL : laidMet Tryz.prog Rows.topSumsRow.laid W) : ∃ arr e fz, W.heap[1]? = some (.cells arr e fz) ∧ arr.toList = (avsOf gInts).map toV := by
  obtain ⟨ps, hl, _⟩ := hL
  obtain ⟨g, t, cs, fuel, p, h1, h2, h3, h4⟩ := laid_at hl (List.mem_of_getElem? (show Rows.topSumsRow.laid[8]? = some ("mortise/desc.integers", Rows.laid_mortise_desc_integers) from rfl))
  obtain rfl := Option.some.inj ((show Tryz.prog.globalNamed "mortise/desc.integers" = some 1 by kernel_rfl).symm.trans h1)
  obtain rfl := Option.some.inj ((show (Tryz.prog.globals[1]?).map (·.type) = some 250 by kernel_rfl).symm.trans h2)
  obtain ⟨e, fz, hh⟩ := var_heap h3 h1
  refine ⟨cs, e, fz, hh, ?_⟩
  have := arr_flat (ce := 3) Tryz.underlying250 (by kernel_rfl) (by kernel_rfl) (fun f c d q l => ef3_ok Tryz.underlying249 (by kernel_rfl) rfl Tryz.underlying9 ⟨_, Tryz.underlying3⟩ Tryz.underlying4 rfl rfl rfl (by kernel_rfl) (by kernel_rfl) (by kernel_rfl)) (ls := (chunk3 (avsOf gInts)).map fun r => r.map toV) (by kernel_rfl) h4
  exact this.trans (by kernel_rfl)
theorem hRow3 {W : World} (hL : laidMet Tryz.prog Rows.topSumsRow.laid W) : ∃ arr e fz, W.heap[3]? = some (.cells arr e fz) ∧ ∀ (i : Nat) (L : List (List Nat)), LLN[i]? = some L → ∃ (a : Addr) (cap : Nat) (arr' : Array Value) (e' : TypeId) (fz' : Nat × Nat), arr[i]? = some (.slice (some a) L.length cap) ∧ a.spot = none ∧ W.heap[a.block]? = some (.cells arr' e' fz') ∧ ∀ (j : Nat) l, (L.map (AV.str false))[j]? = some l → arr'[a.off + j]? = some (toV l) := by
  obtain ⟨ps, hl, _⟩ := hL
  obtain ⟨g, t, cs, fuel, p, h1, h2, h3, h4⟩ := laid_at hl (List.mem_of_getElem? (show Rows.topSumsRow.laid[7]? = some ("mortise/exp.levels", Rows.laid_mortise_exp_levels) from rfl))
  obtain rfl := Option.some.inj ((show Tryz.prog.globalNamed "mortise/exp.levels" = some 3 by kernel_rfl).symm.trans h1)
  obtain rfl := Option.some.inj ((show (Tryz.prog.globals[3]?).map (·.type) = some 272 by kernel_rfl).symm.trans h2)
  obtain ⟨e, fz, hh⟩ := var_heap h3 h1
  refine ⟨cs, e, fz, hh, fun i L hi => ?_⟩
  obtain ⟨xs, m, rfl, hx, hlen, hxl, hall⟩ := DataW.trod_array Tryz.underlying272 h4
  injection hx with hx _
  have hx' : xs.map (·.1) = LLN.map fun L => (DataW.slice (L.map fun l => DataW.lit (.string (l.map UInt8.ofNat))) [] : DataW Unit) := by
    injection hx with hx
    rw [← hx]
    kernel_rfl
  have hin : i < 6 := (List.getElem?_eq_some_iff.1 hi).1
  have hc1 : Tryz.prog.cellsOf 45 = 1 := by kernel_rfl
  have ht := hall i hin
  rw [hc1, Nat.mul_one] at ht
  have hxi : xs[i]? = some xs[i] := List.getElem?_eq_getElem (by omega)
  rw [hxi] at ht
  have hd : (xs[i]).1 = DataW.slice (L.map fun l => DataW.lit (.string (l.map UInt8.ofNat))) [] := by
    have := congrArg (·[i]?) hx'
    simp only [List.getElem?_map, hxi, hi, Option.map_some] at this
    exact Option.some.inj this
  have hpos : 0 < L.length := by
    have : LLN.all (fun L => (0).blt L.length) = true := by kernel_rfl
    exact blt_iff.1 (List.all_eq_true.1 this L (List.mem_of_getElem? hi))
  generalize xs[i] = q at ht hd
  obtain ⟨dd, pp⟩ := q
  obtain rfl : dd = _ := hd
  obtain ⟨a, cap, arr', e', fz', k1, k2, k3, k4⟩ := slice_strs (P := Tryz.prog) Tryz.underlying45 Tryz.underlying9 (by kernel_rfl) ht (by rw [List.length_map]; exact hpos)
  rw [List.length_map] at k1
  refine ⟨a, cap, arr', e', fz', ?_, k2, k3, fun j l hj => ?_⟩
  · have := congrArg (·[0]?) k1
    simpa [List.getElem?_take, List.getElem?_drop] using this
  · rw [List.getElem?_map] at hj
    obtain ⟨l0, hl0, rfl⟩ := Option.map_eq_some_iff.1 hj
    exact k4 j (DataW.lit (.string (l0.map UInt8.ofNat))) (toV (.str false l0)) (by rw [List.getElem?_map, hl0]; rfl) rfl
theorem gMem_fixed (m : Int) (b : Nat) (o : AObj) (hb : (gMem m).get b = some o) : o.fixed = true := by
  rcases gMem_mem m b o hb with h | ⟨rfl, rfl⟩
  · have : glL.all (fun p => p.2.fixed) = true := by kernel_rfl
    exact List.all_eq_true.1 this _ h
  · rfl
theorem globals_ok {W : World} (hL : laidMet Tryz.prog Rows.topSumsRow.laid W) (hM : ∃ m, W.cell? ⟨6, 0, none⟩ = some (.int .i64 m)) : ∃ ρ m, Gl ρ 1100 ∧ GR Tryz.prog ρ (Dm N0 1100) (gMem m).get W := by
  obtain ⟨m, hm⟩ := hM
  obtain ⟨arr0, e0, fz0, hh0, hv0⟩ := hRow0 hL
  obtain ⟨arr1, e1, fz1, hh1, hv1⟩ := hRow1 hL
  obtain ⟨arr2, e2, fz2, hh2, hv2⟩ := hRow2 hL
  obtain ⟨arr3, e3, fz3, hh3, hv3⟩ := hRow3 hL
  have hA : ∃ A : Nat → Addr, ∀ (i : Nat) (L : List (List Nat)), LLN[i]? = some L → ∃ (cap : Nat) (arr' : Array Value) (e' : TypeId) (fz' : Nat × Nat), arr3[i]? = some (.slice (some (A i)) L.length cap) ∧ (A i).spot = none ∧ W.heap[(A i).block]? = some (.cells arr' e' fz') ∧ ∀ (j : Nat) l, (L.map (AV.str false))[j]? = some l → arr'[(A i).off + j]? = some (toV l) := by
    refine ⟨fun i => match h : LLN[i]? with | some L => Classical.choose (hv3 i L h) | none => default, fun i L hi => ?_⟩
    have := Classical.choose_spec (hv3 i L hi)
    have e : (match h : LLN[i]? with | some L => Classical.choose (hv3 i L h) | none => default : Addr) = Classical.choose (hv3 i L hi) := by
      split
      · rename_i L' h'
        have : L' = L := by rw [hi] at h'; exact (Option.some.inj h').symm
        subst this
        rfl
      · rename_i h'
        rw [hi] at h'; cases h'
    simp only
    rw [e]
    exact this
  obtain ⟨A, hA⟩ := hA
  obtain ⟨arr6, e6, fz6, hh6, hv6⟩ : ∃ arr e fz, W.heap[6]? = some (.cells arr e fz) ∧ arr[0]? = some (.int .i64 m) := by
    unfold World.cell? at hm
    split at hm
    · rename_i c e fz hh
      exact ⟨c, e, fz, hh, by simpa using hm⟩
    · cases hm
  let ρ : Rn := ⟨fun b => if 1000 ≤ b ∧ b < 1006 then (A (b - 1000)).block else b, fun b => if 1000 ≤ b ∧ b < 1006 then (A (b - 1000)).off else 0⟩
  have lo : ∀ b, b < 1000 → ρ.b b = b ∧ ρ.c b = 0 := fun b hb => ⟨if_neg (by omega), if_neg (by omega)⟩
  have hi : ∀ i, i < 6 → ρ.b (1000 + i) = (A i).block ∧ ρ.c (1000 + i) = (A i).off := fun i h => by
    have e : 1000 + i - 1000 = i := by omega
    exact ⟨by show (if _ then _ else _) = _; rw [if_pos (by omega), e], by show (if _ then _ else _) = _; rw [if_pos (by omega), e]⟩
  refine ⟨ρ, m, ⟨by omega, fun g hg => (lo g hg).1, fun g hg => (lo g hg).2⟩, ⟨fun b o hb => ⟨.inl (gMem_pre m b o hb).1, trivial⟩, fun b o hb => ?_, fun b b' o o' hb hb' hf => ?_⟩⟩
  · have levs : ∀ (i : Nat) (L : List (List Nat)), LLN[i]? = some L → i < 6 → (L.map (AV.str false)).all okS = true → ∃ r, W.heap[ρ.b (1000 + i)]? = some r ∧ OR Tryz.prog ρ (Dm N0 1100) (1000 + i) (.rows 9 1 L.length fun j => [.str false (L.getD j [])]) r := by
      intro i L h h6 hok
      obtain ⟨cap, arr', e', fz', k1, k2, k3, k4⟩ := hA i L h
      rw [(hi i h6).1]
      exact ⟨_, k3, lev_or hok (hi i h6).2 k4⟩
    rcases gMem_mem m b o hb with hb | ⟨rfl, rfl⟩
    · unfold glL at hb
      simp only [List.mem_cons, Prod.mk.injEq, List.not_mem_nil, or_false] at hb
      rcases hb with ⟨rfl, rfl⟩ | ⟨rfl, rfl⟩ | ⟨rfl, rfl⟩ | ⟨rfl, rfl⟩ | ⟨rfl, rfl⟩ | ⟨rfl, rfl⟩ | ⟨rfl, rfl⟩ | ⟨rfl, rfl⟩ | ⟨rfl, rfl⟩ | ⟨rfl, rfl⟩
      · rw [(lo 0 (by omega)).1]
        exact ⟨_, hh0, rows_of (avs := avsOf gHalf) (lo 0 (by omega)).2 hv0 (by kernel_rfl) (by kernel_rfl)⟩
      · rw [(lo 1 (by omega)).1]
        exact ⟨_, hh1, rows_of (avs := avsOf gInts) (lo 1 (by omega)).2 hv1 (by kernel_rfl) (by kernel_rfl)⟩
      · rw [(lo 2 (by omega)).1]
        exact ⟨_, hh2, rows_of (avs := avsOf gAutos) (lo 2 (by omega)).2 hv2 (by kernel_rfl) (by kernel_rfl)⟩
      · rw [(lo 3 (by omega)).1]
        refine ⟨_, hh3, .rows _ _ _ _ _ arr3 fz3 (fun i hi => rfl) (fun i j x hi' hx => ?_)⟩
        obtain rfl : i = 0 := by omega
        rw [(lo 3 (by omega)).2, show 0 + (0 * 6 + j) = j from by omega]
        have hj : j < 6 := (List.getElem?_eq_some_iff.1 hx).1
        have hx2 : ∃ L, LLN[j]? = some L ∧ x = .osl (1000 + j) L.length := by
          match j, hj, hx with
          | 0, _, hx | 1, _, hx | 2, _, hx | 3, _, hx | 4, _, hx | 5, _, hx => exact ⟨_, rfl, (Option.some.inj hx).symm⟩
        obtain ⟨L, hLj, rfl⟩ := hx2
        obtain ⟨cap, arr', e', fz', k1, k2, k3, k4⟩ := hA j L hLj
        refine ⟨_, k1, .osl _ _ _ _ (.inl (by omega)) fun _ => ?_⟩
        rw [(hi j hj).1, (hi j hj).2, ← k2]
      · exact levs 0 _ rfl (by omega) (by kernel_rfl)
      · exact levs 1 _ rfl (by omega) (by kernel_rfl)
      · exact levs 2 _ rfl (by omega) (by kernel_rfl)
      · exact levs 3 _ rfl (by omega) (by kernel_rfl)
      · exact levs 4 _ rfl (by omega) (by kernel_rfl)
      · exact levs 5 _ rfl (by omega) (by kernel_rfl)
    · rw [(lo 6 (by omega)).1]
      refine ⟨_, hh6, .rows _ _ _ _ _ arr6 fz6 (fun i hi => rfl) (fun i j x hi' hx => ?_)⟩
      obtain rfl : i = 0 := by omega
      rw [(lo 6 (by omega)).2]
      cases j with
      | zero =>
        injection hx with hx
        subst hx
        exact ⟨_, hv6, .int _ _ _⟩
      | succ j => cases hx
  · have hfx : o.fixed = true := by
      rcases gMem_mem m b o hb with h | ⟨rfl, rfl⟩
      · have : glL.all (fun p => p.2.fixed) = true := by kernel_rfl
        exact List.all_eq_true.1 this _ h
      · rfl
    rw [hfx] at hf; cases hf
end Go.Proofs.YtkclgbccnbiojaaGreatDoor.SX

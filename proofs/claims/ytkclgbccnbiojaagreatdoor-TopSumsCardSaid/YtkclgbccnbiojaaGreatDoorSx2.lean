import Derived.Test.YtkclgbccnbiojaaGreatDoorSx1
import Derived.Laws.BytesString
import Derived.Laws.Tables
import Derived.MapKept
import Derived.KernelRfl
set_option linter.unusedVariables false
set_option linter.unusedSimpArgs false
namespace Go.Proofs.YtkclgbccnbiojaaGreatDoor.SX
section
variable {P : Program} {T : Tab} {ρ : Rn} {D : Nat → Prop}
/-- what a reading operation does -/
def Reads (P : Program) (ρ : Rn) (D : Nat → Prop) (g : G) (r : AV × G) (s : Sem Value) : Prop := Pc g r.2 ∧ (r.2.pc → ∀ w, GR P ρ D g.h.get w → ∃ x, s.run P w = .ok x w ∧ VR ρ D r.1 x)
theorem Gives.reads {g : G} {r : AV × G} {s : Sem Value} (h : Gives P ρ D g r s) : Reads P ρ D g r s := ⟨h.1, fun p w _ => h.2 p w⟩
theorem Gives.pc {g g1 : G} {r : AV × G} {s : Sem Value} (hp : Pc g g1) (h : Gives P ρ D g1 r s) : Gives P ρ D g r s := ⟨hp.trans h.1, h.2⟩
theorem add_at (B o n : Nat) : (⟨B, o, none⟩ : Addr).add n = ⟨B, o + n, none⟩ := by
  unfold Addr.add
  split
  · rename_i h; subst h; rfl
  · rfl
theorem cell_at {w : World} {B : Nat} {arr : Array Value} {e : Nat} {fz : Nat × Nat} (h : w.heap[B]? = some (.cells arr e fz)) (o : Nat) : w.cell? ⟨B, o, none⟩ = arr[o]? := by simp [World.cell?, h]
theorem frozen_at {w : World} {B : Nat} {arr : Array Value} {e : Nat} {fz : Nat × Nat} (h : w.heap[B]? = some (.cells arr e fz)) (ho : Open fz arr.size) {o : Nat} (hi : o < arr.size) : w.frozen? ⟨B, o, none⟩ = false := by
  have := ho o hi
  simp only [World.frozen?, h]
  rw [Bool.and_eq_false_iff]
  simp only [decide_eq_false_iff_not]
  omega
theorem lt_of_get {α : Type} {l : List α} {i : Nat} {x : α} (h : l[i]? = some x) : i < l.length := by
  rcases Nat.lt_or_ge i l.length with h' | h'
  · exact h'
  · rw [List.getElem?_eq_none h'] at h; cases h
theorem ReadL.seg {cs : List AV} {arr : Array Value} (h : ReadL ρ D cs arr) {o n : Nat} (hl : o + n ≤ cs.length) : ∃ as : List Value, as.length = n ∧ LR ρ D (seg cs o n) as ∧ ∀ (j : Nat) (v : Value), as[j]? = some v → arr[o + j]? = some v := by
  have hx : ∀ j, j < n → ∃ a, arr[o + j]? = some a ∧ ∃ x, cs[o + j]? = some x ∧ VR ρ D x a := by
    intro j hj
    have hlt : o + j < cs.length := by omega
    obtain ⟨a, ha, hv⟩ := h (o + j) cs[o + j] (List.getElem?_eq_getElem hlt)
    exact ⟨a, ha, _, List.getElem?_eq_getElem hlt, hv⟩
  refine ⟨(List.range n).map fun j => (arr[o + j]?).getD undef, by simp, ⟨?_, ?_⟩, ?_⟩
  · simp [SX.seg]; omega
  · intro i x a hi ha
    have hin : i < n := by have := lt_of_get ha; simpa using this
    obtain ⟨a', ha', x', hx', hv⟩ := hx i hin
    simp only [SX.seg, List.getElem?_take, hin, if_true, List.getElem?_drop] at hi
    rw [hx'] at hi
    injection hi with hi
    subst hi
    rw [List.getElem?_map, List.getElem?_range hin] at ha
    simp only [Option.map_some, ha', Option.getD_some, Option.some.injEq] at ha
    subst ha
    exact hv
  · intro j v hj
    have hjn : j < n := by have := lt_of_get hj; simpa using this
    obtain ⟨a', ha', _⟩ := hx j hjn
    rw [List.getElem?_map, List.getElem?_range hjn] at hj
    simp only [Option.map_some, ha', Option.getD_some, Option.some.injEq] at hj
    subst hj
    exact ha'
theorem loadFrom_ok (hT : TabOk P T) {t o : Nat} {cs : List AV} {g : G} {r : AV × G} {arr : Array Value} (hR : ReadL ρ D cs arr) (h : loadFrom T t cs o g = some r) :
    r.2 = g ∧ ∃ x, VR ρ D r.1 x ∧ ∀ (w : World) (B off e : Nat) (brr : Array Value) (fz : Nat × Nat), w.heap[B]? = some (.cells brr e fz) → (∀ (j : Nat) (v : Value), arr[o + j]? = some v → brr[off + j]? = some v) → (loadVar t ⟨B, off, none⟩).run P w = .ok x w := by
  obtain ⟨i, hi, h⟩ := ti_some h
  obtain ⟨info, z, d, h1, h2, h3, he⟩ := hT.ti t i hi
  subst he
  simp only at h
  cases ha : (tkD d).isAgg with
  | true =>
    rw [ha] at h
    obtain ⟨hl, h⟩ := guardB_some h
    obtain rfl := rok_some h
    obtain ⟨as, hn, hL, hg⟩ := hR.seg (ble_iff.1 hl)
    refine ⟨rfl, _, hL.agg, fun w B off e brr fz hw hb => ?_⟩
    simp only [loadVar, Sem.run_bind, run_isAgg h3, Result.andThen_ok, ha, if_true, run_size h1]
    rw [← hn, run_loadCells_list w ⟨B, off, none⟩ as (fun j v hj => by rw [add_at, cell_at hw]; exact hb j v (hg j v hj))]
    rfl
  | false =>
    rw [ha] at h
    obtain ⟨hx, hg⟩ := at_some h
    obtain ⟨a, ha2, hv⟩ := hR o _ hx
    refine ⟨hg, a, hv, fun w B off e brr fz hw hb => ?_⟩
    simp only [loadVar, Sem.run_bind, run_isAgg h3, Result.andThen_ok, ha, Bool.false_eq_true, if_false]
    rw [run_load, cell_at hw, show brr[off]? = some a from hb 0 a ha2]
theorem ldNum_ok {k : IntKind} {xs : List Int} {i : Nat} {g : G} {r : AV × G} {arr : Array Value} (hR : ReadL ρ D (xs.map (.int true k)) arr) (h : ldNum k xs i g = some r) :
    Pc g r.2 ∧ (r.2.pc → ∃ x, VR ρ D r.1 x ∧ arr[i]? = some x) := by
  obtain ⟨g1, hp, hc, h⟩ := chk_some h
  obtain rfl := rok_some h
  refine ⟨hp, fun p => ?_⟩
  have hlt : i < xs.length := blt_iff.1 (hc p)
  obtain ⟨a, ha, hv⟩ := hR i (.int true k xs[i]) (by simp [List.getElem?_eq_getElem hlt])
  refine ⟨a, ?_, ha⟩
  have : xs.getD i 0 = xs[i] := by simp [List.getElem?_eq_getElem hlt]
  rw [this]
  exact hv
theorem run_load1 {t : Nat} {d : TypeDesc} (hu : P.underlying t = some d) (hd : (tkD d).tag = 8) {w : World} {B o e : Nat} {arr : Array Value} {fz : Nat × Nat} {x : Value} (hw : w.heap[B]? = some (.cells arr e fz)) (hx : arr[o]? = some x) : (loadVar t ⟨B, o, none⟩).run P w = .ok x w := by
  obtain ⟨k, rfl⟩ := tag_int hd
  simp only [loadVar, Sem.run_bind, run_isAgg hu, Result.andThen_ok, tkD, TK.isAgg, Bool.false_eq_true, if_false]
  rw [run_load, cell_at hw, hx]
theorem loadFrom_g {t o : Nat} {cs : List AV} {g : G} {r : AV × G} (h : loadFrom T t cs o g = some r) : r.2 = g := by
  obtain ⟨i, hi, h⟩ := ti_some h
  cases ha : i.k.isAgg with
  | true =>
    rw [ha] at h
    obtain ⟨hl, h⟩ := guardB_some h
    obtain rfl := rok_some h
    rfl
  | false =>
    rw [ha] at h
    exact (at_some h).2
theorem ldNum_g {k : IntKind} {xs : List Int} {i : Nat} {g : G} {r : AV × G} (h : ldNum k xs i g = some r) : Pc g r.2 := by
  obtain ⟨g1, hp, hc, h⟩ := chk_some h
  obtain rfl := rok_some h
  exact hp
theorem run_loadAt {t : Nat} {a : Addr} (w : World) : (Instr.loadAt t (.pointer (some a))).run P w = (loadVar t a).run P w := by
  simp only [Instr.loadAt, Instr.sureAddr, Sem.run_bind, Sem.run_pure, Result.andThen_ok]
theorem oLoad_ok (hT : TabOk P T) {t : Nat} {p : AV} {g : G} {r : AV × G} {a : Value} (hp : VR ρ D p a) (h : oLoad T t p g = some r) : Reads P ρ D g r (Instr.loadAt t a) := by
  unfold oLoad at h
  split at h
  · rename_i b o
    obtain ⟨rfl, hb⟩ := hp.ptr_inv
    obtain ⟨ob, hob, h⟩ := obj_some h
    unfold ldCell at h
    split at h
    · rename_i e cs gr
      refine ⟨by rw [loadFrom_g h]; exact .refl g, fun _ w hw => ?_⟩
      obtain ⟨rr, hr, ho⟩ := hw.at_ b _ hob
      cases ho with
      | cells e cs gr arr fz hR hO hRm =>
        obtain ⟨_, x, hv, hrun⟩ := loadFrom_ok hT hR h
        exact ⟨x, by rw [run_loadAt]; exact hrun w _ o e arr fz hr (fun j v hj => hj), hv⟩
    · rename_i e k xs gr
      obtain ⟨d, hu, hd, h⟩ := isK_some hT h
      refine ⟨ldNum_g h, fun p w hw => ?_⟩
      obtain ⟨rr, hr, ho⟩ := hw.at_ b _ hob
      cases ho with
      | nums e k xs gr arr fz hR hO hRm =>
        obtain ⟨x, hv, hx⟩ := (ldNum_ok hR h).2 p
        exact ⟨x, by rw [run_loadAt]; exact run_load1 hu hd hr hx, hv⟩
    · cases h
  · rename_i b sz i j
    obtain ⟨rfl, hb⟩ := hp.rptr_inv
    obtain ⟨ob, hob, h⟩ := obj_some h
    unfold ldRow at h
    split at h
    · rename_i e k xs gr
      obtain ⟨d, hu, hd, h⟩ := isK_some hT h
      obtain ⟨hc, h⟩ := guardB_some h
      simp only [Bool.and_eq_true, beq_iff] at hc
      obtain ⟨rfl, rfl⟩ := hc
      refine ⟨ldNum_g h, fun p w hw => ?_⟩
      obtain ⟨rr, hr, ho⟩ := hw.at_ b _ hob
      cases ho with
      | nums e k xs gr arr fz hR hO hRm =>
        obtain ⟨x, hv, hx⟩ := (ldNum_ok hR h).2 p
        exact ⟨x, by rw [run_loadAt]; exact run_load1 hu hd hr (by simpa using hx), hv⟩
    · rename_i e sz' n f
      obtain ⟨hc, h2⟩ := guardB_some h
      clear h
      obtain rfl := beq_iff.1 hc
      obtain ⟨g1, hp1, hc1, h⟩ := chk_some h2
      have hg := loadFrom_g h
      refine ⟨by rw [hg]; exact hp1, fun p w hw => ?_⟩
      have hin : i < n := blt_iff.1 (hc1 (by rw [← hg]; exact p))
      obtain ⟨rr, hr, ho⟩ := hw.at_ b _ hob
      cases ho with
      | grows e sz n f arr fz hl hR =>
        have hRR : ReadL ρ D (f i) (arr.extract (i * sz) (i * sz + sz)) := by
          intro j x hx
          obtain ⟨a, ha, hv⟩ := hR _ x (flat_get n hl i j x hin hx)
          have hj := lt_of_get hx
          rw [hl i hin] at hj
          refine ⟨a, ?_, hv⟩
          rw [Array.getElem?_extract]
          have hlt : i * sz + j < arr.size := by
            rcases Nat.lt_or_ge (i * sz + j) arr.size with h' | h'
            · exact h'
            · rw [Array.getElem?_eq_none h'] at ha; cases ha
          rw [if_pos (by omega)]
          exact ha
        obtain ⟨_, x, hv, hrun⟩ := loadFrom_ok hT hRR h
        refine ⟨x, ?_, hv⟩
        rw [run_loadAt]
        refine hrun w _ (i * sz + j) e arr fz hr (fun q v hq => ?_)
        rw [Array.getElem?_extract] at hq
        split at hq
        · rw [show i * sz + j + q = i * sz + (j + q) from Nat.add_assoc _ _ _]; exact hq
        · cases hq
    · cases h
  · rename_i b sz i j
    obtain ⟨rfl, hb⟩ := hp.optr_inv
    obtain ⟨ob, hob, h⟩ := obj_some h
    unfold ldOut at h
    split at h
    · rename_i e sz' n f
      obtain ⟨hc, h2⟩ := guardB_some h
      clear h
      have hce : i * sz = i * sz' := by
        rw [Bool.or_eq_true] at hc
        rcases hc with hc | hc
        · rw [beq_iff.1 hc]
        · rw [beq_iff.1 hc, Nat.zero_mul, Nat.zero_mul]
      rw [hce]
      clear hce hc hp
      obtain ⟨g1, hp1, hc1, h⟩ := chk_some h2
      have hg := loadFrom_g h
      refine ⟨by rw [hg]; exact hp1, fun p w hw => ?_⟩
      have hin : i < n := blt_iff.1 (hc1 (by rw [← hg]; exact p))
      obtain ⟨rr, hr, ho⟩ := hw.at_ b _ hob
      cases ho with
      | rows e e2 sz' n f arr fz hl hR =>
        have hRR : ReadL ρ D (f i) (arr.extract (ρ.c b + i * sz') (ρ.c b + i * sz' + sz')) := by
          intro j x hx
          obtain ⟨a, ha, hv⟩ := hR i j x hin hx
          have hj := lt_of_get hx
          rw [hl i hin] at hj
          refine ⟨a, ?_, hv⟩
          rw [Array.getElem?_extract]
          rw [show ρ.c b + (i * sz' + j) = ρ.c b + i * sz' + j from (Nat.add_assoc _ _ _).symm] at ha
          have hlt : ρ.c b + i * sz' + j < arr.size := by
            rcases Nat.lt_or_ge (ρ.c b + i * sz' + j) arr.size with h' | h'
            · exact h'
            · rw [Array.getElem?_eq_none h'] at ha; cases ha
          rw [if_pos (by omega)]
          exact ha
        obtain ⟨_, x, hv, hrun⟩ := loadFrom_ok hT hRR h
        refine ⟨x, ?_, hv⟩
        rw [run_loadAt]
        refine hrun w _ (ρ.c b + (i * sz' + j)) e2 arr fz hr (fun q v hq => ?_)
        rw [Array.getElem?_extract] at hq
        split at hq
        · rw [show ρ.c b + (i * sz' + j) + q = ρ.c b + i * sz' + (j + q) from by omega]; exact hq
        · cases hq
    · cases h
  · cases h
end
end Go.Proofs.YtkclgbccnbiojaaGreatDoor.SX

namespace Go.Proofs.YtkclgbccnbiojaaGreatDoor.SX
section
variable {P : Program} {T : Tab} {ρ : Rn} {D : Nat → Prop}
theorem fieldOf_some {i : TI} {f : Nat} {k : Nat → Nat → R AV} {r : AV × G} (h : fieldOf i f k = some r) : ∃ fs o t, i.k = .struct fs ∧ fs[f]? = some (o, t) ∧ k o t = some r := by
  unfold fieldOf at h
  split at h
  · rename_i fs hk
    split at h
    · rename_i o t ho
      exact ⟨fs, o, t, hk, ho, h⟩
    · cases h
  · cases h
theorem field_get {l : Array Field} {f o t : Nat} (h : (l.toList.map fun f => (f.offset, f.type))[f]? = some (o, t)) : ∃ fd, l[f]? = some fd ∧ fd.offset = o ∧ fd.type = t := by
  rw [List.getElem?_map] at h
  cases e : l.toList[f]? with
  | none => rw [e] at h; cases h
  | some fd =>
    rw [e] at h
    simp only [Option.map_some, Option.some.injEq, Prod.mk.injEq] at h
    exact ⟨fd, by simpa using e, h.1, h.2⟩
theorem sized_some {t : Nat} {x : R AV} {r : AV × G} (hT : TabOk P T) (h : sized T t x = some r) : ∃ info, P.info? t = some info ∧ info.size ≠ 0 ∧ x = some r := by
  obtain ⟨i, hi, h⟩ := ti_some h
  obtain ⟨hb, hx⟩ := guardB_some h
  obtain ⟨info, z, d, h1, h2, h3, he⟩ := hT.ti t i hi
  subst he
  refine ⟨info, h1, fun e => ?_, hx⟩
  simp only [e] at hb
  cases hb
theorem run_fieldAt {s f : Nat} {l : Array Field} {fd : Field} {info : TypeInfo} {B o : Nat} (hu : P.underlying s = some (.struct l)) (hf : l[f]? = some fd) (hi : P.info? fd.type = some info) (hz : info.size ≠ 0) (w : World) :
    (Instr.fieldAt s (.pointer (some ⟨B, o, none⟩)) f).run P w = .ok (.pointer (some ⟨B, o + fd.offset, none⟩)) w := by
  simp only [Instr.fieldAt, Sem.run_bind, run_underlying hu, Result.andThen_ok, hf, Instr.sureAddr, Sem.run_pure, Go.fieldPlace, run_size hi, hz, if_false, add_at]
theorem oFieldAddr_ok (hT : TabOk P T) {t f : Nat} {p : AV} {g : G} {r : AV × G} {a : Value} (hp : VR ρ D p a) (h : oFieldAddr T t p f g = some r) : Gives P ρ D g r (Instr.fieldAt t a f) := by
  unfold oFieldAddr at h
  split at h
  · rename_i b o
    obtain ⟨rfl, hb⟩ := hp.ptr_inv
    obtain ⟨i, hi, h⟩ := ti_some h
    obtain ⟨fs, off, ft, hk, hfs, h⟩ := fieldOf_some h
    obtain ⟨info, h1, h2, h⟩ := sized_some hT h
    obtain rfl := rok_some h
    obtain ⟨info0, z, d, e1, e2, e3, he⟩ := hT.ti t i hi
    subst he
    obtain ⟨l, rfl, rfl⟩ := tk_struct hk
    obtain ⟨fd, hfd, rfl, rfl⟩ := field_get hfs
    exact .of (.refl g) (run_fieldAt e3 hfd h1 h2) (.ptr _ _ hb)
  · rename_i b sz i j
    obtain ⟨rfl, hb⟩ := hp.rptr_inv
    obtain ⟨it, hi, h⟩ := ti_some h
    obtain ⟨fs, off, ft, hk, hfs, h⟩ := fieldOf_some h
    obtain ⟨info, h1, h2, h⟩ := sized_some hT h
    obtain rfl := rok_some h
    obtain ⟨info0, z, d, e1, e2, e3, he⟩ := hT.ti t it hi
    subst he
    obtain ⟨l, rfl, rfl⟩ := tk_struct hk
    obtain ⟨fd, hfd, rfl, rfl⟩ := field_get hfs
    exact .of (.refl g) (run_fieldAt e3 hfd h1 h2) (by rw [Nat.add_assoc]; exact .rptr _ _ _ _ hb)
  · rename_i b sz i j
    obtain ⟨rfl, hb⟩ := hp.optr_inv
    obtain ⟨it, hi, h⟩ := ti_some h
    obtain ⟨fs, off, ft, hk, hfs, h⟩ := fieldOf_some h
    obtain ⟨info, h1, h2, h⟩ := sized_some hT h
    obtain rfl := rok_some h
    obtain ⟨info0, z, d, e1, e2, e3, he⟩ := hT.ti t it hi
    subst he
    obtain ⟨l, rfl, rfl⟩ := tk_struct hk
    obtain ⟨fd, hfd, rfl, rfl⟩ := field_get hfs
    exact .of (.refl g) (run_fieldAt e3 hfd h1 h2) (by rw [Nat.add_assoc, Nat.add_assoc]; exact .optr _ _ _ _ hb)
  · cases h
/-- a part of an aggregate -/
theorem part_ok (hT : TabOk P T) {t o : Nat} {cs : List AV} {as : Array Value} {g : G} {r : AV × G} (hL : LR ρ D cs as.toList) (h : loadFrom T t cs o g = some r) : r.2 = g ∧ ∃ x, VR ρ D r.1 x ∧ ∀ w, (part t as o).run P w = .ok x w := by
  obtain ⟨i, hi, h⟩ := ti_some h
  obtain ⟨info, z, d, h1, h2, h3, he⟩ := hT.ti t i hi
  subst he
  simp only at h
  cases ha : (tkD d).isAgg with
  | true =>
    rw [ha] at h
    obtain ⟨hl, h⟩ := guardB_some h
    obtain rfl := rok_some h
    refine ⟨rfl, .agg (as.extract o (o + info.size)), ?_, fun w => ?_⟩
    · have := (hL.seg o info.size).agg
      have e : ((as.toList.drop o).take info.size).toArray = as.extract o (o + info.size) := by
        apply Array.toList_inj.1
        simp
      rw [e] at this
      exact this
    · simp only [part, Sem.run_bind, run_isAgg h3, Result.andThen_ok, ha, if_true, run_size h1, Sem.run_pure]
  | false =>
    rw [ha] at h
    obtain ⟨hx, hg⟩ := at_some h
    obtain ⟨a, ha2, hv⟩ := hL.get hx
    refine ⟨hg, a, hv, fun w => ?_⟩
    have : as[o]? = some a := by simpa using ha2
    simp only [part, Sem.run_bind, run_isAgg h3, Result.andThen_ok, ha, Bool.false_eq_true, if_false, this, Sem.run_pure]
theorem oField_ok (hT : TabOk P T) {t f : Nat} {p : AV} {g : G} {r : AV × G} {a : Value} (hp : VR ρ D p a) (h : oField T t p f g = some r) : Gives P ρ D g r (Instr.field t a f) := by
  obtain ⟨cs, rfl, h⟩ := aggOf_some h
  obtain ⟨as, rfl, hL⟩ := hp.agg_inv
  obtain ⟨i, hi, h⟩ := ti_some h
  obtain ⟨fs, off, ft, hk, hfs, h⟩ := fieldOf_some h
  obtain ⟨info0, z, d, e1, e2, e3, he⟩ := hT.ti t i hi
  subst he
  obtain ⟨l, rfl, rfl⟩ := tk_struct hk
  obtain ⟨fd, hfd, rfl, rfl⟩ := field_get hfs
  obtain ⟨hg, x, hv, hrun⟩ := part_ok hT hL h
  refine ⟨by rw [hg]; exact .refl g, fun _ w => ⟨x, ?_, hv⟩⟩
  simp only [Instr.field, Sem.run_bind, run_underlying e3, Result.andThen_ok, hfd, asAgg, Sem.run_pure, hrun w]
theorem inB_iff {j : Int} {n : Nat} : inB j n = true ↔ 0 ≤ j ∧ j < n := by
  unfold inB
  rw [ilt_eq, ilt_eq]
  simp
theorem run_ixSlice {t e n c : Nat} {info : TypeInfo} {k : IntKind} {j : Int} {B o : Nat} (hu : P.underlying t = some (.slice e)) (hi : P.info? e = some info) (hj : 0 ≤ j ∧ j < n) (w : World) :
    (Instr.indexAt t (.slice (some ⟨B, o, none⟩) n c) (.int k j)).run P w = .ok (.pointer (some ⟨B, o + j.toNat * info.size, none⟩)) w := by
  simp only [Instr.indexAt, Sem.run_bind, asIntOf, Sem.run_pure, Result.andThen_ok, run_underlying hu, hj, and_self, if_true, run_size hi, add_at]
theorem run_ixArray {t e n : Nat} {info : TypeInfo} {k : IntKind} {j : Int} {B o : Nat} (hu : P.underlying t = some (.array n e)) (hi : P.info? e = some info) (hj : 0 ≤ j ∧ j < n) (w : World) :
    (Instr.indexAt t (.pointer (some ⟨B, o, none⟩)) (.int k j)).run P w = .ok (.pointer (some ⟨B, o + j.toNat * info.size, none⟩)) w := by
  simp only [Instr.indexAt, Instr.sureAddr, Sem.run_bind, asIntOf, Sem.run_pure, Result.andThen_ok, run_underlying hu, hj, and_self, if_true, run_size hi, add_at]
theorem ixAddr_ok {s : Bool} {b o sz j : Nat} {g : G} {r : AV × G} (hb : D b) (h : ixAddr s b o sz j g = some r) : r.2 = g ∧ VR ρ D r.1 (.pointer (some ⟨ρ.b b, o + j * sz, none⟩)) := by
  unfold ixAddr at h
  split at h
  · obtain rfl := rok_some h; exact ⟨rfl, .ptr _ _ hb⟩
  · split at h
    · rename_i hz
      obtain rfl := beq_iff.1 hz
      obtain rfl := rok_some h
      refine ⟨rfl, ?_⟩
      have := VR.rptr (ρ := ρ) (D := D) b 1 (o + j) 0 hb
      simpa using this
    · obtain ⟨ho, h⟩ := guardB_some h
      obtain rfl := beq_iff.1 ho
      obtain rfl := rok_some h
      refine ⟨rfl, ?_⟩
      have := VR.rptr (ρ := ρ) (D := D) b sz j 0 hb
      simpa using this
theorem oIndexAddr_ok (hT : TabOk P T) {t : Nat} {x i : AV} {g : G} {r : AV × G} {a c : Value} (hx : VR ρ D x a) (hi : VR ρ D i c) (h : oIndexAddr T t x i g = some r) : Gives P ρ D g r (Instr.indexAt t a c) := by
  obtain ⟨s', k, j, rfl, h⟩ := intOf_some h
  obtain rfl := hi.int_inv
  obtain ⟨it, hit, h⟩ := ti_some h
  obtain ⟨info0, z, d, e1, e2, e3, he⟩ := hT.ti t it hit
  subst he
  unfold oIndexAddrK at h
  split at h
  · rename_i e hk
    obtain rfl := tk_slice hk
    unfold ixSlice at h
    split at h
    · rename_i s b o n cp
      obtain ⟨m, rfl, hb, hnm, _, _⟩ := hx.sl_inv
      obtain ⟨g1, hp, hc, h⟩ := chk_some h
      obtain ⟨ei, hei, h⟩ := ti_some h
      obtain ⟨info, z1, d1, f1, f2, f3, hee⟩ := hT.ti e ei hei
      subst hee
      obtain ⟨hg, hv⟩ := ixAddr_ok (ρ := ρ) hb h
      exact ⟨by rw [hg]; exact hp, fun p w => ⟨_, run_ixSlice e3 f1 (inB_iff.1 (hc (by rw [← hg]; exact p))) w, hv⟩⟩
    · rename_i b n
      obtain ⟨as, c, rfl, hb, ha⟩ := hx.osl_inv
      obtain ⟨g1, hp, hc, h⟩ := chk_some h
      obtain ⟨ei, hei, h⟩ := ti_some h
      obtain ⟨info, z1, d1, f1, f2, f3, hee⟩ := hT.ti e ei hei
      subst hee
      obtain rfl := rok_some h
      refine ⟨hp, fun p w => ?_⟩
      have hj := inB_iff.1 (hc p)
      have e0 := ha (by omega)
      subst e0
      exact ⟨_, run_ixSlice e3 f1 hj w, .optr _ info.size j.toNat 0 hb⟩
    · cases h
  · rename_i n e hk
    obtain rfl := tk_array hk
    unfold ixArr at h
    split at h
    · rename_i b o
      obtain ⟨rfl, hb⟩ := hx.ptr_inv
      obtain ⟨g1, hp, hc, h⟩ := chk_some h
      obtain ⟨ei, hei, h⟩ := ti_some h
      obtain ⟨info, z1, d1, f1, f2, f3, hee⟩ := hT.ti e ei hei
      subst hee
      obtain ⟨hg, hv⟩ := ixAddr_ok (ρ := ρ) hb h
      exact ⟨by rw [hg]; exact hp, fun p w => ⟨_, run_ixArray e3 f1 (inB_iff.1 (hc (by rw [← hg]; exact p))) w, hv⟩⟩
    · rename_i b sz i o _ _
      obtain ⟨rfl, hb⟩ := hx.optr_inv
      obtain ⟨_, h⟩ := guardB_some h
      obtain ⟨hj, h⟩ := guardB_some h
      obtain ⟨ei, hei, h⟩ := ti_some h
      obtain ⟨info, z1, d1, f1, f2, f3, hee⟩ := hT.ti e ei hei
      subst hee
      obtain rfl := rok_some h
      refine ⟨.refl _, fun p w => ⟨_, run_ixArray e3 f1 (inB_iff.1 hj) w, ?_⟩⟩
      have := VR.optr (ρ := ρ) (D := D) b sz i (o + j.toNat * info.size) hb
      rw [show ρ.c b + (i * sz + (o + j.toNat * info.size)) = ρ.c b + (i * sz + o) + j.toNat * info.size from by omega] at this
      exact this
    · cases h
  · cases h
theorem byteAt_eq (s : ByteArray) (j : Int) (h : j.toNat < s.size) : byteAt (bts s) j = (((s[j.toNat]'h).toNat : Nat) : Int) := by
  unfold byteAt bts
  rw [List.getElem?_map]
  have : s.data.toList[j.toNat]? = some (s[j.toNat]'h) := by
    have h2 : j.toNat < s.data.toList.length := by simpa using h
    rw [List.getElem?_eq_getElem h2]
    rfl
  rw [this]; rfl
theorem oIndex_ok (hT : TabOk P T) {t : Nat} {x i : AV} {g : G} {r : AV × G} {a c : Value} (hx : VR ρ D x a) (hi : VR ρ D i c) (h : oIndex T t x i g = some r) : Gives P ρ D g r (Instr.index t a c) := by
  obtain ⟨s', k, j, rfl, h⟩ := intOf_some h
  obtain rfl := hi.int_inv
  obtain ⟨it, hit, h⟩ := ti_some h
  obtain ⟨info0, z, d, e1, e2, e3, he⟩ := hT.ti t it hit
  subst he
  unfold oIndexK at h
  split at h
  · rename_i hk
    obtain rfl := tk_string hk
    obtain ⟨s, l, rfl, h⟩ := strOf_some h
    obtain ⟨b, rfl, rfl⟩ := hx.str_inv
    obtain ⟨g1, hp, hc, h⟩ := chk_some h
    obtain rfl := rok_some h
    refine ⟨hp, fun p w => ?_⟩
    have hj := inB_iff.1 (hc p)
    rw [bts_len] at hj
    have hlt : j.toNat < b.size := by omega
    refine ⟨.int .u8 (((b[j.toNat]'hlt).toNat : Nat) : Int), ?_, by rw [byteAt_eq b j hlt]; exact .int _ _ _⟩
    have hb : b[j.toNat]? = some (b[j.toNat]'hlt) := by simp [hlt]
    simp only [Instr.index, Sem.run_bind, asIntOf, Sem.run_pure, Result.andThen_ok, run_underlying e3, hj.1, if_true, hb]
  · rename_i n e hk
    obtain rfl := tk_array hk
    obtain ⟨cs, rfl, h'⟩ := aggOf_some h
    clear h
    obtain ⟨as, rfl, hL⟩ := hx.agg_inv
    obtain ⟨g1, hp, hc, h⟩ := chk_some h'
    obtain ⟨ei, hei, h⟩ := ti_some h
    obtain ⟨info, z1, d1, f1, f2, f3, hee⟩ := hT.ti e ei hei
    subst hee
    obtain ⟨hg, x, hv, hrun⟩ := part_ok hT hL h
    refine ⟨by rw [hg]; exact hp, fun p w => ⟨x, ?_, hv⟩⟩
    have hj := inB_iff.1 (hc (by rw [← hg]; exact p))
    simp only [Instr.index, Sem.run_bind, asIntOf, Sem.run_pure, Result.andThen_ok, run_underlying e3, hj, and_self, if_true, run_size f1, hrun w]
  · cases h
end
end Go.Proofs.YtkclgbccnbiojaaGreatDoor.SX

namespace Go.Proofs.YtkclgbccnbiojaaGreatDoor.SX
section
variable {P : Program} {T : Tab} {ρ : Rn} {D : Nat → Prop}
/-- an operand that may be left out -/
def OV (ρ : Rn) (D : Nat → Prop) (x : Option AV) (a : Option Value) : Prop := (x = none ∧ a = none) ∨ ∃ v b, x = some v ∧ a = some b ∧ VR ρ D v b
theorem OV.map {ρ : Rn} {D : Nat → Prop} {f : Operand → AV} {k : Operand → Value} (h : ∀ x, VR ρ D (f x) (k x)) (o : Option Operand) : OV ρ D (o.map f) (o.map k) := by
  cases o with
  | none => exact .inl ⟨rfl, rfl⟩
  | some x => exact .inr ⟨_, _, rfl, rfl, h x⟩
/-- a bound as Go has it -/
def Bd (d : Nat) (a : Option Value) (l : Int) : Prop := (a = none ∧ l = d) ∨ ∃ k, a = some (.int k l)
theorem optInt_some {d : Nat} {v : Option AV} {a : Option Value} {f : Bool → Int → R AV} {r : AV × G} (hv : OV ρ D v a) (h : optInt d v f = some r) : ∃ s l, Bd d a l ∧ f s l = some r := by
  unfold optInt at h
  rcases hv with ⟨rfl, rfl⟩ | ⟨v, b, rfl, rfl, hv⟩
  · exact ⟨false, d, .inl ⟨rfl, rfl⟩, h⟩
  · obtain ⟨s, k, n, rfl, h⟩ := intOf_some h
    obtain rfl := hv.int_inv
    exact ⟨s, n, .inr ⟨k, rfl⟩, h⟩
theorem okCut_iff {l h : Int} {m : Nat} : okCut l h m = true ↔ 0 ≤ l ∧ l ≤ h ∧ h ≤ m := by
  unfold okCut
  rw [ilt_eq, ilt_eq, ilt_eq]
  simp [and_assoc]
theorem run_bounds {isS : Bool} {len cap : Nat} {lo hi : Option Value} {l h : Int} (hlo : Bd 0 lo l) (hhi : Bd len hi h) (h0 : 0 ≤ l) (h1 : l ≤ h) (h2 : h ≤ cap) (w : World) :
    (Instr.sliceBounds isS len cap lo hi none).run P w = .ok (l.toNat, h.toNat, cap) w := by
  have hb : ∀ (k : IntKind) (i : Int) (y : Nat) (c : BoundsCode), 0 ≤ i → i ≤ y → (Instr.sliceBound (.int k i) y c).run P w = .ok i.toNat w := by
    intro k i y c h0 h1
    simp [Instr.sliceBound, asIntOf, h0, h1]
  have hh : ((h.toNat : Nat) : Int) = h := Int.toNat_of_nonneg (by omega)
  unfold Instr.sliceBounds
  rcases hhi with ⟨rfl, rfl⟩ | ⟨k, rfl⟩
  · rcases hlo with ⟨rfl, rfl⟩ | ⟨k', rfl⟩
    · simp
    · simp [hb k' l len .sliceB h0 h1]
  · rcases hlo with ⟨rfl, rfl⟩ | ⟨k', rfl⟩
    · simp [hb k h cap _ (by omega) h2]
    · simp [hb k h cap _ (by omega) h2, hb k' l h.toNat .sliceB h0 (by rw [hh]; exact h1)]
theorem cutAt_ok {s : Bool} {b o sz n l m : Nat} {c : Nat → Cap} {g : G} {r : AV × G} {x : Nat → Value} (h : cutAt s b o sz n l m c g = some r)
    (hx : ∀ o', (VR ρ D (.sl s b o' n (c l)) (.slice (some ⟨ρ.b b, o', none⟩) n (m - l)))) :
    Pc g r.2 ∧ (r.2.pc → VR ρ D r.1 (.slice (some (if m = l then ⟨ρ.b b, o, none⟩ else ⟨ρ.b b, o + l * sz, none⟩)) n (m - l))) := by
  obtain ⟨z, g1, hp, hc, h⟩ := test_some h
  cases z with
  | true =>
    obtain rfl := rok_some h
    refine ⟨hp, fun p => ?_⟩
    have : m = l := beq_iff.1 (hc p)
    rw [if_pos this]; exact hx o
  | false =>
    obtain rfl := rok_some h
    refine ⟨hp, fun p => ?_⟩
    have : m ≠ l := fun e => by have := hc p; rw [beq_t e] at this; cases this
    rw [if_neg this]; exact hx _
theorem run_sliceS {t e len cap : Nat} {info : TypeInfo} {B o : Nat} {lo hi : Option Value} {l h : Int} (hu : P.underlying t = some (.slice e)) (hi' : P.info? e = some info) (hlo : Bd 0 lo l) (hhi : Bd len hi h) (h0 : 0 ≤ l) (h1 : l ≤ h) (h2 : h ≤ cap) (w : World) :
    (Instr.sliceAt t (.slice (some ⟨B, o, none⟩) len cap) lo hi none).run P w = .ok (.slice (some (if cap = l.toNat then ⟨B, o, none⟩ else ⟨B, o + l.toNat * info.size, none⟩)) (h.toNat - l.toNat) (cap - l.toNat)) w := by
  simp only [Instr.sliceAt, Instr.slice, Sem.run_bind, run_underlying hu, Result.andThen_ok, run_bounds hlo hhi h0 h1 h2 w, run_size hi', Sem.run_pure]
  split <;> simp [add_at]
theorem run_sliceA {t e n : Nat} {info : TypeInfo} {B o : Nat} {lo hi : Option Value} {l h : Int} (hu : P.underlying t = some (.array n e)) (hi' : P.info? e = some info) (hlo : Bd 0 lo l) (hhi : Bd n hi h) (h0 : 0 ≤ l) (h1 : l ≤ h) (h2 : h ≤ n) (w : World) :
    (Instr.sliceAt t (.pointer (some ⟨B, o, none⟩)) lo hi none).run P w = .ok (.slice (some (if n = l.toNat then ⟨B, o, none⟩ else ⟨B, o + l.toNat * info.size, none⟩)) (h.toNat - l.toNat) (n - l.toNat)) w := by
  simp only [Instr.sliceAt, Instr.sureAddr, Sem.run_bind, run_underlying hu, Result.andThen_ok, run_bounds hlo hhi h0 h1 h2 w, run_size hi', Sem.run_pure, add_at]
theorem cutSl_kn_ok {s : Bool} {sz b o n c : Nat} {l h : Int} {g : G} {r : AV × G} (hb : D b) (hh : cutSl s sz b o n (.kn c) l h g = some r) :
    Pc g r.2 ∧ (r.2.pc → 0 ≤ l ∧ l ≤ h ∧ h ≤ c ∧ VR ρ D r.1 (.slice (some (if c = l.toNat then ⟨ρ.b b, o, none⟩ else ⟨ρ.b b, o + l.toNat * sz, none⟩)) (h.toNat - l.toNat) (c - l.toNat))) := by
  obtain ⟨g1, hp, hc, hh⟩ := chk_some hh
  have key : ∀ p : g1.pc, 0 ≤ l ∧ l ≤ h ∧ h ≤ c := fun p => okCut_iff.1 (hc p)
  by_cases hg : g1.pc
  · obtain ⟨h0, h1, h2⟩ := key hg
    obtain ⟨hp2, hv⟩ := cutAt_ok (ρ := ρ) (D := D) (x := fun _ => undef) hh (fun o' => .slk _ _ _ _ _ hb (by omega))
    exact ⟨hp.trans hp2, fun p => ⟨h0, h1, h2, hv p⟩⟩
  · obtain ⟨z, g2, hp2, hc2, hh2⟩ := test_some hh
    have e : r.2 = g2 := by cases z <;> (obtain rfl := rok_some hh2; rfl)
    exact ⟨hp.trans (by rw [e]; exact hp2), fun p => absurd (hp2.pc (by rw [← e]; exact p)) hg⟩
theorem cutSl_g {s : Bool} {sz b o n : Nat} {c : Cap} {l h : Int} {g : G} {r : AV × G} (hh : cutSl s sz b o n c l h g = some r) : Pc g r.2 := by
  cases c with
  | kn c =>
    obtain ⟨g1, hp, hc, hh⟩ := chk_some hh
    obtain ⟨z, g2, hp2, hc2, hh2⟩ := test_some hh
    have e : r.2 = g2 := by cases z <;> (obtain rfl := rok_some hh2; rfl)
    rw [e]; exact hp.trans hp2
  | un k =>
    have hh : chk s (okCut l h n) g (fun g => test s (n.beq l.toNat) g fun z g => match z with | true => rok AV.bad g | false => rok (.sl s b (o + l.toNat * sz) (h.toNat - l.toNat) (.un (k + l.toNat))) g) = some r := hh
    obtain ⟨g1, hp, hc, hh⟩ := chk_some hh
    obtain ⟨z, g2, hp2, hc2, hh2⟩ := test_some hh
    have e : r.2 = g2 := by cases z <;> (obtain rfl := rok_some hh2; rfl)
    rw [e]; exact hp.trans hp2
theorem cutSl_un_ok {s : Bool} {sz b o n k : Nat} {l h : Int} {g : G} {r : AV × G} (hb : D b) (hn : n + k ≤ ρ.c b) (hh : cutSl s sz b o n (.un k) l h g = some r) (p : r.2.pc) :
    0 ≤ l ∧ l ≤ h ∧ h ≤ n ∧ VR ρ D r.1 (.slice (some (if ρ.c b - k = l.toNat then ⟨ρ.b b, o, none⟩ else ⟨ρ.b b, o + l.toNat * sz, none⟩)) (h.toNat - l.toNat) (ρ.c b - k - l.toNat)) := by
  have hh : chk s (okCut l h n) g (fun g => test s (n.beq l.toNat) g fun z g => match z with | true => rok AV.bad g | false => rok (.sl s b (o + l.toNat * sz) (h.toNat - l.toNat) (.un (k + l.toNat))) g) = some r := hh
  obtain ⟨g1, hp, hc, hh⟩ := chk_some hh
  obtain ⟨z, g2, hp2, hc2, hh2⟩ := test_some hh
  have e : r.2 = g2 := by cases z <;> (obtain rfl := rok_some hh2; rfl)
  rw [e] at p
  obtain ⟨h0, h1, h2⟩ := okCut_iff.1 (hc (hp2.pc p))
  refine ⟨h0, h1, h2, ?_⟩
  cases z with
  | true => obtain rfl := rok_some hh2; exact .bad _
  | false =>
    obtain rfl := rok_some hh2
    have hne : n ≠ l.toNat := fun e => by have := hc2 p; rw [beq_t e] at this; cases this
    rw [if_neg (by omega), Nat.sub_sub]
    exact .slu _ _ _ _ _ hb (by omega)
theorem bts_cut (b : ByteArray) (l h : Nat) (h1 : l ≤ h) (h2 : h ≤ b.size) : ((bts b).drop l).take (h - l) = bts (b.extract l h) := by
  simp only [bts, ByteArray.data_extract, Array.toList_extract, List.extract_eq_take_drop, List.map_take, List.map_drop]
theorem oSlice_ok (hT : TabOk P T) {t : Nat} {x : AV} {lo hi : Option AV} {g : G} {r : AV × G} {a : Value} {lo' hi' : Option Value} (hx : VR ρ D x a) (hlo : OV ρ D lo lo') (hhi : OV ρ D hi hi')
    (h : oSlice T t x lo hi g = some r) : Gives P ρ D g r (Instr.sliceAt t a lo' hi' none) := by
  unfold oSlice at h
  split at h
  · rename_i s l0
    obtain ⟨b, rfl, rfl⟩ := hx.str_inv
    obtain ⟨d, hu, hd, h⟩ := isK_some hT h
    obtain rfl := tag_string hd
    obtain ⟨s1, l, hl, h⟩ := optInt_some hlo h
    obtain ⟨s2, m, hm, h⟩ := optInt_some hhi h
    obtain ⟨g1, hp, hc, h⟩ := chk_some h
    obtain rfl := rok_some h
    refine ⟨hp, fun p w => ⟨.string (b.extract l.toNat m.toNat), ?_, ?_⟩⟩
    · obtain ⟨h0, h1, h2⟩ := okCut_iff.1 (hc p)
      rw [bts_len] at hm h2
      simp only [Instr.sliceAt, Instr.slice, Sem.run_bind, run_underlying hu, Result.andThen_ok, run_bounds hl hm h0 h1 h2 w, Sem.run_pure, Option.isSome_none, Bool.false_eq_true, if_false]
    · obtain ⟨h0, h1, h2⟩ := okCut_iff.1 (hc p)
      rw [bts_len] at h2
      rw [bts_cut b _ _ (by omega) (by omega)]
      exact .str _ _
  · obtain rfl := hx.nils_inv
    obtain ⟨i, hi1, h⟩ := ti_some h
    obtain ⟨info0, z, d, e1, e2, e3, he⟩ := hT.ti t i hi1
    subst he
    obtain ⟨e, hk, h⟩ := elem_some h
    obtain rfl := tk_slice hk
    obtain ⟨ei, hei, h⟩ := ti_some h
    obtain ⟨info, z1, d1, f1, f2, f3, hee⟩ := hT.ti e ei hei
    obtain ⟨s1, l, hl, h⟩ := optInt_some hlo h
    obtain ⟨s2, m, hm, h⟩ := optInt_some hhi h
    obtain ⟨hb, h⟩ := guardB_some h
    obtain rfl := rok_some h
    rw [ieq_eq, ieq_eq] at hb
    simp only [Bool.and_eq_true, beq_iff_eq] at hb
    obtain ⟨rfl, rfl⟩ := hb
    refine .of (x := .slice none 0 0) (.refl g) (fun w => ?_) .nils
    simp only [Instr.sliceAt, Instr.slice, Sem.run_bind, run_underlying e3, Result.andThen_ok, run_bounds (isS := true) (cap := 0) hl hm (by omega) (by omega) (by omega) w, run_size f1, Sem.run_pure]
    rfl
  · rename_i s b o n c
    obtain ⟨i, hi1, h⟩ := ti_some h
    obtain ⟨info0, z, d, e1, e2, e3, he⟩ := hT.ti t i hi1
    subst he
    obtain ⟨e, hk, h⟩ := elem_some h
    obtain rfl := tk_slice hk
    obtain ⟨ei, hei, h⟩ := ti_some h
    obtain ⟨info, z1, d1, f1, f2, f3, hee⟩ := hT.ti e ei hei
    subst hee
    obtain ⟨s1, l, hl, h⟩ := optInt_some hlo h
    obtain ⟨s2, m, hm, h⟩ := optInt_some hhi h
    refine ⟨cutSl_g h, fun p w => ?_⟩
    cases hx with
    | slk s b o n c hb hn =>
      obtain ⟨h0, h1, h2, hv⟩ := (cutSl_kn_ok hb h).2 p
      exact ⟨_, run_sliceS e3 f1 hl hm h0 h1 h2 w, hv⟩
    | slu s b o n k hb hn =>
      obtain ⟨h0, h1, h2, hv⟩ := cutSl_un_ok hb hn h p
      exact ⟨_, run_sliceS e3 f1 hl hm h0 h1 (by omega) w, hv⟩
  · rename_i b o
    obtain ⟨rfl, hb⟩ := hx.ptr_inv
    obtain ⟨i, hi1, h⟩ := ti_some h
    obtain ⟨info0, z, d, e1, e2, e3, he⟩ := hT.ti t i hi1
    subst he
    unfold cutArr at h
    split at h
    · rename_i n e hk
      obtain rfl := tk_array hk
      obtain ⟨ei, hei, h⟩ := ti_some h
      obtain ⟨info, z1, d1, f1, f2, f3, hee⟩ := hT.ti e ei hei
      subst hee
      obtain ⟨s1, l, hl, h⟩ := optInt_some hlo h
      obtain ⟨s2, m, hm, h⟩ := optInt_some hhi h
      refine ⟨cutSl_g h, fun p w => ?_⟩
      obtain ⟨h0, h1, h2, hv⟩ := (cutSl_kn_ok hb h).2 p
      exact ⟨_, run_sliceA e3 f1 hl hm h0 h1 h2 w, hv⟩
    · cases h
  · cases h
end
end Go.Proofs.YtkclgbccnbiojaaGreatDoor.SX

namespace Go.Proofs.YtkclgbccnbiojaaGreatDoor.SX
theorem putSeg_get {cs new : List AV} {o : Nat} (h : o + new.length ≤ cs.length) (q : Nat) : (putSeg cs o new)[q]? = if q < o then cs[q]? else if q < o + new.length then new[q - o]? else cs[q]? := by
  unfold putSeg
  by_cases h1 : q < o
  · rw [if_pos h1, List.getElem?_append_left (by simp; omega), List.getElem?_take, if_pos h1]
  · rw [if_neg h1, List.getElem?_append_right (by simp; omega)]
    have e : (cs.take o).length = o := by simp; omega
    rw [e]
    by_cases h2 : q < o + new.length
    · rw [if_pos h2, List.getElem?_append_left (by omega)]
    · rw [if_neg h2, List.getElem?_append_right (by omega), List.getElem?_drop]
      congr 1; omega
theorem putSeg_length {cs new : List AV} {o : Nat} (h : o + new.length ≤ cs.length) : (putSeg cs o new).length = cs.length := by
  simp [putSeg]; omega
/-- cells written one behind the other -/
def putAt (arr : Array Value) (o : Nat) : List Value → Array Value
  | [] => arr
  | v :: r => putAt (arr.setIfInBounds o v) (o + 1) r
theorem putAt_size (vs : List Value) : ∀ (arr : Array Value) (o : Nat), (putAt arr o vs).size = arr.size := by
  induction vs with
  | nil => intro arr o; rfl
  | cons v r ih => intro arr o; rw [putAt, ih]; simp
theorem putAt_get (vs : List Value) : ∀ (arr : Array Value) (o : Nat), o + vs.length ≤ arr.size → ∀ q, (putAt arr o vs)[q]? = if q < o then arr[q]? else if q < o + vs.length then vs[q - o]? else arr[q]? := by
  induction vs with
  | nil => intro arr o h q; rw [putAt]; simp only [List.length_nil, Nat.add_zero]; split <;> rfl
  | cons v r ih =>
    intro arr o h q
    simp only [List.length_cons] at h
    rw [putAt, ih _ _ (by simp; omega)]
    simp only [List.length_cons]
    by_cases h1 : q < o
    · rw [if_pos (by omega), if_pos h1, Array.getElem?_setIfInBounds_ne (by omega)]
    · rw [if_neg h1]
      by_cases h2 : q = o
      · subst h2
        rw [if_pos (by omega), if_pos (by omega), Array.getElem?_setIfInBounds_self_of_lt (by omega)]
        simp
      · rw [if_neg (by omega)]
        by_cases h3 : q < o + (r.length + 1)
        · rw [if_pos (by omega), if_pos h3]
          rw [show q - o = (q - (o + 1)) + 1 from by omega, List.getElem?_cons_succ]
        · rw [if_neg (by omega), if_neg h3, Array.getElem?_setIfInBounds_ne (by omega)]
theorem putAt_foldl (vs : List Value) : ∀ (arr : Array Value) (o k : Nat), (vs.zipIdx k).foldl (fun cs (p : Value × Nat) => cs.setIfInBounds (o + p.2) p.1) arr = putAt arr (o + k) vs := by
  induction vs with
  | nil => intro arr o k; rfl
  | cons v r ih =>
    intro arr o k
    rw [List.zipIdx_cons, List.foldl_cons, ih, putAt]; rfl
section
variable {P : Program} {ρ : Rn} {D : Nat → Prop}
theorem ReadL.put {cs new : List AV} {arr : Array Value} {vs : List Value} {o : Nat} (h : ReadL ρ D cs arr) (hn : LR ρ D new vs) (hl : o + new.length ≤ cs.length) (hs : cs.length ≤ arr.size) : ReadL ρ D (putSeg cs o new) (putAt arr o vs) := by
  intro q x hq
  rw [putSeg_get hl] at hq
  have hv : o + vs.length ≤ arr.size := by rw [← hn.1]; omega
  rw [putAt_get _ _ _ hv]
  by_cases h1 : q < o
  · rw [if_pos h1] at hq ⊢; exact h q x hq
  · rw [if_neg h1] at hq ⊢
    by_cases h2 : q < o + new.length
    · rw [if_pos h2] at hq; rw [if_pos (by rw [← hn.1]; exact h2)]; exact hn.get hq
    · rw [if_neg h2] at hq; rw [if_neg (by rw [← hn.1]; exact h2)]; exact h q x hq
theorem LR.read {cs : List AV} {as : Array Value} (h : LR ρ D cs as.toList) : ReadL ρ D cs as := fun i x hx => by
  obtain ⟨a, ha, hv⟩ := h.get hx
  exact ⟨a, by simpa using ha, hv⟩
theorem ReadL.lr {cs : List AV} {as : Array Value} (h : ReadL ρ D cs as) (hl : cs.length = as.size) : LR ρ D cs as.toList := ⟨by simp [hl], fun i x a hx ha => by
  obtain ⟨b, hb, hv⟩ := h i x hx
  have : as[i]? = some a := by simpa using ha
  rw [this] at hb
  injection hb with hb
  subst hb
  exact hv⟩
/-- the world with one block's cells changed -/
structure Only (w w' : World) (B : Nat) (o : Obj) : Prop where
  os : w'.os = w.os
  tape : w'.tape = w.tape
  output : w'.output = w.output
  size : w'.heap.size = w.heap.size
  here : w'.heap[B]? = some o
  keep : ∀ i, i ≠ B → w'.heap[i]? = w.heap[i]?
theorem setCell_only {w : World} {B o e : Nat} {arr : Array Value} {fz : Nat × Nat} {v : Value} (h : w.heap[B]? = some (.cells arr e fz)) : Only w (w.setCell ⟨B, o, none⟩ v) B (.cells (arr.setIfInBounds o v) e fz) := by
  have hB : B < w.heap.size := (Array.getElem?_eq_some_iff.1 h).1
  refine ⟨rfl, rfl, rfl, by simp [World.setCell], ?_, fun i hi => ?_⟩
  · simp only [World.setCell]
    rw [Array.getElem?_modify, if_pos rfl, h]
    simp
  · simp only [World.setCell]
    rw [Array.getElem?_modify, if_neg (fun e => hi e.symm)]
theorem one_of {ρ : Rn} {D : Nat → Prop} {v : AV} {x : Value} (h : VR ρ D v x) (ho : oneCell v = true) : x.oneCell' = true := by
  cases h <;> first | rfl | (cases ho; done) | assumption
theorem run_store1 {w : World} {B o e : Nat} {arr : Array Value} {fz : Nat × Nat} {v : Value} (h : w.heap[B]? = some (.cells arr e fz)) (hO : Open fz arr.size) (ho : o < arr.size) (h1 : v.oneCell' = true) :
    (store ⟨B, o, none⟩ v).run P w = .ok () (w.setCell ⟨B, o, none⟩ v) := by
  rw [run_store P w _ v _ h1, cell_at h, Array.getElem?_eq_getElem ho, frozen_at h hO ho]
  rfl
theorem run_stores (vs : List Value) : ∀ (w : World) (B o k e : Nat) (arr : Array Value) (fz : Nat × Nat), w.heap[B]? = some (.cells arr e fz) → Open fz arr.size → o + k + vs.length ≤ arr.size → (∀ v ∈ vs, v.oneCell' = true) →
    ∃ w', (storeCells ⟨B, o, none⟩ vs k).run P w = .ok () w' ∧ Only w w' B (.cells (putAt arr (o + k) vs) e fz) := by
  induction vs with
  | nil => intro w B o k e arr fz h hO hl h1; exact ⟨w, rfl, rfl, rfl, rfl, rfl, h, fun _ _ => rfl⟩
  | cons v r ih =>
    intro w B o k e arr fz h hO hl h1
    simp only [List.length_cons] at hl
    have hs := setCell_only (o := o + k) (v := v) h
    obtain ⟨w', hr, ho⟩ := ih (w.setCell ⟨B, o + k, none⟩ v) B o (k + 1) e _ fz hs.here (by simpa using hO) (by simp; omega) (fun u hu => h1 u (List.mem_cons_of_mem _ hu))
    refine ⟨w', ?_, ho.os.trans hs.os, ho.tape.trans hs.tape, ho.output.trans hs.output, ho.size.trans hs.size, ?_, fun i hi => (ho.keep i hi).trans (hs.keep i hi)⟩
    · simp only [storeCells, Sem.run_bind, add_at]
      rw [run_store1 h hO (by omega) (h1 v (List.mem_cons_self ..))]
      exact hr
    · rw [putAt, Nat.add_assoc]; exact ho.here
end
end Go.Proofs.YtkclgbccnbiojaaGreatDoor.SX

namespace Go.Proofs.YtkclgbccnbiojaaGreatDoor.SX
section
variable {P : Program} {T : Tab} {ρ : Rn} {D : Nat → Prop}
/-- parts of a literal -/
def PR (ρ : Rn) (D : Nat → Prop) (ps : List (Nat × AV)) (qs : List (Nat × Value)) : Prop := ps.length = qs.length ∧ ∀ (i : Nat) (p : Nat × AV) (q : Nat × Value), ps[i]? = some p → qs[i]? = some q → p.1 = q.1 ∧ VR ρ D p.2 q.2
theorem fill_ok (place : Nat → Option (Nat × Nat)) : ∀ (ps : List (Nat × AV)) (qs : List (Nat × Value)) (cs cs' : List AV) (as : Array Value), PR ρ D ps qs → LR ρ D cs as.toList → fillParts place ps cs = some cs' →
    ∃ as', Instr.fill place as qs = some as' ∧ LR ρ D cs' as'.toList := by
  intro ps
  induction ps with
  | nil =>
    intro qs cs cs' as hp hL h
    have : qs = [] := List.length_eq_zero_iff.1 hp.1.symm
    subst this
    injection h with h
    subst h
    exact ⟨as, rfl, hL⟩
  | cons p r ih =>
    intro qs cs cs' as hp hL h
    cases qs with
    | nil => have := hp.1; simp at this
    | cons q qs =>
      obtain ⟨e1, hv⟩ := hp.2 0 p q rfl rfl
      have hp' : PR ρ D r qs := ⟨by have := hp.1; simpa using this, fun i a b ha hb => hp.2 (i + 1) a b (by simpa using ha) (by simpa using hb)⟩
      change fillOne place p (fillParts place r) cs = some cs' at h
      unfold fillOne at h
      obtain ⟨q1, q2⟩ := q
      simp only at e1 hv
      subst e1
      cases hpl : place p.1 with
      | none => rw [hpl] at h; cases h
      | some os =>
        obtain ⟨off, size⟩ := os
        rw [hpl] at h
        simp only at h
        cases hc : (notBad p.2 && p.2.cells.length.beq size && (off + size).ble cs.length) with
        | false => rw [hc] at h; cases h
        | true =>
          rw [hc] at h
          simp only [cond_true] at h
          simp only [Bool.and_eq_true, beq_iff, ble_iff] at hc
          obtain ⟨⟨hb, hsz⟩, hle⟩ := hc
          have hcell := hv.cells (notBad_ne hb)
          have hl : off + p.2.cells.length ≤ cs.length := by omega
          have hcl : p.2.cells.length = q2.cells.size := by have := hcell.1; simpa using this
          have has : cs.length = as.size := by have := hL.1; simpa using this
          have hL' : LR ρ D (putSeg cs off p.2.cells) (putAt as off q2.cells.toList).toList :=
            (hL.read.put hcell hl (by omega)).lr (by rw [putSeg_length hl, putAt_size]; omega)
          obtain ⟨as', hf, hL2⟩ := ih qs _ cs' _ hp' hL' h
          refine ⟨as', ?_, hL2⟩
          rw [Instr.fill, hpl]
          have hcond : (decide (q2.cells.size ≠ size) || decide (off + q2.cells.size > as.size)) = false := by
            simp; omega
          simp only
          rw [if_neg (by rw [hcond]; simp)]
          have e : q2.cells.zipIdx.foldl (fun cs (p : Value × Nat) => cs.setIfInBounds (off + p.2) p.1) as = putAt as off q2.cells.toList := by
            rw [← Array.foldl_toList, Array.toList_zipIdx]
            exact putAt_foldl q2.cells.toList as off 0
          rw [← hf, ← e]
theorem zero_LR {z : Value} : LR ρ D (z.cells.toList.map ofCell) z.cells.toList := ofCells_ok ρ D _
theorem hasTi_some (hT : TabOk P T) {t : Nat} (h : hasTi T t = true) : ∃ (info : TypeInfo) (z : Value) (d : TypeDesc), P.info? t = some info ∧ T.ti.get t = some ⟨tkD d, info.size, info.bytes, z.cells.toList.map ofCell⟩ := by
  unfold hasTi at h
  cases e : T.ti.get t with
  | none => rw [e] at h; cases h
  | some i =>
    obtain ⟨info, z, d, h1, h2, h3, he⟩ := hT.ti t i e
    subst he
    exact ⟨info, z, d, h1, rfl⟩
theorem places_ok (hT : TabOk P T) : ∀ (l : List Field), (l.map fun f => (f.offset, f.type)).all (fun f => hasTi T f.2) = true → ∃ places, l.mapM (fun f => (P.info? f.type).map fun i => (f.offset, i.size)) = some places ∧ ∀ j, SX.fieldPlace T (l.map fun f => (f.offset, f.type)) j = places[j]? := by
  intro l
  induction l with
  | nil => intro _; exact ⟨[], rfl, fun j => by simp [SX.fieldPlace]⟩
  | cons f r ih =>
    intro h
    simp only [List.map_cons, List.all_cons, Bool.and_eq_true] at h
    obtain ⟨info, z, d, h1, h2⟩ := hasTi_some hT h.1
    obtain ⟨pl, hm, hp⟩ := ih h.2
    refine ⟨(f.offset, info.size) :: pl, by simp [h1, hm], fun j => ?_⟩
    cases j with
    | zero => simp [SX.fieldPlace, h2]
    | succ j =>
      have := hp j
      simp only [SX.fieldPlace, List.map_cons, List.getElem?_cons_succ] at this ⊢
      exact this
theorem oBuild_ok (hT : TabOk P T) {t : Nat} {ps : List (Nat × AV)} {qs : Array (Nat × Value)} {g : G} {r : AV × G} (hp : PR ρ D ps qs.toList) (h : oBuild T t ps g = some r) : Gives P ρ D g r (Instr.build t qs) := by
  obtain ⟨i, hi, h⟩ := ti_some h
  obtain ⟨info, z, d, e1, e2, e3, he⟩ := hT.ti t i hi
  subst he
  unfold oBuildK at h
  split at h
  · rename_i fs hk
    obtain ⟨l, rfl, rfl⟩ := tk_struct hk
    obtain ⟨hall, h⟩ := guardB_some h
    obtain ⟨cs, hf, h⟩ := obind_some h
    obtain rfl := rok_some h
    obtain ⟨places, hm, hpl⟩ := places_ok hT l.toList hall
    obtain ⟨as', hfill, hL⟩ := fill_ok (ρ := ρ) (D := D) _ ps qs.toList _ cs z.cells hp zero_LR hf
    have e : (fun j => SX.fieldPlace T (l.toList.map fun f => (f.offset, f.type)) j) = (fun j => places.toArray[j]?) := by funext j; rw [hpl]; simp
    refine .of (.refl g) (fun w => run_build w t qs as' ?_) ?_
    · simp only [Program.built, e1, e3, e2, hm]
      rw [← hfill]
      congr 1
      exact e.symm
    · exact .agg _ _ (by have := hL.1; simpa using this) (fun i x a hx ha => hL.2 i x a hx (by simpa using ha))
  · rename_i n e hk
    obtain rfl := tk_array hk
    obtain ⟨ei, hei, h⟩ := ti_some h
    obtain ⟨info', z1, d1, f1, f2, f3, hee⟩ := hT.ti e ei hei
    subst hee
    obtain ⟨cs, hf, h⟩ := obind_some h
    obtain rfl := rok_some h
    obtain ⟨as', hfill, hL⟩ := fill_ok (ρ := ρ) (D := D) _ ps qs.toList _ cs z.cells hp zero_LR hf
    refine .of (.refl g) (fun w => run_build w t qs as' ?_) ?_
    · simp only [Program.built, e1, e3, e2, f1]
      exact hfill
    · exact .agg _ _ (by have := hL.1; simpa using this) (fun i x a hx ha => hL.2 i x a hx (by simpa using ha))
  · cases h
/-! ### conversions -/
theorem toInt_ok {s d : Nat} {ds : TypeDesc} {k : IntKind} {x : AV} {a : Value} {g : G} {r : AV × G} (hs : P.underlying s = some ds) (hd : P.underlying d = some (.int k)) (hx : VR ρ D x a) (h : toInt k x g = some r) : Gives P ρ D g r (convert s d a) := by
  obtain ⟨s1, k1, n, rfl, h⟩ := intOf_some h
  obtain rfl := hx.int_inv
  obtain rfl := rok_some h
  rw [wr_eq]
  exact .of (x := .int k (k.wrap n)) (.refl g) (fun w => by simp only [convert, Sem.run_bind, run_underlying hs, run_underlying hd, Result.andThen_ok]; rfl) (.int _ _ _)
theorem strKeep_ok {s d : Nat} {ds : TypeDesc} {x : AV} {a : Value} {g : G} {r : AV × G} (hs : P.underlying s = some ds) (hd : P.underlying d = some .string) (hx : VR ρ D x a) (h : strKeep x g = some r) : Gives P ρ D g r (convert s d a) := by
  unfold strKeep at h
  split at h
  · obtain ⟨b, rfl, rfl⟩ := hx.str_inv
    obtain rfl := rok_some h
    exact .of (x := .string b) (.refl g) (fun w => by simp only [convert, Sem.run_bind, run_underlying hs, run_underlying hd, Result.andThen_ok]; rfl) (.str _ _)
  · cases h
theorem bytesOf_push (ns : List Int) : ∀ s : ByteArray, bts (ns.foldl (fun r n => r.push (UInt8.ofNat n.toNat)) s) = bts s ++ ns.map fun n => n.toNat % 256 := by
  induction ns with
  | nil => intro s; simp
  | cons n r ih =>
    intro s
    rw [List.foldl_cons, ih]
    have : bts (s.push (UInt8.ofNat n.toNat)) = bts s ++ [n.toNat % 256] := by
      simp [bts, ByteArray.push]
    rw [this]; simp
theorem bytesCells_ok {cs : List AV} {l : Bool × List Nat} {as : List Value} (hL : LR ρ D cs as) (h : bytesOfCells cs = some l) : ∃ ns : List Int, as = ns.map (Value.int .u8) ∧ l.2 = ns.map fun n => n.toNat % 256 := by
  induction cs generalizing l as with
  | nil =>
    injection h with h
    subst h
    have : as = [] := List.length_eq_zero_iff.1 hL.1.symm
    subst this
    exact ⟨[], rfl, rfl⟩
  | cons c r ih =>
    cases as with
    | nil => have := hL.1; simp at this
    | cons a as =>
      change byteCell c (bytesOfCells r) = some l at h
      have hc := hL.2 0 c a rfl rfl
      have hr : LR ρ D r as := ⟨by have := hL.1; simpa using this, fun i x y hx hy => hL.2 (i + 1) x y (by simpa using hx) (by simpa using hy)⟩
      unfold byteCell at h
      split at h
      · rename_i s0 n
        split at h
        · rename_i s' l' hl'
          injection h with h
          subst h
          obtain ⟨ns, rfl, hns⟩ := ih hr hl'
          obtain rfl := hc.int_inv
          simp only at hns
          subst hns
          exact ⟨n :: ns, rfl, rfl⟩
        · cases h
      · cases h
theorem run_toStr {s d e : Nat} (hs : P.underlying s = some (.slice e)) (he : P.underlying e = some (.int .u8)) (hd : P.underlying d = some .string) (x : Value) (hx : ∃ a n c, x = .slice a n c) (w : World) : (convert s d x).run P w = (Conv.bytesToString x).run P w := by
  obtain ⟨a, n, c, rfl⟩ := hx
  cases a <;> simp only [convert, Sem.run_bind, run_underlying hs, run_underlying hd, run_underlying he, Result.andThen_ok]
theorem toStr_ok {s d e : Nat} {x : AV} {a : Value} {g : G} {r : AV × G} (hs : P.underlying s = some (.slice e)) (he : P.underlying e = some (.int .u8)) (hd : P.underlying d = some .string) (hx : VR ρ D x a) (h : toStr x g = some r) : Reads P ρ D g r (convert s d a) := by
  unfold toStr at h
  split at h
  · obtain rfl := hx.nils_inv
    obtain rfl := rok_some h
    refine ⟨.refl g, fun _ w _ => ⟨.string .empty, ?_, ?_⟩⟩
    · rw [run_toStr hs he hd _ ⟨_, _, _, rfl⟩]; rfl
    · exact VR.str false ByteArray.empty
  · rename_i s1 b o n c
    obtain ⟨ob, hob, h⟩ := obj_some h
    obtain ⟨m, rfl, hb, hnm, _, _⟩ := hx.sl_inv
    unfold toStrO at h
    split at h
    · rename_i e' cs gr
      obtain ⟨hl, h⟩ := guardB_some h
      obtain ⟨l, hbl, h⟩ := obind_some h
      obtain rfl := rok_some h
      refine ⟨.refl g, fun _ w hw => ?_⟩
      obtain ⟨rr, hr, ho⟩ := hw.at_ b _ hob
      cases ho with
      | cells e' cs gr arr fz hR hO hRm =>
        obtain ⟨as, hn, hL, hg⟩ := hR.seg (ble_iff.1 hl)
        obtain ⟨ns, rfl, hns⟩ := bytesCells_ok hL hbl
        refine ⟨.string (ns.foldl (fun r n => r.push (UInt8.ofNat n.toNat)) ByteArray.empty), ?_, ?_⟩
        · rw [run_toStr hs he hd _ ⟨_, _, _, rfl⟩]
          refine run_bytesToString w _ n m ns ?_
          rw [← hn]
          exact run_loadCells_list w _ _ (fun j v hj => by rw [add_at, cell_at hr]; exact hg j v hj)
        · have := VR.str (ρ := ρ) (D := D) l.1 (ns.foldl (fun r n => r.push (UInt8.ofNat n.toNat)) ByteArray.empty)
          rw [bytesOf_push] at this
          rw [hns]
          exact this
    · rename_i e' xs gr
      obtain ⟨g1, hp, hc, h⟩ := chk_some h
      obtain rfl := rok_some h
      refine ⟨hp, fun p w hw => ?_⟩
      obtain ⟨rr, hr, ho⟩ := hw.at_ b _ hob
      cases ho with
      | nums e' k xs gr arr fz hR hO hRm =>
        have hl : o + n ≤ xs.length := ble_iff.1 (hc p)
        obtain ⟨as, hn, hL, hg⟩ := hR.seg (o := o) (n := n) (by simpa using hl)
        have has : as = ((xs.drop o).take n).map (Value.int .u8) := by
          apply List.ext_getElem?
          intro j
          by_cases hj : j < n
          · have hjl : j < as.length := by omega
            have e1 : as[j]? = some as[j] := List.getElem?_eq_getElem hjl
            have hlt : o + j < xs.length := by omega
            have e2 : (SX.seg (xs.map (AV.int true .u8)) o n)[j]? = some (.int true .u8 xs[o + j]) := by
              simp [SX.seg, List.getElem?_take, hj, List.getElem?_drop, List.getElem?_eq_getElem hlt]
            have := (hL.2 j _ _ e2 e1).int_inv
            rw [e1, this]
            simp [List.getElem?_take, hj, List.getElem?_drop, List.getElem?_eq_getElem hlt]
          · rw [List.getElem?_eq_none (by omega), List.getElem?_eq_none (by simp; omega)]
        subst has
        refine ⟨.string (((xs.drop o).take n).foldl (fun r n => r.push (UInt8.ofNat n.toNat)) ByteArray.empty), ?_, ?_⟩
        · rw [run_toStr hs he hd _ ⟨_, _, _, rfl⟩]
          refine run_bytesToString w _ n m _ ?_
          have e3 := run_loadCells_list (P := P) w (⟨ρ.b b, o, none⟩ : Addr) _ (fun j v hj => by rw [add_at, cell_at hr]; exact hg j v hj)
          rw [hn] at e3
          exact e3
        · have := VR.str (ρ := ρ) (D := D) true (((xs.drop o).take n).foldl (fun r n => r.push (UInt8.ofNat n.toNat)) ByteArray.empty)
          rw [bytesOf_push] at this
          exact this
    · cases h
  · cases h
end
end Go.Proofs.YtkclgbccnbiojaaGreatDoor.SX

namespace Go.Proofs.YtkclgbccnbiojaaGreatDoor.SX
section
variable {P : Program} {T : Tab} {ρ : Rn} {D : Nat → Prop}
theorem keyFit_ok {d : TypeDesc} {k : AV} {a : Value} (hk : VR ρ D k a) (h : keyFit (tkD d) k = true) : MapKept.IsKey d a := by
  unfold keyFit at h
  split at h
  · rename_i kk n
    split at h
    · rename_i k' hk'
      obtain rfl := tk_int hk'
      obtain rfl := hk.int_inv
      exact kindEq_iff.1 h
    · cases h
  · obtain ⟨b, rfl, _⟩ := hk.str_inv
    obtain rfl := tag_string (beq_iff.1 h)
    trivial
  · obtain rfl := hk.bool_inv
    obtain rfl := tag_bool (beq_iff.1 h)
    trivial
  · cases h
theorem bytes_ext {a b : ByteArray} (h : a.data.toList = b.data.toList) : a = b := by
  cases a; cases b
  simp only at h
  rw [Array.toList_inj.1 h]
theorem keyEq_inv {k q : AV} {t : Tri} (h : keyEq k q = t) (ht : t ≠ .stuck) : (∃ kk x y, k = .int false kk x ∧ q = .int false kk y ∧ triB (ieq x y) = t) ∨ (∃ x y, k = .str false x ∧ q = .str false y ∧ triB (sEq x y) = t) ∨ (∃ x y, k = .bool false x ∧ q = .bool false y ∧ triB (x == y) = t) := by
  unfold keyEq at h
  split at h
  · split at h
    · split at h
      · rename_i hke
        obtain rfl := kindEq_iff.1 hke
        exact .inl ⟨_, _, _, rfl, rfl, h⟩
      · exact absurd h.symm ht
    · exact absurd h.symm ht
  · split at h
    · exact .inr (.inl ⟨_, _, rfl, rfl, h⟩)
    · exact absurd h.symm ht
  · split at h
    · exact .inr (.inr ⟨_, _, rfl, rfl, h⟩)
    · exact absurd h.symm ht
  · exact absurd h.symm ht
theorem triB_yes {b : Bool} (h : triB b = .yes) : b = true := by cases b with | true => rfl | false => cases h
theorem triB_no {b : Bool} (h : triB b = .no) : b = false := by cases b with | false => rfl | true => cases h
theorem keyEq_yes {k q : AV} {a b : Value} (hk : VR ρ D k a) (hq : VR ρ D q b) (h : keyEq k q = .yes) : a = b := by
  rcases keyEq_inv h (by simp) with ⟨kk, x, y, rfl, rfl, hh⟩ | ⟨x, y, rfl, rfl, hh⟩ | ⟨x, y, rfl, rfl, hh⟩
  · obtain rfl := hk.int_inv
    obtain rfl := hq.int_inv
    have e := triB_yes hh
    rw [ieq_eq] at e
    rw [beq_iff_eq.1 e]
  · obtain ⟨u, rfl, rfl⟩ := hk.str_inv
    obtain ⟨v, rfl, rfl⟩ := hq.str_inv
    rw [bytes_ext (bts_inj ((sEq_iff _ _).1 (triB_yes hh)))]
  · obtain rfl := hk.bool_inv
    obtain rfl := hq.bool_inv
    rw [beq_iff_eq.1 (triB_yes hh)]
theorem keyEq_no {k q : AV} {a b : Value} {d : TypeDesc} (hk : VR ρ D k a) (hq : VR ρ D q b) (h : keyEq k q = .no) (ha : MapKept.IsKey d a) : a ≠ b ∧ MapKept.IsKey d b := by
  rcases keyEq_inv h (by simp) with ⟨kk, x, y, rfl, rfl, hh⟩ | ⟨x, y, rfl, rfl, hh⟩ | ⟨x, y, rfl, rfl, hh⟩
  · obtain rfl := hk.int_inv
    obtain rfl := hq.int_inv
    have e := triB_no hh
    rw [ieq_eq] at e
    refine ⟨fun he => ?_, by cases d <;> simp_all [MapKept.IsKey]⟩
    injection he with _ he
    subst he
    simp at e
  · obtain ⟨u, rfl, rfl⟩ := hk.str_inv
    obtain ⟨v, rfl, rfl⟩ := hq.str_inv
    have e := triB_no hh
    refine ⟨fun he => ?_, by cases d <;> simp_all [MapKept.IsKey]⟩
    injection he with he
    subst he
    rw [(sEq_iff _ _).2 rfl] at e; cases e
  · obtain rfl := hk.bool_inv
    obtain rfl := hq.bool_inv
    have e := triB_no hh
    refine ⟨fun he => ?_, by cases d <;> simp_all [MapKept.IsKey]⟩
    injection he with he
    subst he
    simp at e
/-- entries -/
def ER (ρ : Rn) (D : Nat → Prop) (es : List (AV × AV)) (ms : List MapEntry) : Prop := es.length = ms.length ∧ ∀ (i : Nat) (p : AV × AV) (m : MapEntry), es[i]? = some p → ms[i]? = some m → VR ρ D p.1 m.key ∧ VR ρ D p.2 m.val
theorem ER.tail {p : AV × AV} {m : MapEntry} {es : List (AV × AV)} {ms : List MapEntry} (h : ER ρ D (p :: es) (m :: ms)) : ER ρ D es ms := ⟨by have := h.1; simpa using this, fun i p m hp hm => h.2 (i + 1) p m (by simpa using hp) (by simpa using hm)⟩
theorem now_eq {d : TypeDesc} {a b : Value} (ha : MapKept.IsKey d a) (hb : a = b) : Instr.sameNow d a b = some true := by
  subst hb
  obtain ⟨r, hr, hi⟩ := MapKept.sameNow_of_keys ha ha
  rw [hr, hi.2 rfl]
theorem now_ne {d : TypeDesc} {a b : Value} {k q : AV} (hk : VR ρ D k a) (hq : VR ρ D q b) (h : keyEq k q = .no) (ha : MapKept.IsKey d a) : Instr.sameNow d a b = some false := by
  obtain ⟨hne, hb⟩ := keyEq_no hk hq h ha
  obtain ⟨r, hr, hi⟩ := MapKept.sameNow_of_keys ha hb
  rw [hr]
  cases r with
  | false => rfl
  | true => exact absurd (hi.1 rfl) hne
theorem find_ok {d : TypeDesc} {k : AV} {a : Value} (hk : VR ρ D k a) (ha : MapKept.IsKey d a) : ∀ (es : List (AV × AV)) (ms : List MapEntry) (s : Nat), ER ρ D es ms →
    (findE k es = .no → Instr.findNow d a ms s = some none) ∧ (∀ v, findE k es = .here v → ∃ i x, Instr.findNow d a ms s = some (some (i, x)) ∧ VR ρ D v x) := by
  intro es
  induction es with
  | nil =>
    intro ms s h
    have : ms = [] := List.length_eq_zero_iff.1 h.1.symm
    subst this
    exact ⟨fun _ => rfl, fun v hv => by cases hv⟩
  | cons p r ih =>
    intro ms s h
    cases ms with
    | nil => have := h.1; simp at this
    | cons m ms =>
      obtain ⟨h1, h2⟩ := h.2 0 p m rfl rfl
      obtain ⟨i1, i2⟩ := ih ms (s + 1) h.tail
      have e : findE k (p :: r) = findOne k p (findE k r) := rfl
      rw [e]
      unfold findOne
      cases hq : keyEq k p.1 with
      | yes =>
        have := now_eq ha (keyEq_yes hk h1 hq)
        refine ⟨fun hh => (by cases hh), fun v hv => ?_⟩
        injection hv with hv
        subst hv
        exact ⟨s, m.val, by simp [Instr.findNow, this], h2⟩
      | no =>
        have := now_ne hk h1 hq ha
        refine ⟨fun hh => ?_, fun v hv => ?_⟩
        · simp only [Instr.findNow, this]; exact i1 hh
        · simp only [Instr.findNow, this]; exact i2 v hv
      | stuck => exact ⟨fun hh => (by cases hh), fun v hv => (by cases hv)⟩
theorem entries_some {m : AV} {g : G} {f : List (AV × AV) → R AV} {r : AV × G} (h : entries m g f = some r) : (m = .nilm ∧ f [] = some r) ∨ ∃ b es, m = .mp b ∧ g.h.get b = some (.map es) ∧ f es = some r := by
  unfold entries at h
  split at h
  · exact .inl ⟨rfl, h⟩
  · obtain ⟨o, ho, h⟩ := obj_some h
    unfold AObj.mapD at h
    split at h
    · exact .inr ⟨_, _, rfl, ho, h⟩
    · cases h
  · cases h
theorem zeroOf_ok {t : Nat} {info : TypeInfo} {z : Value} {d : TypeDesc} (hz : info.zero = some z) (hw : (tkD d).isAgg = true → ∃ cs, z = .agg cs) (hw2 : (tkD d).isAgg = false → ∀ cs, z ≠ .agg cs) : VR ρ D (zeroOf ⟨tkD d, info.size, info.bytes, z.cells.toList.map ofCell⟩) z := by
  unfold zeroOf
  cases ha : (tkD d).isAgg with
  | true =>
    obtain ⟨cs, rfl⟩ := hw ha
    have := (ofCells_ok ρ D cs.toList).agg
    simpa [Value.cells] using this
  | false =>
    have := hw2 ha
    have e : z.cells = #[z] := by cases z <;> first | rfl | exact absurd rfl (this _)
    rw [e]
    exact ofCell_ok ρ D z
theorem foundV_g {ok : Bool} {z : AV} {f : Found} {g : G} {r : AV × G} (h : foundV ok z f g = some r) : r.2 = g := by
  unfold foundV at h
  split at h
  · obtain rfl := rok_some h; rfl
  · obtain rfl := rok_some h; rfl
  · cases h
theorem oLookup_ok (hT : TabOk P T) {t : Nat} {m k : AV} {ok : Bool} {g : G} {r : AV × G} {a b : Value} (hm : VR ρ D m a) (hk : VR ρ D k b) (h : oLookup T t m k ok g = some r) : Reads P ρ D g r (Instr.lookup t a b ok) := by
  obtain ⟨i, hi, h⟩ := ti_some h
  obtain ⟨info, z, d, e1, e2, e3, he⟩ := hT.ti t i hi
  subst he
  simp only at h
  split at h
  · rename_i kt e hkk
    obtain rfl := tk_map hkk
    obtain ⟨ki, hki, h⟩ := ti_some h
    obtain ⟨kinfo, kz, kd, f1, f2, f3, hke⟩ := hT.ti kt ki hki
    subst hke
    obtain ⟨hfit, h⟩ := guardB_some h
    obtain ⟨ei, hei, h⟩ := ti_some h
    obtain ⟨einfo, ez, ed, g1, g2, g3, hee⟩ := hT.ti e ei hei
    subst hee
    have hkey := keyFit_ok hk hfit
    obtain ⟨_, z1, z2⟩ := hT.zi e _ einfo ez ed hei g1 g2 g3
    have hzero : VR ρ D (zeroOf ⟨tkD ed, einfo.size, einfo.bytes, ez.cells.toList.map ofCell⟩) ez := zeroOf_ok (t := e) g2 z1 z2
    have fin : ∀ (es : List (AV × AV)) (ms : List MapEntry), ER ρ D es ms → foundV ok (zeroOf ⟨tkD ed, einfo.size, einfo.bytes, ez.cells.toList.map ofCell⟩) (findE k es) g = some r →
        (∃ i x, Instr.findNow kd b ms 0 = some (some (i, x)) ∧ VR ρ D r.1 (if ok then .tuple #[x, .bool true] else x)) ∨ (Instr.findNow kd b ms 0 = some none ∧ VR ρ D r.1 (if ok then .tuple #[ez, .bool false] else ez)) := by
      intro es ms hE hf
      obtain ⟨hno, hhere⟩ := find_ok hk hkey es ms 0 hE
      unfold foundV at hf
      split at hf
      · rename_i v hv
        obtain ⟨i, x, hn, hx⟩ := hhere v hv
        obtain rfl := rok_some hf
        refine .inl ⟨i, x, hn, ?_⟩
        cases ok with
        | true => exact (LR.cons hx (LR.cons (.bool _ _) (LR.nil _ _))).tup
        | false => exact hx
      · rename_i hv
        have hn := hno hv
        obtain rfl := rok_some hf
        refine .inr ⟨hn, ?_⟩
        cases ok with
        | true => exact (LR.cons hzero (LR.cons (.bool _ _) (LR.nil _ _))).tup
        | false => exact hzero
      · cases hf
    rcases entries_some h with ⟨rfl, hh⟩ | ⟨B, es, rfl, hB, hh⟩
    · have : a = .map none := by cases hm; rfl
      subst this
      refine ⟨by rw [foundV_g hh]; exact .refl g, fun _ w hw => ?_⟩
      rcases fin [] [] ⟨rfl, fun i p m hp => by simp at hp⟩ hh with ⟨i, x, hn, hx⟩ | ⟨hn, hx⟩
      · refine ⟨_, ?_, hx⟩
        simp [Instr.lookup, run_underlying e3, MapKept.run_checkKey f3 hkey _ 9999, MapKept.run_findKey f3 hn]
      · refine ⟨_, ?_, hx⟩
        simp [Instr.lookup, run_underlying e3, MapKept.run_checkKey f3 hkey _ 9999, MapKept.run_findKey f3 hn, run_zero g1 g2]
    · have : a = .map (some (ρ.b B)) := by cases hm; rfl
      subst this
      refine ⟨by rw [foundV_g hh]; exact .refl g, fun _ w hw => ?_⟩
      obtain ⟨rr, hr, ho⟩ := hw.at_ B _ hB
      cases ho with
      | map es ms hl hE =>
        have hER : ER ρ D es ms.toList := ⟨by simpa using hl, fun i p m hp hm => by
          obtain ⟨q1, q2, _⟩ := hE i p m hp (by simpa using hm)
          exact ⟨q1, q2⟩⟩
        rcases fin es ms.toList hER hh with ⟨i, x, hn, hx⟩ | ⟨hn, hx⟩
        · refine ⟨_, ?_, hx⟩
          simp [Instr.lookup, run_underlying e3, MapKept.run_getObj_map hr, MapKept.run_checkKey f3 hkey _ 9999, MapKept.run_findKey f3 hn]
        · refine ⟨_, ?_, hx⟩
          simp [Instr.lookup, run_underlying e3, MapKept.run_getObj_map hr, MapKept.run_checkKey f3 hkey _ 9999, MapKept.run_findKey f3 hn, run_zero g1 g2]
  · cases h
end
end Go.Proofs.YtkclgbccnbiojaaGreatDoor.SX

namespace Go.Proofs.YtkclgbccnbiojaaGreatDoor.SX
section
variable {P : Program} {T : Tab} {ρ : Rn} {D : Nat → Prop}
theorem ty1_some {ts : List TypeId} {f : TypeId → R AV} {r : AV × G} (h : ty1 ts f = some r) : ∃ t l, ts = t :: l ∧ f t = some r := by
  unfold ty1 at h
  split at h
  · exact ⟨_, _, rfl, h⟩
  · cases h
theorem args0 {ts : Array TypeId} {t : Nat} {l : List TypeId} (ht : ts.toList = t :: l) : ts[0]? = some t := by
  have : ts.toList[0]? = some t := by rw [ht]; rfl
  simpa using this
theorem oLen_ok (hT : TabOk P T) {ts : Array TypeId} {t ty : Nat} {l : List TypeId} (ht : ts.toList = t :: l) {x : AV} {g : G} {r : AV × G} {a : Value} (hx : VR ρ D x a) (h : oLen T t x g = some r) : Reads P ρ D g r (Builtin.len_ ts ty #[a]) := by
  have e0 := args0 ht
  unfold oLen at h
  split at h
  · obtain ⟨d, hu, hd, h⟩ := isK_some hT h
    obtain rfl := tag_string hd
    obtain ⟨b, rfl, rfl⟩ := hx.str_inv
    obtain rfl := rok_some h
    refine ⟨.refl g, fun _ w _ => ⟨.int .i64 b.size, ?_, by rw [bts_len]; exact .int _ _ _⟩⟩
    simp [Builtin.len_, e0, run_underlying hu, goInt]
  · obtain ⟨d, hu, hd, h⟩ := isK_some hT h
    obtain ⟨e, rfl⟩ := tag_slice hd
    obtain rfl := hx.nils_inv
    obtain rfl := rok_some h
    refine ⟨.refl g, fun _ w _ => ⟨.int .i64 0, ?_, .int _ _ _⟩⟩
    simp [Builtin.len_, e0, run_underlying hu, goInt]
  · obtain ⟨d, hu, hd, h⟩ := isK_some hT h
    obtain ⟨e, rfl⟩ := tag_slice hd
    obtain ⟨m, rfl, _⟩ := hx.sl_inv
    obtain rfl := rok_some h
    refine ⟨.refl g, fun _ w _ => ⟨_, ?_, .int _ _ _⟩⟩
    simp [Builtin.len_, e0, run_underlying hu, goInt]
  · obtain ⟨d, hu, hd, h⟩ := isK_some hT h
    obtain ⟨e, rfl⟩ := tag_slice hd
    obtain ⟨as, c, rfl, _, _⟩ := hx.osl_inv
    obtain rfl := rok_some h
    refine ⟨.refl g, fun _ w _ => ⟨_, ?_, .int _ _ _⟩⟩
    simp [Builtin.len_, e0, run_underlying hu, goInt]
  · obtain ⟨d, hu, hd, h⟩ := isK_some hT h
    obtain ⟨k, e, rfl⟩ := tag_map hd
    have : a = .map none := by cases hx; rfl
    subst this
    obtain rfl := rok_some h
    refine ⟨.refl g, fun _ w _ => ⟨.int .i64 0, ?_, .int _ _ _⟩⟩
    simp [Builtin.len_, e0, run_underlying hu, goInt]
  · rename_i b
    obtain ⟨d, hu, hd, h⟩ := isK_some hT h
    obtain ⟨k, e, rfl⟩ := tag_map hd
    have : a = .map (some (ρ.b b)) := by cases hx; rfl
    subst this
    obtain ⟨o, ho, h⟩ := obj_some h
    unfold AObj.mapD at h
    split at h
    · rename_i es
      obtain rfl := rok_some h
      refine ⟨.refl g, fun _ w hw => ?_⟩
      obtain ⟨rr, hr, ho'⟩ := hw.at_ b _ ho
      cases ho' with
      | map es ms hl hE =>
        refine ⟨_, ?_, .int _ _ _⟩
        simp [Builtin.len_, e0, run_underlying hu, goInt, MapKept.run_getObj_map hr, hl]
    · cases h
  · cases h
theorem oMin_ok {x y : AV} {g : G} {r : AV × G} {a b : Value} {ts : Array TypeId} {ty : Nat} (hx : VR ρ D x a) (hy : VR ρ D y b) (h : oMin x y g = some r) : Gives P ρ D g r (Builtin.min_ ts ty #[a, b]) := by
  obtain ⟨s, k, n, rfl, h1⟩ := intOf_some h
  obtain ⟨s', k', m, rfl, h'⟩ := intOf_some h1
  clear h h1
  obtain rfl := hx.int_inv
  obtain rfl := hy.int_inv
  obtain rfl := rok_some h'
  refine .of (x := .int k (if m < n then m else n)) (.refl g) (fun w => by simp [Builtin.min_, Builtin.min2]) ?_
  rw [ilt_eq]
  by_cases h : m < n
  · simp only [h, decide_true, cond_true, if_true]; exact .int _ _ _
  · simp only [h, decide_false, cond_false, if_false]; exact .int _ _ _
theorem oMax_ok {x y : AV} {g : G} {r : AV × G} {a b : Value} {ts : Array TypeId} {ty : Nat} (hx : VR ρ D x a) (hy : VR ρ D y b) (h : oMax x y g = some r) : Gives P ρ D g r (Builtin.max_ ts ty #[a, b]) := by
  obtain ⟨s, k, n, rfl, h1⟩ := intOf_some h
  obtain ⟨s', k', m, rfl, h'⟩ := intOf_some h1
  clear h h1
  obtain rfl := hx.int_inv
  obtain rfl := hy.int_inv
  obtain rfl := rok_some h'
  refine .of (x := .int k (if m > n then m else n)) (.refl g) (fun w => by simp [Builtin.max_, Builtin.max2]) ?_
  rw [ilt_eq]
  by_cases h : n < m
  · simp only [h, decide_true, cond_true, if_true, gt_iff_lt]; exact .int _ _ _
  · simp only [h, decide_false, cond_false, if_false, gt_iff_lt]; exact .int _ _ _
theorem oAssert_ok (hT : TabOk P T) {x : AV} {xt t : Nat} {ok : Bool} {g : G} {r : AV × G} {a : Value} (hx : VR ρ D x a) (h : oAssert T x t ok g = some r) : Gives P ρ D g r (Instr.typeAssert a xt t ok) := by
  unfold oAssert at h
  split at h
  · rename_i t1 v
    obtain ⟨ai, hai, h1⟩ := ti_some h
    obtain ⟨hn, h2⟩ := guardB_some h1
    clear h h1
    obtain ⟨info, z, d, e1, e2, e3, he⟩ := hT.ti t ai hai
    subst he
    have hd : ∀ ms, d ≠ .interface ms := fun ms e => by subst e; cases hn
    cases ht : t1.beq t with
    | false => rw [ht] at h2; cases h2
    | true =>
      rw [ht] at h2
      obtain rfl := rok_some h2
      obtain rfl := beq_iff.1 ht
      cases hx with
      | ifc t1 v x' hv =>
        refine .of (x := if ok then .tuple #[x', .bool true] else x') (.refl g) (fun w => ?_) ?_
        · simp only [Instr.typeAssert, Sem.run_bind, run_underlying e3, Result.andThen_ok]
          cases d <;> first | exact absurd rfl (hd _) | (simp; done) | simp
        · cases ok with
          | true => exact (LR.cons hv (LR.cons (.bool _ _) (LR.nil _ _))).tup
          | false => exact hv
  · cases h
theorem oExtract_ok {t : AV} {i : Nat} {g : G} {r : AV × G} {a : Value} (ht : VR ρ D t a) (h : oExtract t i g = some r) : Gives P ρ D g r (Instr.extract a i) := by
  unfold oExtract at h
  split at h
  · rename_i vs
    obtain ⟨hx, hg⟩ := at_some h
    obtain ⟨as, rfl, hL⟩ := ht.tup_inv
    obtain ⟨x, hx2, hv⟩ := hL.get hx
    have e : as[i]? = some x := by simpa using hx2
    exact ⟨by rw [hg]; exact .refl g, fun _ w => ⟨x, by simp [Instr.extract, e], hv⟩⟩
  · cases h
end
end Go.Proofs.YtkclgbccnbiojaaGreatDoor.SX

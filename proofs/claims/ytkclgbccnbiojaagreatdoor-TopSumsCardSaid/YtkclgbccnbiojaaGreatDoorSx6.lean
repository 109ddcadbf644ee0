import Derived.Test.YtkclgbccnbiojaaGreatDoorSx5
import Derived.Test.YtkclgbccnbiojaaGreatDoorSx4
import Derived.KernelRfl
set_option linter.unusedVariables false
set_option linter.unusedSimpArgs false
namespace Go.Proofs.YtkclgbccnbiojaaGreatDoor.SX
section
variable {P : Program} {T : Tab} {E : Nat → Prop} {ρ ρ' ρ0 : Rn} {call : CallT}
variable {ops : Array Oper} {hi : List Nat} {tw : Option (Nat × Nat)} {hX : Option (Mem)} {N : Nat} {st0 : St} {s : Nat → St} {e : Nat} {b : Frame} {w w' w0 : World} {cs cs' cs0 : List Frame} {a a' : Act}
theorem before_congr {hi : List Nat} {c i : Nat} (h : ∀ j ∈ hi, j < c ↔ j < i) : before hi c = before hi i := by
  unfold before
  congr 1
  refine List.filter_congr fun j hj => ?_
  have := h j hj
  by_cases hc : j < c
  · rw [blt_iff.2 hc, blt_iff.2 (this.1 hc)]
  · have h1 : ¬ j < i := fun hh => hc (this.2 hh)
    have e1 : Nat.blt j c = false := by
      cases hb : Nat.blt j c with
      | false => rfl
      | true => exact absurd (blt_iff.1 hb) hc
    have e2 : Nat.blt j i = false := by
      cases hb : Nat.blt j i with
      | false => rfl
      | true => exact absurd (blt_iff.1 hb) h1
    rw [e1, e2]
theorem Pos.congr {kd : CallKind} {La La' : Array Bool} {c : Nat} {M : Mem} {ds : List Deferred} (h : ∀ i, Ea T ops.toList s La c i ↔ Ea T ops.toList s La' c i) (p : Pos P T E ops st0 s ρ0 w0 cs0 La c M ρ ds w kd cs) : Pos P T E ops st0 s ρ0 w0 cs0 La' c M ρ ds w kd cs := by
  have hEx : Early E T ops.toList s La c = Early E T ops.toList s La' c := Early_congr h
  refine ⟨by rw [← hEx]; exact p.sr, fun i hi => ?_, fun i j hi hj => p.ed i j ((h i).2 hi) ((h j).2 hj), p.ext, p.fr, p.nx0, p.no, p.keep⟩
  obtain ⟨ob, r, q1, q2, q3, q4, q5, q6⟩ := p.ea i ((h i).2 hi)
  exact ⟨ob, r, q1, q2, q3, by unfold Dx at *; rw [← hEx]; exact q4, q5, q6⟩
theorem ea_set {La : Array Bool} {c i : Nat} (hil : i < La.size) (hn : ¬ (i ∈ whoIs Cls.isSoft T ops.toList ∧ (s i).g.nx < (s (i + 1)).g.nx)) (q : Nat) : Ea T ops.toList s La c q ↔ Ea T ops.toList s (La.setIfInBounds i true) c q := by
  unfold Ea
  rw [getD_set hil]
  by_cases h : q = i
  · subst h
    constructor
    · rintro ⟨h1, h2, h3, h4⟩; exact absurd ⟨h1, h4⟩ hn
    · rintro ⟨h1, h2, h3, h4⟩; exact absurd ⟨h1, h4⟩ hn
  · rw [if_neg h]
theorem Inv.c_le (tr : Tra T call ops.toList hi tw N st0 s e) {kd : CallKind} {La : Array Bool} {c i : Nat} {d : Option (Mem)} (iv : Inv P T E ops hi tw hX N st0 s e kd ρ0 w0 cs0 La c d ρ a w cs) (rd : Ready ops La i) (hs : i ∈ whoIs Cls.isSoft T ops.toList) : c ≤ i := by
  rcases iv.cp with rfl | ⟨k, hk, rfl⟩
  · exact Nat.zero_le _
  · rcases tr.soft i hs k hk with h | h
    · omega
    · exfalso
      have h1 := (iv.ef k hk).2 (.inl (Nat.lt_succ_self _))
      have := iv.cl k i h1 h
      rw [rd.no] at this; cases this
/-- nothing but its variable turns -/
theorem Inv.quietly (tr : Tra T call ops.toList hi tw N st0 s e) {kd : CallKind} {La : Array Bool} {c i : Nat} {d : Option (Mem)} (iv : Inv P T E ops hi tw hX N st0 s e kd ρ0 w0 cs0 La c d ρ a w cs) (rd : Ready ops La i) (hie : i < e) (hm : i ∉ hi) (hn : ¬ (i ∈ whoIs Cls.isSoft T ops.toList ∧ (s i).g.nx < (s (i + 1)).g.nx))
    {o : Oper} (ho : ops.toList[i]? = some o) {v : AV} {x : Value} (hv : (s (i + 1)).env = (setD o.dst v (s i) (s i).g).env) (hx : VR ρ (Dx E T ops.toList s La c) v x) :
    Inv P T E ops hi tw hX N st0 s e kd ρ0 w0 cs0 (La.setIfInBounds i true) c d ρ (a.put o.dst x) w cs := by
  have hil : i < La.size := by rw [iv.sz]; exact rd.lt
  have hEa := ea_set (T := T) (ops := ops) (s := s) (c := c) hil hn
  have hD : Dx E T ops.toList s (La.setIfInBounds i true) c = Dx E T ops.toList s La c := by unfold Dx; rw [Early_congr hEa]
  refine iv.next tr rd hie iv.ce iv.cp (fun j hj => ?_) (fun h hh => ?_) ho hv rfl (by rw [hD]; exact hx) (fun q hq => ⟨by rw [hD]; exact hq, rfl, rfl⟩) (by rw [put_defers]; exact iv.pos.congr hEa)
  · have hne : j ≠ i := fun hh => hm (by rw [← hh]; exact hj)
    rw [← iv.ef j hj]
    exact ⟨fun hh => hh.resolve_right hne, .inl⟩
  · obtain ⟨q1, x', y', q2, q3, q4⟩ := iv.dd h hh
    exact ⟨q1, x', y', q2, q3, q4, fun hx' => hm (by rw [← hx']; exact (tr.twin x' y' q2).mx)⟩
/-- new memory, whenever it is made -/
theorem Inv.softly (hc : CallMo call) (tr : Tra T call ops.toList hi tw N st0 s e) (nE : ∀ b, E b → (s e).g.nx ≤ b) {kd : CallKind} {La : Array Bool} {c i : Nat} {d : Option (Mem)} (iv : Inv P T E ops hi tw hX N st0 s e kd ρ0 w0 cs0 La c d ρ a w cs) (rd : Ready ops La i) (hie : i < e) (hs : i ∈ whoIs Cls.isSoft T ops.toList)
    {o : Oper} (ho : ops.toList[i]? = some o) {v : AV} {x : Value} {ob : AObj} {r : Obj} (hv : (s (i + 1)).env = (setD o.dst v (s i) (s i).g).env) (hn : Newly (s i) (s (i + 1)) ob) (hf : ob.fixed = false) (hw : NewAt P ρ (Dx E T ops.toList s La c) (s i).g.nx w v ob x r) :
    ∃ ρ', Inv P T E ops hi tw hX N st0 s e kd ρ0 w0 cs0 (La.setIfInBounds i true) c d ρ' (a.put o.dst x) { w with heap := w.heap.push r } cs := by
  have hil : i < La.size := by rw [iv.sz]; exact rd.lt
  have hci := iv.c_le tr rd hs
  have hm : i ∉ hi := fun hh => by
    rw [tr.his] at hh
    obtain ⟨o1, q1, q2⟩ := mem_whoIs.1 hh
    obtain ⟨o2, q3, q4⟩ := mem_whoIs.1 hs
    rw [q1] at q3
    injection q3 with q3
    subst q3
    cases hx : cls T o1.op <;> rw [hx] at q2 q4 <;> first | (cases q2; done) | (cases q4; done)
  have hlen : (s (i + 1)).g.nx ≤ (s e).g.nx := (tr.leTo hc (show i + 1 ≤ e by omega) (Nat.le_refl _)).nx
  have nxm : ∀ p q, p ≤ q → q ≤ e → (s p).g.nx ≤ (s q).g.nx := fun p q h1 h2 => (tr.leTo hc h1 h2).nx
  have hnid : ¬ Dx E T ops.toList s La c (s i).g.nx := by
    rintro (h1 | h1 | ⟨q, h1, h2⟩)
    · have := nxm c i hci (by omega); omega
    · have := nE _ h1
      have := hn.nx
      omega
    · have hqe := iv.lt q h1.2.1
      have h4 := h1.2.2.2
      rcases Nat.lt_trichotomy q i with h | h | h
      · have := nxm (q + 1) i (by omega) (by omega); omega
      · subst h; have := h1.2.1; rw [rd.no] at this; cases this
      · have := nxm (i + 1) q (by omega) (by omega)
        have := hn.nx
        omega
  have hset : ∀ q, Ea T ops.toList s (La.setIfInBounds i true) c q ↔ (Ea T ops.toList s La c q ∨ q = i) := by
    intro q
    unfold Ea
    rw [getD_set hil]
    by_cases h : q = i
    · subst h
      refine ⟨fun _ => .inr rfl, fun _ => ⟨hs, by simp, hci, by rw [hn.nx]; omega⟩⟩
    · rw [if_neg h]
      exact ⟨.inl, fun hh => hh.resolve_right h⟩
  have hD : ∀ q, Dx E T ops.toList s (La.setIfInBounds i true) c q ↔ (Dx E T ops.toList s La c q ∨ q = (s i).g.nx) := by
    intro q
    constructor
    · rintro (h1 | h1 | ⟨j, h1, h2⟩)
      · exact .inl (.inl h1)
      · exact .inl (.inr (.inl h1))
      · rcases (hset j).1 h1 with h3 | rfl
        · exact .inl (.inr (.inr ⟨j, h3, h2⟩))
        · exact .inr h2
    · rintro ((h1 | h1 | ⟨j, h1, h2⟩) | h1)
      · exact .inl h1
      · exact .inr (.inl h1)
      · exact .inr (.inr ⟨j, (hset j).2 (.inl h1), h2⟩)
      · exact .inr (.inr ⟨i, (hset i).2 (.inr rfl), h1⟩)
  generalize hρ : ρ.set (s i).g.nx w.heap.size 0 = ρ'
  have hold : ∀ q, Dx E T ops.toList s La c q → ρ'.b q = ρ.b q ∧ ρ'.c q = ρ.c q := fun q hq => by
    rw [← hρ]; exact Rn.set_ne (fun h => hnid (by rw [← h]; exact hq))
  have hnew : ρ'.b (s i).g.nx = w.heap.size := by rw [← hρ]; exact Rn.set_b _ _ _ _
  have hu : ∀ q, Dx E T ops.toList s La c q → Dx E T ops.toList s (La.setIfInBounds i true) c q ∧ ρ'.b q = ρ.b q ∧ ρ'.c q = ρ.c q := fun q hq => ⟨(hD q).2 (.inl hq), hold q hq⟩
  obtain ⟨hor, hvx⟩ := hw ρ' (Dx E T ops.toList s (La.setIfInBounds i true) c) hu ((hD _).2 (.inr rfl)) hnew
  have hgr : GR P ρ (Dx E T ops.toList s La c) (memOf s c d).get w := iv.pos.sr.gr
  have hpush : ∀ q r', w.heap[q]? = some r' → (w.heap.push r)[q]? = some r' := fun q r' hq => by
    have := (Array.getElem?_eq_some_iff.1 hq).1
    rw [Array.getElem?_push, if_neg (by omega)]; exact hq
  refine ⟨ρ', iv.next tr rd hie iv.ce iv.cp (fun j hj => ?_) (fun h hh => ?_) ho hv rfl hvx hu ?_⟩
  · have hne : j ≠ i := fun hh => hm (by rw [← hh]; exact hj)
    rw [← iv.ef j hj]
    exact ⟨fun hh => hh.resolve_right hne, .inl⟩
  · obtain ⟨q1, x', y', q2, q3, q4⟩ := iv.dd h hh
    exact ⟨q1, x', y', q2, q3, q4, fun hx' => hm (by rw [← hx']; exact (tr.twin x' y' q2).mx)⟩
  · rw [put_defers]
    have p := iv.pos
    refine ⟨⟨⟨p.sr.gl.le, fun g hg => ?_, fun g hg => ?_⟩, p.sr.df.mono hu, p.sr.pm.mono hu, ⟨fun q o1 hq => ?_, fun q o1 hq => ?_, fun q q' o1 o2 h1 h2 hfi he => ?_⟩⟩, fun j hj => ?_, fun j j' hj hj' he => ?_, fun q hq => ?_, ?_, p.nx0, p.no, p.keep⟩
    · have := p.sr.gl.le
      rw [(hold g (.inl (Nat.lt_of_lt_of_le hg this))).1]
      exact p.sr.gl.at_ g hg
    · have := p.sr.gl.le
      rw [(hold g (.inl (Nat.lt_of_lt_of_le hg this))).2]
      exact p.sr.gl.c0 g hg
    · obtain ⟨h1, h2⟩ := hgr.dom q o1 hq
      exact ⟨(hu q h1).1, h2⟩
    · obtain ⟨r', h1, h2⟩ := hgr.at_ q o1 hq
      have hq' := (hgr.dom q o1 hq).1
      exact ⟨r', by rw [(hold q hq').1]; exact hpush _ _ h1, h2.mono hu (hold q hq').2⟩
    · rw [(hold q (hgr.dom q o1 h1).1).1, (hold q' (hgr.dom q' o2 h2).1).1] at he
      exact hgr.inj q q' o1 o2 h1 h2 hfi he
    · rcases (hset j).1 hj with h1 | rfl
      · obtain ⟨ob', r', q1, q2, q3, q4, q5, q6⟩ := p.ea j h1
        have hj' : Dx E T ops.toList s La c (s j).g.nx := .inr (.inr ⟨j, h1, rfl⟩)
        refine ⟨ob', r', q1, q2, by rw [(hold _ hj').1]; exact hpush _ _ q3, q4.mono hu (hold _ hj').2, by rw [(hold _ hj').1]; exact q5, fun q o1 hq => ?_⟩
        rw [(hold _ hj').1, (hold q (hgr.dom q o1 hq).1).1]
        exact q6 q o1 hq
      · refine ⟨ob, r, hn, hf, by rw [hnew]; simp, hor, by rw [hnew]; exact p.fr.size, fun q o1 hq => ?_⟩
        rw [hnew, (hold q (hgr.dom q o1 hq).1).1]
        have := hgr.lt hq
        omega
    · have old : ∀ j, Ea T ops.toList s La c j → ρ'.b (s j).g.nx = ρ.b (s j).g.nx ∧ ρ.b (s j).g.nx < w.heap.size := fun j hj => by
        obtain ⟨ob', r', q1, q2, q3, q4, q5, q6⟩ := p.ea j hj
        exact ⟨(hold _ (.inr (.inr ⟨j, hj, rfl⟩))).1, (Array.getElem?_eq_some_iff.1 q3).1⟩
      rcases (hset j).1 hj with h1 | h1
      · rcases (hset j').1 hj' with h2 | h2
        · rw [(old j h1).1, (old j' h2).1] at he
          exact p.ed j j' h1 h2 he
        · subst h2
          rw [(old j h1).1, hnew] at he
          have := (old j h1).2; omega
      · subst h1
        rcases (hset j').1 hj' with h2 | h2
        · rw [(old j' h2).1, hnew] at he
          have := (old j' h2).2; omega
        · exact h2.symm
    · have hq' : Dx E T ops.toList s La c q := by
        rcases hq with hq | hq
        · exact .inl (Nat.lt_of_lt_of_le hq p.nx0)
        · exact .inr (.inl hq)
      obtain ⟨u1, u2⟩ := hold q hq'
      obtain ⟨v1, v2⟩ := p.ext q hq
      exact ⟨u1.trans v1, u2.trans v2⟩
    · refine ⟨p.fr.os, p.fr.tape, p.fr.output, by simp; exact Nat.le_succ_of_le p.fr.size, fun q hq hne => ?_, fun q o1 hq hf' => ?_, fun q o1 hq hf' => ?_⟩
      · have := p.fr.size
        simp only
        rw [Array.getElem?_push, if_neg (by omega)]
        exact p.fr.keep q hq hne
      · rw [(hold q (hgr.dom q o1 hq).1).1]
        exact p.fr.own q o1 hq hf'
      · rw [(hold q (hgr.dom q o1 hq).1).1]
        exact p.fr.fix q o1 hq hf'
/-- where an effect is ready all that stands ahead of it has been; or it is the later one of the two stores -/
theorem Inv.atHard (tr : Tra T call ops.toList hi tw N st0 s e) {kd : CallKind} {La : Array Bool} {c i : Nat} {d : Option (Mem)} (iv : Inv P T E ops hi tw hX N st0 s e kd ρ0 w0 cs0 La c d ρ a w cs) (rd : Ready ops La i) (him : i ∈ hi) : (∀ j ∈ hi, j < i → La.getD j false = true) ∨ ∃ x, tw = some (x, i) ∧ La.getD x false = false ∧ ∀ j ∈ hi, j < i → j ≠ x → La.getD j false = true := by
  by_cases hx : ∃ x, tw = some (x, i) ∧ La.getD x false = false
  · obtain ⟨x, h1, h2⟩ := hx
    refine .inr ⟨x, h1, h2, fun j hj hji hne => ?_⟩
    rcases tr.pair j hj i him hji with h | h
    · exact rd.anc j h
    · rw [h1] at h
      injection h with h
      exact absurd (Prod.mk.inj h).1.symm hne
  · refine .inl fun j hj hji => ?_
    rcases tr.pair j hj i him hji with h | h
    · exact rd.anc j h
    · cases hl : La.getD j false with
      | true => rfl
      | false => exact absurd ⟨j, h, hl⟩ hx
/-- up to an effect all is done that stands ahead of it -/
theorem Inv.reach (tr : Tra T call ops.toList hi tw N st0 s e) {kd : CallKind} {La : Array Bool} {c i : Nat} (iv : Inv P T E ops hi tw hX N st0 s e kd ρ0 w0 cs0 La c none ρ a w cs) (rd : Ready ops La i) (him : i ∈ hi) (hie : i ≤ e) (hall : ∀ j ∈ hi, j < i → La.getD j false = true) :
    Pos P T E ops st0 s ρ0 w0 cs0 La i (s i).g.h ρ a.defers w kd cs ∧ Dx E T ops.toList s La i = Dx E T ops.toList s La c ∧ c ≤ i := by
  have hci : c ≤ i := by
    rcases Nat.lt_or_ge i c with h | h
    · have := (iv.ef i him).2 (.inl h)
      rw [rd.no] at this; cases this
    · exact h
  have := Pos.to tr (show Pos P T E ops st0 s ρ0 w0 cs0 La c (s c).g.h ρ a.defers w kd cs from iv.pos) i hci hie (fun k k1 k2 => ⟨fun hk => ?_, fun hk => ?_⟩)
  · exact ⟨this.1, this.2, hci⟩
  · rcases (iv.ef k hk).1 (hall k hk k2) with h | ⟨h, _⟩
    · omega
    · exact h rfl
  · rcases tr.soft k hk i him with h | h
    · omega
    · exact rd.anc k h
end
end Go.Proofs.YtkclgbccnbiojaaGreatDoor.SX

namespace Go.Proofs.YtkclgbccnbiojaaGreatDoor.SX
section
variable {P : Program} {T : Tab} {E : Nat → Prop} {ρ ρ' ρ0 : Rn} {call : CallT}
variable {ops : Array Oper} {hi : List Nat} {tw : Option (Nat × Nat)} {hX : Option (Mem)} {N : Nat} {st0 : St} {s : Nat → St} {e : Nat} {b : Frame} {w w' w0 : World} {cs cs' cs0 : List Frame} {a a' : Act}
/-! ### a store, once more -/
theorem sameL_read : ∀ (l l' : List AV) (g : G) (r : Unit × G), sameL sameC l l' g = some r → Pc g r.2 ∧ l.length = l'.length ∧ (r.2.pc → ∀ (ρ : Rn) (D : Nat → Prop) (i : Nat) (x' : AV), l'[i]? = some x' → ∃ x, l[i]? = some x ∧ ∀ a, VR ρ D x a → VR ρ D x' a) := by
  intro l
  induction l with
  | nil =>
    intro l' g r h
    cases l' with
    | nil => obtain rfl := rok_some h; exact ⟨.refl _, rfl, fun _ ρ D i x' hx => by simp at hx⟩
    | cons y b => cases h
  | cons x a ih =>
    intro l' g r h
    cases l' with
    | nil => cases h
    | cons y b =>
      unfold sameL at h
      split at h
      · rename_i u g1 h1
        have p1 := (sameC_ok (ρ := ⟨id, id⟩) (D := fun _ => True) h1).1
        obtain ⟨p2, q1, q2⟩ := ih b g1 r h
        refine ⟨p1.trans p2, by simp [q1], fun p ρ D i x' hx => ?_⟩
        cases i with
        | zero =>
          injection hx with hx
          subst hx
          exact ⟨x, rfl, (sameC_ok (ρ := ρ) (D := D) h1).2 (p2.pc p)⟩
        | succ i => exact q2 p ρ D i x' (by simpa using hx)
      · cases h
/-- the two objects are the same -/
theorem sameObj_some {o o' : Option AObj} {g g' : G} (h : sameObj o o' g = some ((), g')) : Pc g g' ∧ ∃ x x', o = some x ∧ o' = some x' ∧ x'.fixed = x.fixed ∧ (g'.pc → ∀ (ρ : Rn) (D : Nat → Prop) (b : Nat) (r : Obj), OR P ρ D b x r → OR P ρ D b x' r) := by
  unfold sameObj at h
  split at h
  · rename_i e cs gr
    split at h
    · rename_i e' cs' gr'
      obtain ⟨hg, h1⟩ := guardB_some h
      rw [Bool.and_eq_true, beq_iff] at hg
      obtain ⟨rfl, hgr⟩ := hg
      obtain rfl := boolEq_iff hgr
      obtain ⟨p1, hl, q⟩ := sameL_read _ _ _ _ h1
      refine ⟨p1, _, _, rfl, rfl, rfl, fun p ρ D b r hr => ?_⟩
      cases hr with
      | cells _ _ _ arr fz hh ho hrm =>
        refine .cells _ _ _ arr fz (fun i x' hx' => ?_) ho (by rw [← hl]; exact hrm)
        obtain ⟨x, hx, hv⟩ := q p ρ D i x' hx'
        obtain ⟨a, ha, hva⟩ := hh i x hx
        exact ⟨a, ha, hv a hva⟩
    · cases h
  · cases h
theorem oStore_put {t bb o : Nat} {v : AV} {g g' : G} (h : oStore T t (.ptr bb o) v g = some ((), g')) : ∃ ob0 ob, g.h.get bb = some ob0 ∧ g'.h = g.h.put bb (some ob) ∧ g'.nx = g.nx ∧ (g'.pc → g.pc) ∧ ∀ n, oStore T t (.ptr bb o) v { g with nx := n } = some ((), { g' with nx := n }) := by
  have h0 : obj g bb (stCell T t bb o v g) = some ((), g') := h
  obtain ⟨ob, hob, h1⟩ := obj_some h0
  have again : ∀ n, oStore T t (.ptr bb o) v { g with nx := n } = stCell T t bb o v { g with nx := n } ob := fun n => by
    show obj { g with nx := n } bb (stCell T t bb o v { g with nx := n }) = _
    have : obj { g with nx := n } bb (stCell T t bb o v { g with nx := n }) = Option.rec none (stCell T t bb o v { g with nx := n }) (g.h.get bb) := rfl
    rw [this, hob]
  unfold stCell at h1
  split at h1
  · rename_i e cs gr
    unfold fits at h1
    obtain ⟨i, hi, h2⟩ := ti_some h1
    obtain ⟨hb1, h3⟩ := guardB_some h2
    obtain ⟨hb2, h4⟩ := guardB_some h3
    obtain ⟨_, rfl⟩ := Prod.mk.inj (rok_some h4)
    refine ⟨_, _, hob, rfl, rfl, id, fun n => ?_⟩
    rw [again n]
    simp only [stCell, fits, ti, hi, guardB, hb1, hb2, rok]
    rfl
  · rename_i e k xs gr
    unfold fits at h1
    obtain ⟨i, hi, h2⟩ := ti_some h1
    obtain ⟨hb1, h3⟩ := guardB_some h2
    unfold stNum at h3
    split at h3
    · rename_i s' k' n'
      obtain ⟨hb2, h4⟩ := guardB_some h3
      have h5 : rok () (({ g with pc := (o.blt xs.length, true) :: g.pc } : G).set bb (some (.nums e k (xs.set o n') gr))) = some ((), g') := h4
      obtain ⟨_, rfl⟩ := Prod.mk.inj (rok_some h5)
      refine ⟨_, _, hob, rfl, rfl, fun p => p.2, fun n => ?_⟩
      rw [again n]
      simp only [stCell, fits, ti, hi, guardB, hb1, hb2, stNum]
      rfl
    · cases h3
  · cases h1
theorem stAgain_some {env : Tr AV} {op : Op} {g g' : G} {bb : Nat} (h : stAgain T env op g = some (bb, g')) : ∃ t p x o, op = .store t p x ∧ ev env p = .ptr bb o ∧ oStore T t (.ptr bb o) (ev env x) g = some ((), g') := by
  unfold stAgain at h
  split at h
  · rename_i t p x
    split at h
    · rename_i b' o hp
      split at h
      · rename_i u g1 h1
        injection h with h
        obtain ⟨rfl, rfl⟩ := Prod.mk.inj h
        exact ⟨t, p, x, o, rfl, hp, h1⟩
      · cases h
    · cases h
  · cases h
theorem late_store {op : Op} (h : isStore op = true) : isLate T op = false := by unfold isLate; rw [h]; simp
/-- a store on another memory: the machine does it -/
theorem again_okV (hT : TabOk P T) (hc : CallOk P call) {o : Oper} {env : Tr AV} {gA gx : G} {bb i : Nat} {k : List Item} {rest : List Nat} {st : St} (hd : o.dst = none) (hg : o.guard = none) (h : stAgain T env o.op gA = some (bb, gx)) (p : gx.pc) (hE : ∀ b, E b → st.g.nx ≤ b)
    (hv : ∀ x ∈ o.op.operands, VR ρ (Dm E st.g.nx) (ev env x) (a.eval x)) (hs : SR0 P E ρ { st with g := { st.g with h := gA.h } } a.defers w b.kind cs) (ho : ops[i]? = some o) :
    ∃ ρ' w', Eff P E ρ { st.g with h := gA.h } w ρ' { st.g with h := gx.h } w' ∧ SR0 P E ρ' { st with g := { st.g with h := gx.h } } a.defers w' b.kind cs ∧ Steps P (lone (b.at a (.inRegion ops (i :: rest) :: k)) cs w) (lone (b.at a (.inRegion ops rest :: k)) cs w') := by
  obtain ⟨t, pp, x, off, hop, hp, hst⟩ := stAgain_some h
  obtain ⟨ob0, ob, h0, h1, h2, h3, h4⟩ := oStore_put hst
  have h5 := h4 st.g.nx
  have hx1 : oStore T t (ev env pp) (ev env x) { gA with nx := st.g.nx } = some ((), { gx with nx := st.g.nx }) := by rw [hp]; exact h5
  have hdo := oStore_ok hT (g := { gA with nx := st.g.nx }) (E := E) (hv pp (by rw [hop]; simp [Op.operands])) (hv x (by rw [hop]; simp [Op.operands])) hx1
  obtain ⟨_, _, h6⟩ := hdo
  obtain ⟨w', ρ', hr, he⟩ := h6 p (fun q hq => hE q hq) w hs.gr
  have he' : Eff P E ρ { st.g with h := gA.h } w ρ' { st.g with h := gx.h } w' := ⟨he.nx, he.ext, he.gr, he.fr⟩
  refine ⟨ρ', w', he', ?_, ?_⟩
  · exact ⟨hs.gl.mono (g := { st.g with h := gA.h }) (g' := { st.g with h := gx.h }) he', hs.df.mono he'.use, hs.pm.mono he'.use, he'.gr⟩
  · have hrun : (execOp a.eval o).run P w = .ok .skip w' ∨ ∃ z, (execOp a.eval o).run P w = .ok (.value z) w' := by
      obtain ⟨dst, op, type, pos, after, guard⟩ := o
      simp only at hop
      subst hop
      have : execOp a.eval ⟨dst, .store t pp x, type, pos, after, guard⟩ = (do Instr.storeAt t (a.eval pp) (a.eval x); pure Next.skip) := rfl
      left
      rw [this, Sem.run_bind, hr]; rfl
    rcases hrun with hrun | ⟨z, hrun⟩
    · have := step_skipped (b := b) (k := k) (cs := cs) (rest := rest) ho (wanted_none hg) hrun
      rw [hd] at this
      exact .one this
    · have := step_value (b := b) (k := k) (cs := cs) (rest := rest) ho (wanted_none hg) hrun
      rw [hd] at this
      exact .one this
end
end Go.Proofs.YtkclgbccnbiojaaGreatDoor.SX

namespace Go.Proofs.YtkclgbccnbiojaaGreatDoor.SX
section
variable {P : Program} {T : Tab} {E : Nat → Prop} {ρ ρ' ρ0 : Rn} {call : CallT}
variable {ops : Array Oper} {hi : List Nat} {tw : Option (Nat × Nat)} {hX : Option (Mem)} {N : Nat} {st0 : St} {s : Nat → St} {e : Nat} {b : Frame} {w w' w0 : World} {cs cs' cs0 : List Frame} {a a' : Act}
theorem not_soft (tr : Tra T call ops.toList hi tw N st0 s e) {i : Nat} (him : i ∈ hi) : i ∉ whoIs Cls.isSoft T ops.toList := fun hs => by
  rw [tr.his] at him
  obtain ⟨o1, q1, q2⟩ := mem_whoIs.1 him
  obtain ⟨o2, q3, q4⟩ := mem_whoIs.1 hs
  rw [q1] at q3
  injection q3 with q3
  subst q3
  cases hx : cls T o1.op <;> rw [hx] at q2 q4 <;> first | (cases q2; done) | (cases q4; done)
/-- an effect in its turn -/
theorem Inv.hardly (hc : CallMo call) (tr : Tra T call ops.toList hi tw N st0 s e) {kd : CallKind} {La : Array Bool} {c i : Nat} (iv : Inv P T E ops hi tw hX N st0 s e kd ρ0 w0 cs0 La c none ρ a w cs) (rd : Ready ops La i) (him : i ∈ hi) (hie : i < e) (hall : ∀ j ∈ hi, j < i → La.getD j false = true)
    {o : Oper} (ho : ops.toList[i]? = some o) {v : AV} {x : Value} {g1 : G} (hp1 : Pc (s i).g g1) (hv : (s (i + 1)).env = (setD o.dst v (s i) (s i).g).env) (ht : a'.tmps = (a.put o.dst x).tmps)
    (hx : VR ρ' (Dm (Early E T ops.toList s La i) (s (i + 1)).g.nx) v x) (he : Eff P (Early E T ops.toList s La i) ρ g1 w ρ' (s (i + 1)).g w') (hsr : SR0 P (Early E T ops.toList s La i) ρ' (s (i + 1)) a'.defers w' kd cs') (hno : isNo (s (i + 1)).pm = isNo (s i).pm) (hk : Keep (s i).pm cs cs') :
    Inv P T E ops hi tw hX N st0 s e kd ρ0 w0 cs0 (La.setIfInBounds i true) (i + 1) none ρ' a' w' cs' := by
  obtain ⟨hpos, hD, hci⟩ := iv.reach tr rd him (Nat.le_of_lt hie) hall
  have hil : i < La.size := by rw [iv.sz]; exact rd.lt
  have hns := not_soft tr him
  have hEa : ∀ q, Ea T ops.toList s La i q ↔ Ea T ops.toList s (La.setIfInBounds i true) (i + 1) q := by
    intro q
    unfold Ea
    rw [getD_set hil]
    by_cases h : q = i
    · subst h
      exact ⟨fun h => absurd h.1 hns, fun h => absurd h.1 hns⟩
    · rw [if_neg h]
      exact ⟨fun ⟨h1, h2, h3, h4⟩ => ⟨h1, h2, by omega, h4⟩, fun ⟨h1, h2, h3, h4⟩ => ⟨h1, h2, by omega, h4⟩⟩
  have hEx := Early_congr (E := E) hEa
  have hD2 : Dx E T ops.toList s (La.setIfInBounds i true) (i + 1) = Dm (Early E T ops.toList s La i) (s (i + 1)).g.nx := by unfold Dx; rw [hEx]
  refine iv.next tr rd hie (by omega) (.inr ⟨i, him, rfl⟩) (fun j hj => ?_) (fun h hh => by cases hh) ho hv ht (by rw [hD2]; exact hx) (fun q hq => ?_) ?_
  · constructor
    · rintro (h | h)
      · rcases (iv.ef j hj).1 h with h1 | ⟨h1, _⟩
        · exact .inl (by omega)
        · exact absurd rfl h1
      · exact .inl (by omega)
    · rintro (h | ⟨h, _⟩)
      · by_cases hji : j = i
        · exact .inr hji
        · exact .inl (hall j hj (by omega))
      · exact absurd rfl h
  · rw [hD2]
    rw [← hD] at hq
    exact he.use q (by rw [hp1.nx]; exact hq)
  · exact hpos.eff hp1.h hp1.nx he rfl rfl hEa hsr hno hk
theorem sameObj_pc {o o' : Option AObj} {g g' : G} (h : sameObj o o' g = some ((), g')) : Pc g g' := by
  unfold sameObj at h
  split at h
  · split at h
    · obtain ⟨_, h1⟩ := guardB_some h
      exact (sameL_read _ _ _ _ h1).1
    · cases h
  · cases h
/-- what is known of the two stores in the other order -/
structure TwinRun (T : Tab) (L : List Oper) (hi : List Nat) (s : Nat → St) (e : Nat) (hX : Option (Mem)) (x y : Nat) (ox oy : Oper) (gA gx gy g1 g2 : G) (bx by' : Nat) : Prop where
  ye : y < e
  hx : hX = some gx.h
  atx : L[x]? = some ox
  aty : L[y]? = some oy
  mem : ∀ c, c ≤ e → (c = 0 ∨ ∃ k ∈ hi, c = k + 1) → before hi c = before hi x → gA.h = (s c).g.h
  ry : stAgain T (s e).env oy.op gA = some (by', gx)
  rx : stAgain T (s e).env ox.op gx = some (bx, gy)
  sy : sameObj (gy.h.get by') ((s (y + 1)).g.h.get by') gy = some ((), g1)
  sx : sameObj (gy.h.get bx) ((s (y + 1)).g.h.get bx) g1 = some ((), g2)
  pc : g2.pc
theorem TwinRun.pcs {L : List Oper} {x y : Nat} {ox oy : Oper} {gA gx gy g1 g2 : G} {bx by' : Nat} (t : TwinRun T L hi s e hX x y ox oy gA gx gy g1 g2 bx by') : g1.pc ∧ gy.pc ∧ gx.pc := by
  have h1 := (sameObj_pc t.sx).pc t.pc
  have h2 := (sameObj_pc t.sy).pc h1
  obtain ⟨_, _, _, _, _, _, hst⟩ := stAgain_some t.rx
  obtain ⟨_, _, _, _, _, h3, _⟩ := oStore_put hst
  exact ⟨h1, h2, h3 h2⟩
/-- no memory is made behind the effects ahead of the two -/
theorem Inv.noEarly (tr : Tra T call ops.toList hi tw N st0 s e) {kd : CallKind} {La : Array Bool} {c : Nat} {d : Option (Mem)} (iv : Inv P T E ops hi tw hX N st0 s e kd ρ0 w0 cs0 La c d ρ a w cs) {x y : Nat} (ht : tw = some (x, y)) (hall : ∀ j ∈ hi, j < x → La.getD j false = true) : ∀ q ∈ whoIs Cls.isSoft T ops.toList, q < c := by
  intro q hq
  obtain ⟨k, hk, hkx, hqk⟩ := (tr.twin x y ht).soft q hq
  rcases (iv.ef k hk).1 (hall k hk hkx) with h | ⟨_, x', h⟩
  · omega
  · rw [ht] at h
    injection h with h
    have := (Prod.mk.inj h).2
    have := (tr.twin x y ht).lt
    omega
/-- the later store is the first -/
theorem Inv.twinA (hT : TabOk P T) (hc : CallOk P call) (tr : Tra T call ops.toList hi tw N st0 s e) (nE : ∀ b, E b → (s e).g.nx ≤ b) {La : Array Bool} {c : Nat} (iv : Inv P T E ops hi tw hX N st0 s e b.kind ρ0 w0 cs0 La c none ρ a w cs) {x y : Nat} (htw : tw = some (x, y)) (rd : Ready ops La y) (hnx : La.getD x false = false) (hall : ∀ j ∈ hi, j < y → j ≠ x → La.getD j false = true)
    {ox oy : Oper} {gA gx gy g1 g2 : G} {bx by' : Nat} (t : TwinRun T ops.toList hi s e hX x y ox oy gA gx gy g1 g2 bx by') (k : List Item) (rest : List Nat) :
    ∃ ρ' a' w', Inv P T E ops hi tw hX N st0 s e b.kind ρ0 w0 cs0 (La.setIfInBounds y true) c (some gx.h) ρ' a' w' cs ∧ Steps P (lone (b.at a (.inRegion ops (y :: rest) :: k)) cs w) (lone (b.at a' (.inRegion ops rest :: k)) cs w') := by
  have tt := tr.twin x y htw
  obtain ⟨oy', q1, qg, qd, qs⟩ := tt.sy
  rw [t.aty] at q1
  injection q1 with q1
  subst q1
  have hye := t.ye
  have hxy := tt.lt
  have hbefore : before hi c = before hi x := before_congr fun j hj => by
    constructor
    · intro h
      have h1 := (iv.ef j hj).2 (.inl h)
      rcases Nat.lt_trichotomy j x with h2 | h2 | h2
      · exact h2
      · subst h2; rw [hnx] at h1; cases h1
      · exfalso
        by_cases hjy : j = y
        · subst hjy; rw [rd.no] at h1; cases h1
        · have := (tt.top j hj (by omega) hjy).1; omega
    · intro h
      rcases (iv.ef j hj).1 (hall j hj (by omega) (by omega)) with h1 | ⟨h1, _⟩
      · exact h1
      · exact absurd rfl h1
  have hgA := t.mem c iv.ce iv.cp hbefore
  have hne := iv.noEarly tr htw (fun j hj h => hall j hj (by omega) (by omega))
  have hEa : ∀ q, ¬ Ea T ops.toList s La c q := fun q h => by have := hne q h.1; have := h.2.2.1; omega
  have hil : y < La.size := by rw [iv.sz]; exact rd.lt
  have hEa2 : ∀ q, Ea T ops.toList s La c q ↔ Ea T ops.toList s (La.setIfInBounds y true) c q := ea_set hil (fun h => not_soft tr tt.my h.1)
  have ho' : ops[y]? = some oy := by simpa using t.aty
  have hE : ∀ q, Early E T ops.toList s La c q → (s c).g.nx ≤ q := by
    rintro q (h | ⟨i, h, _⟩)
    · exact Nat.le_trans (tr.leTo hc.mo iv.ce (Nat.le_refl _)).nx (nE q h)
    · exact absurd h (hEa i)
  obtain ⟨ρ', w', he, hsr, hst⟩ := again_okV (k := k) (rest := rest) (st := s c) hT hc qd qg t.ry t.pcs.2.2 hE (iv.operandsE tr rd (Nat.le_of_lt hye) t.aty (late_store qs)) (by rw [hgA]; exact iv.pos.sr) ho'
  have hD2 : Dx E T ops.toList s (La.setIfInBounds y true) c = Dx E T ops.toList s La c := by unfold Dx; rw [Early_congr hEa2]
  obtain ⟨oq, v, qo, qv, _⟩ := tr.env hye
  rw [t.aty] at qo
  injection qo with qo
  subst qo
  refine ⟨ρ', a, w', iv.next tr rd hye iv.ce iv.cp (fun j hj => ?_) (fun h hh => ?_) (v := .und) (x := undef) t.aty ?_ (by rw [qd]; rfl) .und (fun q hq => ?_) ?_, hst⟩
  · constructor
    · rintro (h | h)
      · rcases (iv.ef j hj).1 h with h1 | ⟨h1, _⟩
        · exact .inl h1
        · exact absurd rfl h1
      · subst h; exact .inr ⟨by simp, x, htw⟩
    · rintro (h | ⟨_, x', h⟩)
      · exact .inl ((iv.ef j hj).2 (.inl h))
      · rw [htw] at h
        injection h with h
        exact .inr (Prod.mk.inj h).2.symm
  · injection hh with hh
    subst hh
    exact ⟨t.hx, x, y, htw, hbefore, hnx, by omega⟩
  · rw [qv, qd]; rfl
  · rw [hD2]
    exact he.use q hq
  · exact iv.pos.eff (g1 := { (s c).g with h := gA.h }) (g' := { (s c).g with h := gx.h }) hgA rfl he rfl rfl hEa2 hsr rfl (.refl _ _)
/-- .. and the earlier one behind it -/
theorem Inv.twinB (hT : TabOk P T) (hc : CallOk P call) (tr : Tra T call ops.toList hi tw N st0 s e) (nE : ∀ b, E b → (s e).g.nx ≤ b) {La : Array Bool} {c : Nat} {h : Mem} (iv : Inv P T E ops hi tw hX N st0 s e b.kind ρ0 w0 cs0 La c (some h) ρ a w cs) {x y : Nat} (htw : tw = some (x, y)) (rd : Ready ops La x)
    {ox oy : Oper} {gA gx gy g1 g2 : G} {bx by' : Nat} (t : TwinRun T ops.toList hi s e hX x y ox oy gA gx gy g1 g2 bx by') (k : List Item) (rest : List Nat) :
    ∃ ρ' a' w', Inv P T E ops hi tw hX N st0 s e b.kind ρ0 w0 cs0 (La.setIfInBounds x true) (y + 1) none ρ' a' w' cs ∧ Steps P (lone (b.at a (.inRegion ops (x :: rest) :: k)) cs w) (lone (b.at a' (.inRegion ops rest :: k)) cs w') := by
  have tt := tr.twin x y htw
  obtain ⟨ox', q1, qg, qd, qs⟩ := tt.sx
  rw [t.atx] at q1
  injection q1 with q1
  subst q1
  obtain ⟨oy', r1, rg, rdd, rs⟩ := tt.sy
  rw [t.aty] at r1
  injection r1 with r1
  subst r1
  have hye := t.ye
  have hxy := tt.lt
  obtain ⟨hh1, x', y', h2, hbefore, hnx⟩ := iv.dd h rfl
  rw [htw] at h2
  injection h2 with h2
  obtain ⟨rfl, rfl⟩ := Prod.mk.inj h2
  have hgx : gx.h = h := by
    have := t.hx
    rw [hh1] at this
    injection this with this
    exact this.symm
  have hLy : La.getD y false = true := (iv.ef y tt.my).2 (.inr ⟨by simp, x, htw⟩)
  have hallx : ∀ j ∈ hi, j < x → La.getD j false = true := fun j hj hjx => iv.cl y j hLy (tt.top j hj (by omega) (by omega)).2.2
  have hcx : c ≤ x := by
    rcases Nat.lt_or_ge x c with hlt | hge
    · have := (iv.ef x tt.mx).2 (.inl hlt)
      rw [rd.no] at this; cases this
    · exact hge
  have hne := iv.noEarly tr htw hallx
  have hEa : ∀ q, ¬ Ea T ops.toList s La c q := fun q h => by have := hne q h.1; have := h.2.2.1; omega
  have hil : x < La.size := by rw [iv.sz]; exact rd.lt
  have hEa2 : ∀ q, Ea T ops.toList s La c q ↔ Ea T ops.toList s (La.setIfInBounds x true) (y + 1) q := fun q => ⟨fun h => absurd h (hEa q), fun h => by have := hne q h.1; have := h.2.2.1; omega⟩
  have ho' : ops[x]? = some ox := by simpa using t.atx
  have hE : ∀ q, Early E T ops.toList s La c q → (s c).g.nx ≤ q := by
    rintro q (h | ⟨i, h, _⟩)
    · exact Nat.le_trans (tr.leTo hc.mo iv.ce (Nat.le_refl _)).nx (nE q h)
    · exact absurd h (hEa i)
  obtain ⟨ρ', w', he, hsr, hst⟩ := again_okV (k := k) (rest := rest) (st := s c) hT hc qd qg t.rx t.pcs.2.1 hE (iv.operandsE tr rd (by omega) t.atx (late_store qs)) (by rw [hgx]; exact iv.pos.sr) ho'
  -- how the memory of the text's order came about
  obtain ⟨tx, px, vx, offx, hopx, hpx, hsx⟩ := stAgain_some t.rx
  obtain ⟨obx0, obx, hx0, hx1, hx2, _, _⟩ := oStore_put hsx
  obtain ⟨ty, py, vy, offy, hopy, hpy, hsy⟩ := stAgain_some t.ry
  obtain ⟨oby0, oby, hy0, hy1, hy2, _, _⟩ := oStore_put hsy
  have hgA := t.mem c iv.ce iv.cp hbefore
  have hcy : ∀ k, c ≤ k → k < y → k ≠ x → k ∉ hi ∧ k ∉ whoIs Cls.isSoft T ops.toList := fun k k1 k2 k3 => ⟨fun hk => by
    rcases Nat.lt_trichotomy k x with h4 | h4 | h4
    · have := hallx k hk h4
      rcases (iv.ef k hk).1 this with h5 | ⟨_, x', h5⟩
      · omega
      · rw [htw] at h5; injection h5 with h5; have := (Prod.mk.inj h5).2; omega
    · exact k3 h4
    · have := (tt.top k hk (by omega) (by omega)).1; omega, fun hk => by have := hne k hk; omega⟩
  have s1 : Same (s c) (s x) := tr.same_le hcx (by omega) (fun k k1 k2 => hcy k k1 (by omega) (by omega))
  have s2 : Same (s (x + 1)) (s y) := tr.same_le (by omega) (by omega) (fun k k1 k2 => hcy k (by omega) k2 (by omega))
  have main : ∀ {z : Nat} {oz : Oper} {tz : Nat} {pz vz : Operand} {bz offz : Nat}, ops.toList[z]? = some oz → oz.guard = none → oz.dst = none → oz.op = .store tz pz vz → z < e → ev (s e).env pz = .ptr bz offz → ∃ ob0 ob, (s z).g.h.get bz = some ob0 ∧ (s (z + 1)).g.h = (s z).g.h.put bz (some ob) ∧ (s (z + 1)).g.nx = (s z).g.nx ∧ (s (z + 1)).df = (s z).df ∧ (s (z + 1)).pm = (s z).pm := by
    intro z oz tz pz vz bz offz hz hzg hzd hzo hze hzp
    obtain ⟨o2, st1, gg, u1, u2, u3, u4⟩ := tr.one hze
    rw [hz] at u1
    injection u1 with u1
    subst u1
    rcases u4 with ⟨u4, _⟩ | ⟨_, j, want, gd, u5, _⟩
    · rw [hzo] at u4
      have hpz : ev (s z).env pz = .ptr bz offz := by
        rw [← hzp]
        cases pz with
        | tmp tq =>
          show evT (s z).env tq = evT (s e).env tq
          exact (tr.looks hz (Nat.le_of_lt hze) (late_store (by rw [hzo]; rfl)) (mem_tmpsOf (by rw [hzo]; simp [Op.operands]))).symm
        | _ => rfl
      obtain ⟨g', u6, u7⟩ := oU_some (show oU oz.dst { s z with g := gg } (oStore T tz (ev (s z).env pz) (ev (s z).env vz) gg) = some (none, st1) from u4)
      rw [hpz] at u6
      obtain ⟨ob0, ob, v1, v2, v3, _, _⟩ := oStore_put u6
      obtain ⟨_, rfl⟩ := Prod.mk.inj u7
      rw [hzd] at u2
      have e1 : (s (z + 1)).g = g' := by rw [u2, (snapI_eq _ _).2.1]; rfl
      have e2 : (s (z + 1)).df = (s z).df := by rw [u2, (snapI_eq _ _).2.2.1]; rfl
      have e3 : (s (z + 1)).pm = (s z).pm := by rw [u2, (snapI_eq _ _).2.2.2]; rfl
      rw [u3.h] at v1 v2
      rw [u3.nx] at v3
      exact ⟨ob0, ob, v1, by rw [e1]; exact v2, by rw [e1]; exact v3, e2, e3⟩
    · rw [hzg] at u5; cases u5
  obtain ⟨mx0, mx, m1, m2, m3, m4, m5⟩ := main t.atx qg qd hopx (by omega) hpx
  obtain ⟨my0, my, n1, n2, n3, n4, n5⟩ := main t.aty rg rdd hopy hye hpy
  have hnxE : (s (y + 1)).g.nx = (s c).g.nx := by rw [n3, s2.nx, m3, s1.nx]
  have hdfE : (s (y + 1)).df = (s c).df := by rw [n4, s2.df, m4, s1.df]
  have hpmE : (s (y + 1)).pm = (s c).pm := by rw [n5, s2.pm, m5, s1.pm]
  have grc : GR P ρ (Dx E T ops.toList s La c) gx.h.get w := by rw [hgx]; exact iv.pos.sr.gr
  have mem1 : ∀ q, gy.h.get q = if q = bx then some obx else if q = by' then some oby else (s c).g.h.get q := fun q => by
    rw [hx1, mget_put, hy1, mget_put, hgA]
  have mem2 : ∀ q, (s (y + 1)).g.h.get q = if q = by' then some my else if q = bx then some mx else (s c).g.h.get q := fun q => by
    rw [n2, mget_put, s2.h, m2, mget_put, s1.h]
  have alk : Alk P gy.h.get (s (y + 1)).g.h.get := by
    obtain ⟨_, z1, z1', p1, p2, p3, p4⟩ := sameObj_some (P := P) t.sy
    obtain ⟨_, z2, z2', p5, p6, p7, p8⟩ := sameObj_some (P := P) t.sx
    refine ⟨fun q o hq => ?_, fun q o' hq => ?_⟩
    · by_cases h5 : q = by'
      · subst h5
        rw [p1] at hq
        injection hq with hq
        subst hq
        exact ⟨z1', p2, p3, fun ρ D r hr => p4 t.pcs.1 ρ D q r hr⟩
      · by_cases h6 : q = bx
        · subst h6
          rw [p5] at hq
          injection hq with hq
          subst hq
          exact ⟨z2', p6, p7, fun ρ D r hr => p8 t.pc ρ D q r hr⟩
        · rw [mem1, if_neg h6, if_neg h5] at hq
          exact ⟨o, by rw [mem2, if_neg h5, if_neg h6]; exact hq, rfl, fun _ _ _ hr => hr⟩
    · by_cases h5 : q = by'
      · subst h5
        rw [p2] at hq
        injection hq with hq
        subst hq
        exact ⟨z1, p1, p3⟩
      · by_cases h6 : q = bx
        · subst h6
          rw [p6] at hq
          injection hq with hq
          subst hq
          exact ⟨z2, p5, p7⟩
        · rw [mem2, if_neg h5, if_neg h6] at hq
          exact ⟨o', by rw [mem1, if_neg h6, if_neg h5]; exact hq, rfl⟩
  have alr : ∀ (H : Nat → Option AObj), Alk P H H := fun H => ⟨fun q o hq => ⟨o, hq, rfl, fun _ _ _ hr => hr⟩, fun q o hq => ⟨o, hq, rfl⟩⟩
  have he2 : Eff P (Early E T ops.toList s La c) ρ { (s c).g with h := gx.h } w ρ' { (s c).g with h := (s (y + 1)).g.h } w' := Alk.eff (g1 := { (s c).g with h := gx.h }) (g1' := { (s c).g with h := gy.h }) (alr _) alk rfl rfl he
  have hD2 : Dx E T ops.toList s (La.setIfInBounds x true) (y + 1) = Dx E T ops.toList s La c := by unfold Dx; rw [← Early_congr hEa2, hnxE]
  obtain ⟨oq, v, qo, qv, _⟩ := tr.env (show x < e by omega)
  rw [t.atx] at qo
  injection qo with qo
  subst qo
  refine ⟨ρ', a, w', iv.next tr rd (by omega) (by omega) (.inr ⟨y, tt.my, rfl⟩) (fun j hj => ?_) (fun h hh => by cases hh) (v := .und) (x := undef) t.atx ?_ (by rw [qd]; rfl) .und (fun q hq => ?_) ?_, hst⟩
  · constructor
    · rintro (h | h)
      · rcases (iv.ef j hj).1 h with h1 | ⟨_, x', h1⟩
        · exact .inl (by omega)
        · rw [htw] at h1
          injection h1 with h1
          have := (Prod.mk.inj h1).2
          exact .inl (by omega)
      · exact .inl (by omega)
    · rintro (h | ⟨h, _⟩)
      · by_cases h1 : j = x
        · exact .inr h1
        · by_cases h2 : j = y
          · rw [h2]; exact .inl hLy
          · exact .inl (hallx j hj (tt.top j hj h1 h2).1)
      · exact absurd rfl h
  · rw [qv, qd]; rfl
  · rw [hD2]
    exact he2.use q hq
  · refine iv.pos.eff (g1 := { (s c).g with h := gx.h }) (g' := { (s c).g with h := (s (y + 1)).g.h }) hgx rfl he2 rfl hnxE.symm hEa2 ⟨?_, ?_, ?_, ?_⟩ (by rw [hpmE]) (.refl _ _)
    · show Gl ρ' (s (y + 1)).g.nx
      rw [hnxE]; exact hsr.gl
    · show DfR ρ' (Dm _ (s (y + 1)).g.nx) (s (y + 1)).df _
      rw [hnxE, hdfE]; exact hsr.df
    · show PMR ρ' (Dm _ (s (y + 1)).g.nx) (s (y + 1)).pm _ _
      rw [hnxE, hpmE]; exact hsr.pm
    · show GR P ρ' (Dm _ (s (y + 1)).g.nx) (s (y + 1)).g.h.get _
      rw [hnxE]; exact he2.gr
end
end Go.Proofs.YtkclgbccnbiojaaGreatDoor.SX


namespace Go.Proofs.YtkclgbccnbiojaaGreatDoor.SX
section
variable {P : Program} {T : Tab} {E : Nat → Prop} {ρ ρ' ρ0 : Rn} {call : CallT}
variable {ops : Array Oper} {hi : List Nat} {tw : Option (Nat × Nat)} {hX : Option (Mem)} {N : Nat} {st0 : St} {s : Nat → St} {e : Nat} {b : Frame} {w w' w0 : World} {cs cs' cs0 : List Frame} {a a' : Act}
/-- where a read is looked at -/
noncomputable def winsAll (T : Tab) (L : List Oper) (hi : List Nat) (tw : Option (Nat × Nat)) : List (Nat × Nat) := (whoIs Cls.isRead T L).flatMap fun r => winsOf (ancs L) hi (whoIs Cls.isSoft T L) r ++ winsX (ancs L) hi tw r
/-- the memories, and what is known of the reads -/
structure Mems (T : Tab) (L : List Oper) (hi : List Nat) (tw : Option (Nat × Nat)) (hX : Option (Mem)) (s : Nat → St) (e : Nat) (hs : List (Mem)) : Prop where
  at_ : ∀ q, q ≤ before hi e → hs[q]? = (s e).sn.reverse[q]?
  last : ∀ h, hX = some h → hs[hi.length + 1]? = some h
  win : ∀ r p, (r, p) ∈ winsAll T L hi tw → (p ≤ before hi e ∨ (p = hi.length + 1 ∧ hX ≠ none)) → ∃ g1 g2, winOne T L (s e).env hs (r, p) g1 = some ((), g2) ∧ g2.pc
  twin : ∀ x y, tw = some (x, y) → y < e → ∃ ox oy gA gx gy g1 g2 bx by', TwinRun T L hi s e hX x y ox oy gA gx gy g1 g2 bx by'
/-- a read, elsewhere -/
theorem Inv.look (hT : TabOk P T) (tr : Tra T call ops.toList hi tw N st0 s e) {hs : List (Mem)} (ms : Mems T ops.toList hi tw hX s e hs) {kd : CallKind} {La : Array Bool} {c i : Nat} {d : Option (Mem)} (iv : Inv P T E ops hi tw hX N st0 s e kd ρ0 w0 cs0 La c d ρ a w cs) (rd : Ready ops La i) (hie : i < e)
    {o : Oper} (ho : ops.toList[i]? = some o) (hcl : cls T o.op = .read) {v : AV} (hv : (s (i + 1)).env = (setD o.dst v (s i) (s i).g).env) {pc : Prop} (pp : pc) (hon : GuardOn ops.toList o (s i).env pc) {p : Nat}
    (hmem : (i, p) ∈ winsAll T ops.toList hi tw) (hp : p ≤ before hi e ∨ (p = hi.length + 1 ∧ hX ≠ none)) (hh : ∀ h, hs[p]? = some h → h = memOf s c d) : ∃ x, (execOp a.eval o).run P w = .ok (.value x) w ∧ VR ρ (Dx E T ops.toList s La c) v x := by
  have hl : isLate T o.op = false := by unfold isLate; rw [hcl]; rfl
  obtain ⟨ga, gb, h5, h6⟩ := ms.win i p hmem hp
  obtain ⟨o2, dd, h, h7, h8, h9, h10⟩ := winOne_some h5
  simp only at h7 h9
  rw [ho] at h7
  injection h7 with h7
  subst h7
  obtain rfl := hh h h9
  obtain ⟨gc, h12⟩ := winGuard_on h10 h6 pp hon (fun j want gd hg hd => tr.looks ho (Nat.le_of_lt hie) hl (mem_tmpsOf_guard hg hd))
  obtain ⟨v2, gd, ge, h13, h14, _, h15⟩ := winRead_some h12
  obtain ⟨p15, p16⟩ := h15 h6
  obtain ⟨_, h18⟩ := read_okV (D := Dx E T ops.toList s La c) (a := a) hT (iv.operandsE tr rd (Nat.le_of_lt hie) ho hl) hcl h13
  obtain ⟨x, hr, hx⟩ := h18 p16 w iv.pos.sr.gr
  have hx2 := (sameV_ok (ρ := ρ) (D := Dx E T ops.toList s La c) h14).2 p15 x hx
  refine ⟨x, hr, ?_⟩
  have : evT (s e).env dd = v := by
    rw [tr.made ho hie h8, hv, h8]
    show evT ((s i).env.put dd (some v)) dd = v
    rw [evT_eq, get_put _ _ _ _ (Nat.lt_trans (tr.dst o (List.mem_of_getElem? ho) dd h8) tr.small), if_pos rfl]
  rw [this] at hx2
  exact hx2
theorem Inv.step (hT : TabOk P T) (hc : CallOk P call) (tr : Tra T call ops.toList hi tw N st0 s e) (pE : (s e).g.pc) (nE : ∀ b, E b → (s e).g.nx ≤ b) {hs : List (Mem)} (ms : Mems T ops.toList hi tw hX s e hs)
    {La : Array Bool} {c i : Nat} {d : Option (Mem)} (iv : Inv P T E ops hi tw hX N st0 s e b.kind ρ0 w0 cs0 La c d ρ a w cs) (rd : Ready ops La i) (hie : i < e) (k : List Item) (rest : List Nat) :
    ∃ c' d' ρ' a' w' cs', Inv P T E ops hi tw hX N st0 s e b.kind ρ0 w0 cs0 (La.setIfInBounds i true) c' d' ρ' a' w' cs' ∧ Steps P (lone (b.at a (.inRegion ops (i :: rest) :: k)) cs w) (lone (b.at a' (.inRegion ops rest :: k)) cs' w') := by
  obtain ⟨o, st1, g1, ho, hs1, hp, h⟩ := tr.one hie
  have ho' : ops[i]? = some o := by simpa using ho
  have hle1 := tr.leTo hc.mo (show i + 1 ≤ e by omega) (Nat.le_refl _)
  have hg1 : (s (i + 1)).g = st1.g := by rw [hs1]; exact (snapI_eq _ _).2.1
  have hle2 : Le st1.g (s e).g := by rw [← hg1]; exact hle1
  have pst : st1.g.pc := hle2.pc pE
  have henv : ∀ v, st1.env = (setD o.dst v (s i) (s i).g).env → (s (i + 1)).env = (setD o.dst v (s i) (s i).g).env := fun v hv => by rw [hs1, (snapI_eq _ _).1, hv]
  have hops := iv.operands tr rd (Nat.le_of_lt hie) ho
  -- the two stores
  have twins : i ∈ hi → (d ≠ none ∨ ¬ (∀ j ∈ hi, j < i → La.getD j false = true)) → ∃ c' d' ρ' a' w' cs', Inv P T E ops hi tw hX N st0 s e b.kind ρ0 w0 cs0 (La.setIfInBounds i true) c' d' ρ' a' w' cs' ∧ Steps P (lone (b.at a (.inRegion ops (i :: rest) :: k)) cs w) (lone (b.at a' (.inRegion ops rest :: k)) cs' w') := by
    intro hm hd
    cases hdd : d with
    | some h =>
      subst hdd
      obtain ⟨hh1, x, y, htw, hbefore, hnx⟩ := iv.dd h rfl
      have tt := tr.twin x y htw
      have hLy : La.getD y false = true := (iv.ef y tt.my).2 (.inr ⟨by simp, x, htw⟩)
      have hye := iv.lt y hLy
      have hix : i = x := by
        by_cases h1 : i = x
        · exact h1
        · exfalso
          by_cases h2 : i = y
          · subst h2; rw [rd.no] at hLy; cases hLy
          · have := iv.cl y i hLy (tt.top i hm h1 h2).2.2
            rw [rd.no] at this; cases this
      subst hix
      obtain ⟨ox, oy, gA, gx, gy, ga, gb, bx, by', t⟩ := ms.twin i y htw hye
      obtain ⟨ρ', a', w', h1, h2⟩ := iv.twinB hT hc tr nE htw rd t k rest
      exact ⟨_, _, ρ', a', w', cs, h1, h2⟩
    | none =>
      subst hdd
      rcases iv.atHard tr rd hm with h1 | ⟨x, htw, hnx, hall⟩
      · rcases hd with hd | hd
        · exact absurd rfl hd
        · exact absurd h1 hd
      · obtain ⟨ox, oy, gA, gx, gy, ga, gb, bx, by', t⟩ := ms.twin x i htw hie
        obtain ⟨ρ', a', w', h1, h2⟩ := iv.twinA hT hc tr nE htw rd hnx hall t k rest
        exact ⟨_, _, ρ', a', w', cs, h1, h2⟩
  by_cases hT1 : i ∈ hi ∧ (d ≠ none ∨ ¬ (∀ j ∈ hi, j < i → La.getD j false = true))
  · exact twins hT1.1 hT1.2
  have hardNow : i ∈ hi → d = none ∧ ∀ j ∈ hi, j < i → La.getD j false = true := fun hm => by
    refine ⟨?_, ?_⟩
    · cases hd : d with
      | none => rfl
      | some h => exact absurd ⟨hm, .inl (by rw [hd]; simp)⟩ hT1
    · by_cases h1 : ∀ j ∈ hi, j < i → La.getD j false = true
      · exact h1
      · exact absurd ⟨hm, .inr h1⟩ hT1
  have hst : Same st1 (s (i + 1)) := by rw [hs1]; exact ⟨by rw [(snapI_eq _ _).2.1], by rw [(snapI_eq _ _).2.1], (snapI_eq _ _).2.2.1, (snapI_eq _ _).2.2.2⟩
  -- the blocks that were made ahead stand behind
  have hEb : i ∈ hi → ∀ q, Early E T ops.toList s La i q → st1.g.nx ≤ q := by
    rintro hm q (h1 | ⟨j, h1, h2⟩)
    · exact Nat.le_trans hle2.nx (nE q h1)
    · have hji : j ≠ i := fun hh => not_soft tr hm (by rw [← hh]; exact h1.1)
      have := h1.2.2.1
      have hje := iv.lt j h1.2.1
      have := (tr.leTo hc.mo (show i + 1 ≤ j by omega) (by omega)).nx
      rw [hg1] at this
      omega
  rcases h with ⟨hrun, hon⟩ | ⟨hskip, hoff⟩
  · have hleg : Le g1 st1.g := opRun_mo (T := T) (st := { s i with g := g1 }) hc.mo none st1 hrun
    have pg1 : g1.pc := hleg.pc pst
    have hw := iv.guardOn tr rd (Nat.le_of_lt hie) ho pg1 hon
    by_cases hm : i ∈ hi
    · obtain ⟨rfl, hall⟩ := hardNow hm
      obtain ⟨hpos, hD, hci⟩ := iv.reach tr rd hm (Nat.le_of_lt hie) hall
      have hsame1 : Same (s i) { s i with g := g1 } := ⟨hp.h, hp.nx, rfl, rfl⟩
      have hsr : SR0 P (Early E T ops.toList s La i) ρ { s i with g := g1 } a.defers w b.kind cs := SR0.same (st := s i) hpos.sr hsame1
      have := op_okV (k := k) (rest := rest) hT hc hrun pst (hEb hm) (fun x hx => by
        have := hops x hx
        rw [← hD] at this
        show VR ρ (Dm _ g1.nx) _ _
        rw [hp.nx]; exact this) hsr ho' hw
      obtain ⟨v, x, ρ', a', w', cs', e1, e2, e3, e4, e5⟩ := this
      have hx : VR ρ' (Dm (Early E T ops.toList s La i) (s (i + 1)).g.nx) v x := by rw [hst.nx]; exact e3
      have he : Eff P (Early E T ops.toList s La i) ρ g1 w ρ' (s (i + 1)).g w' := Eff.sameR (show Eff P _ ρ g1 w ρ' st1.g w' from e4.eff) hst.h hst.nx
      exact ⟨i + 1, none, ρ', a', w', cs', iv.hardly hc.mo tr rd hm hie hall ho hp (henv v (by rw [e1]; cases o.dst <;> rfl)) e2 hx he (e4.sr.same hst) (by rw [hst.pm]; exact e4.no) e4.keep, e5⟩
    · cases hcl : cls T o.op with
      | hard => exact absurd (by rw [tr.his]; exact mem_whoIs.2 ⟨o, ho, by rw [hcl]; rfl⟩) hm
      | soft =>
        have hms : i ∈ whoIs Cls.isSoft T ops.toList := mem_whoIs.2 ⟨o, ho, by rw [hcl]; rfl⟩
        obtain ⟨v, ob, h1, h2, h3, h4⟩ := soft_okV (D := Dx E T ops.toList s La c) (st := { s i with g := g1 }) (a := a) hT (fun x hx => hops x hx) hcl hrun
        obtain ⟨x, r, hr, hnew⟩ := h4 w
        obtain ⟨_, rfl⟩ := Prod.mk.inj h1
        have hn : Newly (s i) (s (i + 1)) ob := by
          rw [hs1]
          have hc0 : (setD o.dst v { s i with g := g1 } { ({ s i with g := g1 } : St).g with h := g1.h.put g1.nx (some ob), nx := g1.nx + 1 }) = (setD o.dst v { s i with g := g1 } { g1 with h := g1.h.put g1.nx (some ob), nx := g1.nx + 1 }) := rfl
          refine ⟨?_, ?_, ?_, ?_, ?_⟩
          · rw [(snapI_eq _ _).2.1, setD_g]; show g1.h.put g1.nx _ = _; rw [hp.h, hp.nx]
          · rw [(snapI_eq _ _).2.1, setD_g]; show g1.nx + 1 = _; rw [hp.nx]
          · rw [(snapI_eq _ _).2.2.1]; cases o.dst <;> rfl
          · rw [(snapI_eq _ _).2.2.2]; cases o.dst <;> rfl
          · rw [← hp.nx]; exact h2
        have hnew' : NewAt P ρ (Dx E T ops.toList s La c) (s i).g.nx w v ob x r := by rw [← hp.nx]; exact hnew
        obtain ⟨ρ', h5⟩ := iv.softly hc.mo tr nE rd hie hms ho (henv v (by cases o.dst <;> rfl)) hn h3 hnew'
        exact ⟨c, d, ρ', _, _, cs, h5, .one (step_value ho' hw hr)⟩
      | pure =>
        have hns : ¬ (i ∈ whoIs Cls.isSoft T ops.toList ∧ (s i).g.nx < (s (i + 1)).g.nx) := fun ⟨h1, _⟩ => by
          obtain ⟨o2, q1, q2⟩ := mem_whoIs.1 h1
          rw [ho] at q1; injection q1 with q1; subst q1
          rw [hcl] at q2; cases q2
        obtain ⟨v, g', h1, h2, h3⟩ := pure_okV (D := Dx E T ops.toList s La c) (st := { s i with g := g1 }) (a := a) hT (fun x hx => hops x hx) hcl hrun
        obtain ⟨_, rfl⟩ := Prod.mk.inj h1
        rw [setD_g] at pst
        obtain ⟨x, hr, hx⟩ := h3 pst w
        exact ⟨c, d, ρ, _, w, cs, iv.quietly tr rd hie hm hns ho (henv v (by cases o.dst <;> rfl)) hx, .one (step_value ho' hw hr)⟩
      | read =>
        have hns : ¬ (i ∈ whoIs Cls.isSoft T ops.toList ∧ (s i).g.nx < (s (i + 1)).g.nx) := fun ⟨h1, _⟩ => by
          obtain ⟨o2, q1, q2⟩ := mem_whoIs.1 h1
          rw [ho] at q1; injection q1 with q1; subst q1
          rw [hcl] at q2; cases q2
        rcases rdV_run (T := T) hcl (call := call) (d := o.dst) (st := { s i with g := g1 }) with h1 | h1
        · rw [h1] at hrun
          obtain ⟨v, g', h2, h3⟩ := oV_some hrun
          obtain ⟨_, rfl⟩ := Prod.mk.inj h3
          rw [setD_g] at pst
          have hv1 : (setD o.dst v { s i with g := g1 } g').env = (setD o.dst v (s i) (s i).g).env := by cases o.dst <;> rfl
          have fin : (∃ x, (execOp a.eval o).run P w = .ok (.value x) w ∧ VR ρ (Dx E T ops.toList s La c) v x) → ∃ c' d' ρ' a' w' cs', Inv P T E ops hi tw hX N st0 s e b.kind ρ0 w0 cs0 (La.setIfInBounds i true) c' d' ρ' a' w' cs' ∧ Steps P (lone (b.at a (.inRegion ops (i :: rest) :: k)) cs w) (lone (b.at a' (.inRegion ops rest :: k)) cs' w') := by
            rintro ⟨x, hr, hx⟩
            exact ⟨c, d, ρ, _, w, cs, iv.quietly tr rd hie hm hns ho (henv v hv1) hx, .one (step_value ho' hw hr)⟩
          have hr0 : i ∈ whoIs Cls.isRead T ops.toList := mem_whoIs.2 ⟨o, ho, by rw [hcl]; rfl⟩
          have hbc : before hi c ≤ before hi e := tr.mono iv.ce
          cases hd : d with
          | some h =>
            subst hd
            obtain ⟨hh1, x, y, htw, hbefore, hnx⟩ := iv.dd h rfl
            have tt := tr.twin x y htw
            have hLy : La.getD y false = true := (iv.ef y tt.my).2 (.inr ⟨by simp, x, htw⟩)
            refine fin (iv.look hT tr ms rd hie ho hcl (henv v hv1) pg1 hon (p := hi.length + 1) ?_ (.inr ⟨rfl, by rw [hh1]; simp⟩) (fun h' hh' => ?_))
            · unfold winsAll
              rw [List.mem_flatMap]
              refine ⟨i, hr0, List.mem_append_right _ ?_⟩
              unfold winsX
              rw [htw]
              have e1 : bitAt ((ancs ops.toList).getD i 0) x = false := by
                cases hb : bitAt ((ancs ops.toList).getD i 0) x with
                | false => rfl
                | true => have := rd.anc x hb; rw [hnx] at this; cases this
              have e2 : bitAt ((ancs ops.toList).getD y 0) i = false := by
                cases hb : bitAt ((ancs ops.toList).getD y 0) i with
                | false => rfl
                | true => have := iv.cl y i hLy hb; rw [rd.no] at this; cases this
              simp only [e1, e2]
              exact List.mem_cons_self ..
            · rw [ms.last h hh1] at hh'
              injection hh' with hh'
              exact hh'.symm
          | none =>
            subst hd
            by_cases hb : before hi c = before hi i ∧ near hi (whoIs Cls.isSoft T ops.toList) i = false
            · have hci : c ≤ i := by
                rcases Nat.lt_or_ge i c with hlt | hge
                · exfalso
                  rcases iv.cp with hc0 | ⟨kk, hk, hc0⟩
                  · omega
                  · have h1 := before_succ tr.lt kk
                    rw [if_pos hk, ← hc0] at h1
                    have := tr.mono (show i ≤ kk by omega)
                    omega
                · exact hge
              have hnot : ∀ kk, c ≤ kk → kk < i → kk ∉ hi ∧ kk ∉ whoIs Cls.isSoft T ops.toList := fun kk k1 k2 => by
                refine ⟨fun hk => ?_, fun hk => ?_⟩
                · have h1 := before_succ tr.lt kk
                  rw [if_pos hk] at h1
                  have := tr.mono k1
                  have := tr.mono (show kk + 1 ≤ i by omega)
                  omega
                · have h2 : near hi (whoIs Cls.isSoft T ops.toList) i = true := by
                    unfold near
                    refine List.any_eq_true.2 ⟨kk, hk, ?_⟩
                    rw [Bool.and_eq_true, blt_iff, beq_iff]
                    have := tr.mono k1
                    have := tr.mono (Nat.le_of_lt k2)
                    exact ⟨k2, by omega⟩
                  rw [hb.2] at h2; cases h2
              have hsame := tr.same_le hci (Nat.le_of_lt hie) hnot
              obtain ⟨_, h4⟩ := read_okV (D := Dx E T ops.toList s La c) (a := a) hT (fun x hx => hops x hx) hcl h2
              exact fin (h4 pst w (by rw [hp.h, hsame.h]; exact iv.pos.sr.gr))
            · refine fin (iv.look hT tr ms rd hie ho hcl (henv v hv1) pg1 hon (p := before hi c) ?_ (.inl hbc) (fun h' hh' => ?_))
              · unfold winsAll
                rw [List.mem_flatMap]
                refine ⟨i, hr0, List.mem_append_left _ ?_⟩
                unfold winsOf
                rw [List.mem_map]
                refine ⟨before hi c, ?_, rfl⟩
                rw [List.mem_filter]
                refine ⟨List.mem_range.2 (by have := before_le hi c; omega), ?_⟩
                rw [Bool.and_eq_true]
                refine ⟨?_, ?_⟩
                · unfold admits
                  rw [Bool.and_eq_true]
                  constructor
                  · refine List.all_eq_true.2 fun x hx => ?_
                    have h5 := drop_before tr.lt c x hx
                    have h6 := iv.ef x (List.mem_of_mem_drop hx)
                    cases hbit : bitAt ((ancs ops.toList).getD i 0) x with
                    | false => rfl
                    | true =>
                      rcases h6.1 (rd.anc x hbit) with h7 | ⟨h7, _⟩
                      · omega
                      · exact absurd rfl h7
                  · refine List.all_eq_true.2 fun x hx => ?_
                    have h5 := take_before tr.lt c x hx
                    have h6 := iv.ef x (List.mem_of_mem_take hx)
                    cases hbit : bitAt ((ancs ops.toList).getD x 0) i with
                    | false => rfl
                    | true =>
                      have := iv.cl x i (h6.2 (.inl h5)) hbit
                      rw [rd.no] at this; cases this
                · by_cases h1 : before hi c = before hi i
                  · cases hn : near hi (whoIs Cls.isSoft T ops.toList) i with
                    | true => simp
                    | false => exact absurd ⟨h1, hn⟩ hb
                  · rw [beq_f h1]; rfl
              · rw [ms.at_ _ hbc, (tr.sn (Nat.le_refl e)).2 c iv.ce iv.cp] at hh'
                injection hh' with hh'
                exact hh'.symm
        · rw [h1] at hrun; cases hrun
  · have pg1 : g1.pc := by rw [hskip, setD_g] at pst; exact pst
    have hw := iv.guardOff tr rd (Nat.le_of_lt hie) ho pg1 hoff
    have hstep := step_op_skip (P := P) (b := b) (a := a) (k := k) (cs := cs) (w := w) (ops := ops) (i := i) (rest := rest) (by simp [ho', hw])
    rw [ho'] at hstep
    have hv1 : st1.env = (setD o.dst .und (s i) (s i).g).env := by rw [hskip]; cases o.dst <;> rfl
    have hsm : Same (s i) (s (i + 1)) := by
      have := setD_same (d := o.dst) (v := .und) (g1 := g1) hp
      rw [← hskip] at this
      exact this.trans hst
    by_cases hm : i ∈ hi
    · obtain ⟨rfl, hall⟩ := hardNow hm
      obtain ⟨hpos, hD, hci⟩ := iv.reach tr rd hm (Nat.le_of_lt hie) hall
      have hsr : SR0 P (Early E T ops.toList s La i) ρ (s (i + 1)) a.defers w b.kind cs := SR0.same (st := s i) hpos.sr hsm
      have hgr : GR P ρ (Dm (Early E T ops.toList s La i) (s i).g.nx) (s i).g.h.get w := hpos.sr.gr
      have he : Eff P (Early E T ops.toList s La i) ρ (s i).g w ρ (s (i + 1)).g w := (Eff.refl hgr).sameR hsm.h hsm.nx
      refine ⟨i + 1, none, ρ, a.put o.dst undef, w, cs, iv.hardly hc.mo tr rd hm hie hall ho (g1 := (s i).g) (.refl _) (henv .und hv1) rfl .und he ?_ (by rw [hsm.pm]) (.refl _ _), .one hstep⟩
      rw [put_defers]; exact hsr
    · have hns : ¬ (i ∈ whoIs Cls.isSoft T ops.toList ∧ (s i).g.nx < (s (i + 1)).g.nx) := fun ⟨_, h1⟩ => by rw [hsm.nx] at h1; omega
      exact ⟨c, d, ρ, a.put o.dst undef, w, cs, iv.quietly tr rd hie hm hns ho (henv .und hv1) .und, .one hstep⟩
end
end Go.Proofs.YtkclgbccnbiojaaGreatDoor.SX

namespace Go.Proofs.YtkclgbccnbiojaaGreatDoor.SX
section
variable {P : Program} {T : Tab} {E : Nat → Prop} {ρ ρ' ρ0 : Rn} {call : CallT}
theorem opRun_pan {op : Op} {d : Option Nat} {st st1 : St} {v : AV} (h : opRun op T call d st = some (some v, st1)) : st1.env = st.env ∧ st1.sn = st.sn := by
  have vv : ∀ {r : R AV}, oV d st r = some (some v, st1) → st1.env = st.env ∧ st1.sn = st.sn := by
    intro r hr
    obtain ⟨v, g, _, h2⟩ := oV_some hr
    obtain ⟨h3, _⟩ := Prod.mk.inj h2
    cases h3
  have u : ∀ {r : R Unit}, oU d st r = some (some v, st1) → st1.env = st.env ∧ st1.sn = st.sn := by
    intro r hr
    obtain ⟨g, _, h2⟩ := oU_some hr
    obtain ⟨h3, _⟩ := Prod.mk.inj h2
    cases h3
  cases op <;> simp only [opRun, fV, fU] at h <;> first | exact vv h | exact u h | (cases h; done) | skip
  case slice t x lo hi mx =>
    cases mx with
    | none => exact vv h
    | some m => cases h
  case call c =>
    obtain ⟨callee, args, ats⟩ := c
    cases callee with
    | invoke r m => cases h
    | value f =>
      have h1 : oCallV call d (ev st.env f) (args.toList.map (ev st.env)) st = some (some v, st1) := h
      unfold oCallV at h1
      split at h1
      · unfold oCallR at h1
        split at h1
        · injection h1 with h1
          obtain ⟨h2, _⟩ := Prod.mk.inj h1
          cases h2
        · injection h1 with h1
          obtain ⟨_, rfl⟩ := Prod.mk.inj h1
          exact ⟨rfl, rfl⟩
        · cases h1
      · cases h1
    | builtin b =>
      cases hb : isRecover b with
      | true =>
        obtain rfl := isRecover_eq hb
        have h1 : oRecover d st = some (some v, st1) := h
        unfold oRecover at h1
        split at h1
        · injection h1 with h1
          obtain ⟨h2, _⟩ := Prod.mk.inj h1
          cases h2
        · injection h1 with h1
          obtain ⟨h2, _⟩ := Prod.mk.inj h1
          cases h2
        · injection h1 with h1
          obtain ⟨h2, _⟩ := Prod.mk.inj h1
          cases h2
        · cases h1
      | false =>
        have h0 : oCall ⟨.builtin b, args, ats⟩ T call d st = oV d st (oBuiltin T st.env b args.toList ats.toList st.g) := by simp only [oCall, hb]
        rw [h0] at h
        exact vv h
  case defer c =>
    obtain ⟨callee, args, ats⟩ := c
    cases callee with
    | invoke r m => cases h
    | builtin b => cases h
    | value f =>
      have h1 : deferOp d (ev st.env f) (args.toList.map (ev st.env)) st = some (some v, st1) := h
      unfold deferOp at h1
      split at h1
      · injection h1 with h1
        obtain ⟨h2, _⟩ := Prod.mk.inj h1
        cases h2
      · cases h1
  case panic x =>
    have h1 : panicOp (ev st.env x) st = some (some v, st1) := h
    unfold panicOp at h1
    split at h1
    · injection h1 with h1
      obtain ⟨_, rfl⟩ := Prod.mk.inj h1
      exact ⟨rfl, rfl⟩
    · cases h1
theorem forget_none {t : Nat} : ∀ (L : List Oper) (env : Tr AV), (∀ o ∈ L, ∀ d, o.dst = some d → d < 16000000) → (∀ o ∈ L, o.dst ≠ some t) → evT (forget L env) t = evT env t := by
  intro L
  induction L with
  | nil => intro env _ _; rfl
  | cons o r ih =>
    intro env hs h
    have e : forget (o :: r) env = forget r (match o.dst with | some d => env.put d (some .bad) | none => env) := rfl
    rw [e, ih _ (fun o ho => hs o (List.mem_cons_of_mem _ ho)) (fun o ho => h o (List.mem_cons_of_mem _ ho))]
    cases hd : o.dst with
    | none => rfl
    | some d =>
      have := h o (List.mem_cons_self ..)
      rw [hd] at this
      show evT (env.put d (some .bad)) t = _
      rw [evT_eq, get_put _ _ _ _ (hs o (List.mem_cons_self ..) d hd), if_neg (fun e => this (by rw [e])), ← evT_eq]
theorem forget_some {t : Nat} : ∀ (L : List Oper) (env : Tr AV), (∀ o ∈ L, ∀ d, o.dst = some d → d < 16000000) → (∃ o ∈ L, o.dst = some t) → evT (forget L env) t = .bad := by
  intro L
  induction L with
  | nil => intro env _ h; obtain ⟨o, ho, _⟩ := h; cases ho
  | cons o r ih =>
    intro env hs h
    have e : forget (o :: r) env = forget r (match o.dst with | some d => env.put d (some .bad) | none => env) := rfl
    rw [e]
    by_cases hr : ∃ o ∈ r, o.dst = some t
    · exact ih _ (fun o ho => hs o (List.mem_cons_of_mem _ ho)) hr
    · rw [forget_none r _ (fun o ho => hs o (List.mem_cons_of_mem _ ho)) (fun o ho hd => hr ⟨o, ho, hd⟩)]
      obtain ⟨o', ho', hd⟩ := h
      rcases List.mem_cons.1 ho' with rfl | ho'
      · rw [hd]
        show evT (env.put t (some .bad)) t = _
        rw [evT_eq, get_put _ _ _ _ (hs _ (List.mem_cons_self ..) t hd), if_pos rfl]
      · exact absurd ⟨o', ho', hd⟩ hr
theorem opsDraw_mo (hc : CallMo call) {ops : List Oper} : ∀ l, MoF (opsDraw ops l T call) := by
  intro l
  induction l with
  | nil => exact fun st => .some (.refl _)
  | cons p r ih =>
    intro st v st' h
    have h1 : onPan p.2.2 (fun st => opsDraw ops r T call (snapI p.2.1 st)) (oneOp ops p.1 T call st) = some (v, st') := h
    have mo := opOne_mo (T := T) hc (ops := ops) (o := p.1) (ih := fun _ _ st => some (none, st)) (fun st => .some (.refl _)) st
    unfold onPan at h1
    split at h1
    · rename_i st1 h2
      have h3 := ih (snapI p.2.1 st1) v st' h1
      rw [(snapI_eq _ _).2.1] at h3
      exact (mo none st1 h2).trans h3
    · rename_i v1 st1 h2
      split at h1
      · injection h1 with h1
        obtain ⟨_, rfl⟩ := Prod.mk.inj h1
        exact mo _ _ h2
      · cases h1
    · cases h1
theorem stAgain_pc {env : Tr AV} {op : Op} {g g' : G} {bb : Nat} (h : stAgain T env op g = some (bb, g')) (p : g'.pc) : g.pc := by
  obtain ⟨_, _, _, _, _, _, hst⟩ := stAgain_some h
  obtain ⟨_, _, _, _, _, h3, _⟩ := oStore_put hst
  exact h3 p
structure TwinAt (T : Tab) (L : List Oper) (env : Tr AV) (hs hs' : List (Mem)) (g g' : G) (x y : Nat) (ox oy : Oper) (hA hE : Mem) (gx gy g1 g2 : G) (bx by' : Nat) : Prop where
  atx : L[x]? = some ox
  aty : L[y]? = some oy
  mA : hs[hs.length - 3]? = some hA
  mE : hs[hs.length - 1]? = some hE
  ry : stAgain T env oy.op { g with h := hA } = some (by', gx)
  rx : stAgain T env ox.op gx = some (bx, gy)
  sy : sameObj (gy.h.get by') (hE.get by') gy = some ((), g1)
  sx : sameObj (gy.h.get bx) (hE.get bx) g1 = some ((), g2)
  res : hs' = hs ++ [gx.h]
  pc : g'.pc → g2.pc
theorem twinRun_some {L : List Oper} {tw : Option (Nat × Nat)} {env : Tr AV} {hs hs' : List (Mem)} {g g' : G} (h : twinRun T L tw env hs g = some (hs', g')) : Pc g g' ∧ ((tw = none ∧ hs' = hs) ∨ ∃ x y ox oy hA hE gx gy g1 g2 bx by', tw = some (x, y) ∧ TwinAt T L env hs hs' g g' x y ox oy hA hE gx gy g1 g2 bx by') := by
  unfold twinRun at h
  split at h
  · injection h with h
    obtain ⟨rfl, rfl⟩ := Prod.mk.inj h
    exact ⟨.refl _, .inl ⟨rfl, rfl⟩⟩
  · rename_i x y
    unfold opAt at h
    split at h
    · rename_i ox hox
      split at h
      · rename_i oy hoy
        unfold memAt at h
        split at h
        · rename_i hA hmA
          split at h
          · rename_i hE hmE
            have h : (match twinAt T env ox.op oy.op hA hE g with | some (h, g) => some (hs ++ [h], g) | none => none) = some (hs', g') := h
            split at h
            · rename_i hx g2' htw
              injection h with h
              obtain ⟨rfl, rfl⟩ := Prod.mk.inj h
              unfold twinAt at htw
              split at htw
              · rename_i by' gx h1
                split at htw
                · rename_i bx gy h2
                  split at htw
                  · rename_i u g1 h3
                    split at htw
                    · rename_i u2 g2 h4
                      injection htw with htw
                      obtain ⟨rfl, rfl⟩ := Prod.mk.inj htw
                      refine ⟨⟨rfl, rfl, fun p => ?_⟩, .inr ⟨x, y, ox, oy, hA, hE, gx, gy, g1, g2, bx, by', rfl, hox, hoy, hmA, hmE, h1, h2, h3, h4, rfl, id⟩⟩
                      exact stAgain_pc (g := { g with h := hA }) h1 (stAgain_pc h2 ((sameObj_pc h3).pc ((sameObj_pc h4).pc p)))
                    · cases htw
                  · cases htw
                · cases htw
              · cases htw
            · cases h
          · cases h
        · cases h
      · cases h
    · cases h
theorem runDraw_some {L : List Oper} {st : St} {ex : Ex} {st' : St} (h : runDraw T call L (drawInfo T L) st = some (ex, st')) : (drawInfo T L).ok = true ∧
    ∃ v st1, opsDraw L (L.zip (drawInfo T L).flags) T call { st with sn := [st.g.h] } = some (v, st1) ∧
      ((v = none ∧ ∃ hs gT gW, twinRun T L (drawInfo T L).twin st1.env st1.sn.reverse st1.g = some (hs, gT) ∧ winAll T L st1.env hs (drawInfo T L).wins gT = some ((), gW) ∧ ex = .normal ∧ st' = { st1 with g := gW, sn := [] }) ∨
       (∃ x gW, v = some x ∧ winAll T L st1.env st1.sn.reverse ((drawInfo T L).wins.filter fun w => w.2.blt st1.sn.length) st1.g = some ((), gW) ∧ ex = .pan x ∧ st' = { st1 with env := forget L st.env, g := gW, sn := [] })) := by
  unfold runDraw at h
  split at h
  · rename_i hok
    refine ⟨hok, ?_⟩
    unfold drawEnd at h
    split at h
    · rename_i st1 h1
      unfold drawFin at h
      split at h
      · rename_i hs gT hT
        split at h
        · rename_i u gW h2
          injection h with h
          obtain ⟨rfl, rfl⟩ := Prod.mk.inj h
          exact ⟨none, st1, h1, .inl ⟨rfl, hs, gT, gW, hT, h2, rfl, rfl⟩⟩
        · cases h
      · cases h
    · rename_i v st1 h1
      unfold drawPan at h
      split at h
      · rename_i u gW h2
        injection h with h
        obtain ⟨rfl, rfl⟩ := Prod.mk.inj h
        exact ⟨some v, st1, h1, .inr ⟨v, gW, rfl, h2, rfl, rfl⟩⟩
      · cases h
    · cases h
  · cases h
theorem draw_mo (hc : CallMo call) (L : List Oper) (st : St) : MoX st.g (runDraw T call L (drawInfo T L) st) := by
  intro ex st' h
  obtain ⟨_, v, st1, h1, h3⟩ := runDraw_some h
  have := opsDraw_mo hc _ _ _ _ h1
  rcases h3 with ⟨_, hs, gT, gW, hT, h2, _, rfl⟩ | ⟨_, gW, _, h2, _, rfl⟩
  · exact this.pcs ((twinRun_some hT).1.trans (winAll_some _ _ _ h2).1)
  · exact this.pcs (winAll_some _ _ _ h2).1
theorem count_set (p : Nat → Bool) (i : Nat) : ∀ l : List Nat, l.Nodup → i ∈ l → p i = true → l.countP (fun j => p j && !(j == i)) + 1 = l.countP p := by
  intro l
  induction l with
  | nil => intro _ h; cases h
  | cons x r ih =>
    intro hn hm hp
    obtain ⟨h1, h2⟩ := List.nodup_cons.1 hn
    by_cases hx : x = i
    · subst hx
      have : r.countP (fun j => p j && !(j == x)) = r.countP p := by
        refine List.countP_congr fun j hj => ?_
        have hne : j ≠ x := fun e => h1 (by rw [← e]; exact hj)
        simp [hne]
      rw [List.countP_cons, List.countP_cons, this, hp]
      simp
    · have hm' : i ∈ r := by
        rcases List.mem_cons.1 hm with rfl | h
        · exact absurd rfl hx
        · exact h
      have := ih h2 hm' hp
      rw [List.countP_cons, List.countP_cons]
      have hb : (x == i) = false := by simpa using hx
      rw [hb]
      simp only [Bool.not_false, Bool.and_true]
      omega
end
end Go.Proofs.YtkclgbccnbiojaaGreatDoor.SX

namespace Go.Proofs.YtkclgbccnbiojaaGreatDoor.SX
section
variable {P : Program} {T : Tab} {E : Nat → Prop} {ρ ρ' ρ0 : Rn} {call : CallT}
variable {ops : Array Oper} {hi : List Nat} {tw : Option (Nat × Nat)} {hX : Option (Mem)} {N : Nat} {st0 : St} {s : Nat → St} {e : Nat} {b : Frame} {w w' w0 : World} {cs cs' cs0 : List Frame} {a a' : Act}
def left (ops : Array Oper) (La : Array Bool) : Nat := (List.range ops.size).countP (fun i => !La.getD i false)
theorem left_set {La : Array Bool} {i : Nat} (hsz : La.size = ops.size) (hi : i < ops.size) (hn : La.getD i false = false) : left ops (La.setIfInBounds i true) + 1 = left ops La := by
  have := count_set (fun j => !La.getD j false) i (List.range ops.size) List.nodup_range (List.mem_range.2 hi) (by simp [hn])
  unfold left
  rw [← this]
  congr 1
  refine List.countP_congr fun j hj => ?_
  rw [getD_set (by omega)]
  by_cases h : j = i
  · subst h; simp
  · have : (j == i) = false := by simpa using h
    simp [h, this]
/-- where nothing is ready all is done -/
theorem all_done (tr : Tra T call ops.toList hi tw N st0 s e) {La : Array Bool} (hsz : La.size = ops.size) (h : Region.ready .any ops La = []) : ∀ i, i < ops.size → La.getD i false = true := by
  intro i
  induction i using Nat.strongRecOn with
  | _ i ih =>
    intro hi
    cases hl : La.getD i false with
    | true => rfl
    | false =>
      exfalso
      have hx : La[i]? = some (La[i]'(by omega)) := Array.getElem?_eq_getElem _
      have ho : ops[i]? = some ops[i] := Array.getElem?_eq_getElem hi
      have ho' : ops.toList[i]? = some ops[i] := by simp
      have : i ∈ Region.ready .any ops La := by
        unfold Region.ready
        rw [List.mem_filter, List.mem_range, Bool.and_eq_true]
        refine ⟨hi, ?_, ?_⟩
        · simp only [Array.getD_eq_getD_getElem?, hx, Option.getD_some] at hl ⊢
          simp [hl]
        · rw [ho]
          simp only [Option.map_some, Option.getD_some]
          rw [Array.all_eq_true_iff_forall_mem]
          intro ed hed
          cases hb : Region.binds .any ed with
          | false => rfl
          | true =>
            have hlt := (tr.okAt ho').1 ed (Array.mem_def.1 hed) hb
            simp only [Bool.not_true, Bool.false_or]
            exact ih ed.on hlt (by omega)
      rw [h] at this
      cases this
theorem go_some {fuel t i : Nat} {La : Array Bool} (h : (Region.ready .any ops La)[t % (Region.ready .any ops La).length]? = some i) : Region.linearise.go .any ops (fuel + 1) t La [] = i :: Region.linearise.go .any ops fuel (t / (Region.ready .any ops La).length) (La.setIfInBounds i true) [] := by
  simp only [Region.linearise.go]
  change (match (Region.ready .any ops La)[t % (Region.ready .any ops La).length]? with
    | some i => Region.linearise.go .any ops fuel (t / (Region.ready .any ops La).length) (La.setIfInBounds i true) [i]
    | none => [].reverse) = _
  rw [h]
  simp only
  rw [linearise_go_acc, List.reverse_singleton, List.singleton_append]
theorem go_none {fuel t : Nat} {La : Array Bool} (h : (Region.ready .any ops La)[t % (Region.ready .any ops La).length]? = none) : Region.linearise.go .any ops (fuel + 1) t La [] = [] ∧ Region.ready .any ops La = [] := by
  refine ⟨?_, ?_⟩
  · simp only [Region.linearise.go]
    change (match (Region.ready .any ops La)[t % (Region.ready .any ops La).length]? with
      | some i => Region.linearise.go .any ops fuel (t / (Region.ready .any ops La).length) (La.setIfInBounds i true) [i]
      | none => [].reverse) = _
    rw [h]; rfl
  · cases hr : Region.ready .any ops La with
    | nil => rfl
    | cons x xs =>
      rw [hr] at h
      have hlt : t % (x :: xs).length < (x :: xs).length := Nat.mod_lt _ (by simp)
      rw [List.getElem?_eq_getElem hlt] at h
      cases h
/-- whatever the order: all is done, or the operation at e is come to -/
theorem runs (hT : TabOk P T) (hc : CallOk P call) (tr : Tra T call ops.toList hi tw N st0 s e) (pE : (s e).g.pc) (nE : ∀ b, E b → (s e).g.nx ≤ b) {hs : List (Mem)} (ms : Mems T ops.toList hi tw hX s e hs)
    (hpan : e < ops.size → ∀ k, e < k → k < ops.size → bitAt ((ancs ops.toList).getD k 0) e = true) (k : List Item) : ∀ (fuel t : Nat) (La : Array Bool) (c : Nat) (d : Option (Mem)) (ρ : Rn) (a : Act) (w : World) (cs : List Frame), left ops La ≤ fuel → Inv P T E ops hi tw hX N st0 s e b.kind ρ0 w0 cs0 La c d ρ a w cs →
    ∃ La' c' d' ρ' a' w' cs' l, Inv P T E ops hi tw hX N st0 s e b.kind ρ0 w0 cs0 La' c' d' ρ' a' w' cs' ∧ Steps P (lone (b.at a (.inRegion ops (Region.linearise.go .any ops fuel t La []) :: k)) cs w) (lone (b.at a' (.inRegion ops l :: k)) cs' w') ∧
      ((l = [] ∧ ∀ i, i < ops.size → La'.getD i false = true) ∨ (e < ops.size ∧ Ready ops La' e ∧ ∃ l', l = e :: l')) := by
  intro fuel
  induction fuel with
  | zero =>
    intro t La c d ρ a w cs hl iv
    refine ⟨La, c, d, ρ, a, w, cs, [], iv, Steps.refl P _, .inl ⟨rfl, fun i hi => ?_⟩⟩
    have h0 : left ops La = 0 := by omega
    unfold left at h0
    rw [List.countP_eq_zero] at h0
    have := h0 i (List.mem_range.2 hi)
    simpa using this
  | succ fuel ih =>
    intro t La c d ρ a w cs hl iv
    cases hi2 : (Region.ready .any ops La)[t % (Region.ready .any ops La).length]? with
    | none =>
      obtain ⟨h1, h2⟩ := go_none (fuel := fuel) hi2
      rw [h1]
      exact ⟨La, c, d, ρ, a, w, cs, [], iv, Steps.refl P _, .inl ⟨rfl, all_done tr iv.sz h2⟩⟩
    | some i =>
      rw [go_some hi2]
      have rd := ready_of iv.sz iv.cl (List.mem_of_getElem? hi2)
      rcases Nat.lt_trichotomy i e with h | h | h
      · obtain ⟨c', d', ρ', a', w', cs', iv', hst⟩ := iv.step hT hc tr pE nE ms rd h k (Region.linearise.go .any ops fuel (t / (Region.ready .any ops La).length) (La.setIfInBounds i true) [])
        have hls := left_set (ops := ops) iv.sz rd.lt rd.no
        obtain ⟨La2, c2, d2, ρ2, a2, w2, cs2, l2, iv2, hst2, hr2⟩ := ih (t / (Region.ready .any ops La).length) (La.setIfInBounds i true) c' d' ρ' a' w' cs' (by omega) iv'
        exact ⟨La2, c2, d2, ρ2, a2, w2, cs2, l2, iv2, Steps.trans hst hst2, hr2⟩
      · subst h
        exact ⟨La, c, d, ρ, a, w, cs, _, iv, Steps.refl P _, .inr ⟨rd.lt, rd, _, rfl⟩⟩
      · exfalso
        have hlt := rd.lt
        have h1 := rd.anc e (hpan (by omega) i h hlt)
        exact absurd (iv.lt e h1) (Nat.lt_irrefl _)
theorem early_none {La : Array Bool} {c : Nat} (h : ∀ i, ¬ Ea T ops.toList s La c i) : Early E T ops.toList s La c = E := by
  funext q
  apply propext
  exact ⟨fun hh => hh.resolve_right (fun ⟨i, h1, _⟩ => h i h1), .inl⟩
theorem before_all {c : Nat} (h : ∀ j ∈ hi, j < c) : before hi c = hi.length := by
  unfold before
  rw [List.filter_eq_self.2 (fun j hj => blt_iff.2 (h j hj))]
/-- the whole effect -/
theorem Pos.whole {kd : CallKind} {La : Array Bool} {c : Nat} {M : Mem} {ds : List Deferred} (p : Pos P T E ops st0 s ρ0 w0 cs0 La c M ρ ds w kd cs) (h : ∀ i, ¬ Ea T ops.toList s La c i) (hM : M = (s c).g.h) : SR0 P E ρ (s c) ds w kd cs ∧ Eff P E ρ0 st0.g w0 ρ (s c).g w := by
  subst hM
  have hsr : SR0 P (Early E T ops.toList s La c) ρ { s c with g := { (s c).g with h := (s c).g.h } } ds w kd cs := p.sr
  rw [early_none h] at hsr
  have hsr' : SR0 P E ρ (s c) ds w kd cs := ⟨hsr.gl, hsr.df, hsr.pm, hsr.gr⟩
  exact ⟨hsr', p.nx0, p.ext, hsr'.gr, p.fr⟩
theorem draw_ok (hT : TabOk P T) (hc : CallOk P call) (hm : P.follows .mixedOrders = true) : DrawOk P T call := by
  refine ⟨fun L st => draw_mo hc.mo L st, ?_⟩
  intro E N ops id ρ st a w b cs k ex st' h p hE hs hd
  obtain ⟨hok, v, st1, h1, h3⟩ := runDraw_some h
  obtain ⟨s, e, t1, t2, t3, t4⟩ := trace _ _ _ h1
  generalize hhi : whoIs Cls.isHard T ops.toList = hi at *
  generalize htw : twinFor (chainOk (ancs ops.toList) hi) (twinOf (ancs ops.toList) hi (whoIs Cls.isSoft T ops.toList) ops.toList) = tw at *
  have hfl : (drawInfo T ops.toList).flags = (ups ops.toList.length).map fun i => (hi.contains i, (ups ops.toList.length).all fun k => !(i.blt k) || bitAt ((ancs ops.toList).getD k 0) i) := by rw [← hhi]; rfl
  have hwn : (drawInfo T ops.toList).wins = winsAll T ops.toList hi tw := by rw [← htw, ← hhi]; rfl
  have htn : (drawInfo T ops.toList).twin = tw := by rw [← htw, ← hhi]; rfl
  have hok' : (okTmps T (ancs ops.toList) ops.toList && ((chainOk (ancs ops.toList) hi || isSm tw) && softOk (ancs ops.toList) hi (whoIs Cls.isSoft T ops.toList))) = true := by rw [← htw, ← hhi]; exact hok
  simp only [Bool.and_eq_true] at hok'
  obtain ⟨hk1, hk2, hk3⟩ := hok'
  have hzip : ∀ i q, (ops.toList.zip (drawInfo T ops.toList).flags)[i]? = some q → ops.toList[i]? = some q.1 ∧ q.2 = (hi.contains i, (ups ops.toList.length).all fun k => !(i.blt k) || bitAt ((ancs ops.toList).getD k 0) i) := by
    intro i q hq
    rw [List.getElem?_zip_eq_some] at hq
    obtain ⟨q1, q2⟩ := hq
    refine ⟨q1, ?_⟩
    rw [hfl, List.getElem?_map] at q2
    unfold ups at q2
    rw [List.getElem?_range (lt_of_get q1)] at q2
    simp only [Option.map_some, Option.some.injEq] at q2
    rw [← q2]; rfl
  have hlen : (ops.toList.zip (drawInfo T ops.toList).flags).length = ops.size := by rw [List.length_zip, hfl]; simp [ups]
  have hlt : hi.Pairwise (· < ·) := by rw [← hhi]; exact whoIs_lt
  have tr : Tra T call ops.toList hi tw N st s e := by
    refine ⟨t1, ?_, fun i hi' => ?_, hs.env.small, hd, hhi.symm, hk1, ?_, soft_of hk3, fun x y hxy => ?_⟩
    · rw [hlen] at t2; simpa using t2
    · obtain ⟨q, st2, q1, q2, q3⟩ := t3 i hi'
      obtain ⟨q4, q5⟩ := hzip i q q1
      exact ⟨q.1, st2, q4, q2, by rw [q3, q5]⟩
    · subst htw
      exact pairs_of hlt hk2
    · subst htw
      exact twin_some hlt hxy
  have hs0 : Same st (s 0) := by rw [tr.s0]; exact ⟨rfl, rfl, rfl, rfl⟩
  have hin : ∀ j ∈ hi, j < ops.size := fun j hj => by
    rw [← hhi] at hj
    obtain ⟨o, ho, _⟩ := mem_whoIs.1 hj
    have := lt_of_get ho
    simpa using this
  have hno : ∀ i, (Array.replicate ops.size false).getD i false = true → False := by
    intro i hi'
    simp only [Array.getD_eq_getD_getElem?, Array.getElem?_replicate] at hi'
    split at hi' <;> cases hi'
  have hEa0 : ∀ i, ¬ Ea T ops.toList s (Array.replicate ops.size false) 0 i := fun i h => hno i h.2.1
  have iv0 : ∀ hX, Inv P T E ops hi tw hX N st s e b.kind ρ w cs (Array.replicate ops.size false) 0 none ρ a { w with drawn := w.drawn + 1 } cs := by
    intro hX
    have hD : Dx E T ops.toList s (Array.replicate ops.size false) 0 = Dm E st.g.nx := by unfold Dx; rw [early_none hEa0, hs0.nx]
    refine ⟨by simp, fun i j h => (hno i h).elim, Nat.zero_le _, .inl rfl, fun j hj => ⟨fun h => (hno j h).elim, ?_⟩, fun h hh => (by cases hh), fun i h => (hno i h).elim, hs.env.size, fun i o t h => (hno i h).elim, fun t _ => by rw [hD]; exact hs.env.get t, ?_⟩
    · rintro (h | ⟨h, _⟩)
      · exact absurd h (Nat.not_lt_zero _)
      · exact absurd rfl h
    · have hfr := ((Eff.refl hs.gr).alike (w2 := { w with drawn := w.drawn + 1 }) ⟨rfl, rfl, rfl, rfl⟩).fr
      refine ⟨?_, fun i hi' => absurd hi' (hEa0 i), fun i j hi' => absurd hi' (hEa0 i), fun q _ => ⟨rfl, rfl⟩, ?_, by rw [hs0.nx]; exact Nat.le_refl _, by rw [hs0.pm], .refl _ _⟩
      · rw [early_none hEa0]
        exact SR0.same (st := st) ⟨hs.gl, hs.df, hs.pm, hs.gr.pc rfl⟩ hs0
      · show Fram ρ st.g.h.get w ρ (s 0).g.h.get _
        rw [hs0.h]; exact hfr
  have hleft : left ops (Array.replicate ops.size false) ≤ ops.size := by
    unfold left
    have := List.countP_le_length (p := fun i => !(Array.replicate ops.size false).getD i false) (l := List.range ops.size)
    simpa using this
  have sched : ∀ t, Region.schedule (P.follows .mixedOrders) ops t = Region.linearise.go .any ops ops.size t (Array.replicate ops.size false) [] := by
    intro t
    simp only [Region.schedule, hm, Bool.true_or, if_true]
    rfl
  have hstep := step_region_draw (P := P) (b := b) (a := a) (k := k) (cs := cs) (w := w) (ops := ops) (id := id)
  rw [sched] at hstep
  have hsmall : ∀ o ∈ ops.toList, ∀ d, o.dst = some d → d < 16000000 := fun o ho d hdd => Nat.lt_trans (hd o ho d hdd) hs.env.small
  rcases t4 with ⟨he, hq⟩ | ⟨q, x, st2, q1, q2, q3, q4⟩
  · -- it goes to its end
    obtain ⟨rfl, rfl⟩ := Prod.mk.inj hq
    rcases h3 with ⟨_, hs', gT, gW, hTw, h2, rfl, rfl⟩ | ⟨x, gW, hx, _⟩
    · obtain ⟨pT, hcase⟩ := twinRun_some hTw
      obtain ⟨pV, hW⟩ := winAll_some _ _ _ h2
      have pW := pT.trans pV
      have pS : (s e).g.pc := pW.pc p
      have nS : ∀ b, E b → (s e).g.nx ≤ b := fun b hb => by have := hE b hb; simp only at this; rw [pW.nx] at this; exact this
      have hen : e = ops.size := by rw [he, hlen]
      have hbe : before hi e = hi.length := before_all (fun j hj => by rw [hen]; exact hin j hj)
      have hsl : (s e).sn.reverse.length = hi.length + 1 := by rw [List.length_reverse, (tr.sn (Nat.le_refl e)).1, hbe]
      have hwin : ∀ r pp, (r, pp) ∈ winsAll T ops.toList hi tw → ∃ g1 g2, winOne T ops.toList (s e).env hs' (r, pp) g1 = some ((), g2) ∧ g2.pc := fun r pp hmm => by
        obtain ⟨g1, g2, g3, g4⟩ := hW (r, pp) (by rw [hwn]; exact hmm)
        exact ⟨g1, g2, g3, g4 p⟩
      have hms : ∃ hX, Mems T ops.toList hi tw hX s e hs' := by
        rcases hcase with ⟨ht, rfl⟩ | ⟨x, y, ox, oy, hA, hE', gx, gy, g1, g2, bx, by', ht, tt⟩
        · rw [htn] at ht
          exact ⟨none, fun q _ => rfl, fun h hh => (by cases hh), fun r pp hmm _ => hwin r pp hmm, fun x y hxy => by rw [ht] at hxy; cases hxy⟩
        · rw [htn] at ht
          have tw' := tr.twin x y ht
          refine ⟨some gx.h, fun q hq => ?_, fun h hh => ?_, fun r pp hmm _ => hwin r pp hmm, fun x' y' hxy hye => ?_⟩
          · rw [tt.res, List.getElem?_append_left (by rw [hsl]; omega)]
          · injection hh with hh
            rw [tt.res, List.getElem?_append_right (by rw [hsl]; omega), hsl, Nat.sub_self, ← hh]; rfl
          · rw [ht] at hxy
            injection hxy with hxy
            obtain ⟨rfl, rfl⟩ := Prod.mk.inj hxy
            have hlen2 := tw'.len
            have hmA : ∀ c, c ≤ e → (c = 0 ∨ ∃ k ∈ hi, c = k + 1) → before hi c = before hi x → hA = (s c).g.h := fun c c1 c2 c3 => by
              have h4 := (tr.sn (Nat.le_refl e)).2 c c1 c2
              have h5 := tt.mA
              rw [hsl, show hi.length + 1 - 3 = before hi c from by omega, h4] at h5
              injection h5 with h5
              exact h5.symm
            have hmE : hE' = (s (y + 1)).g.h := by
              have hby : before hi (y + 1) = hi.length := before_all (fun j hj => by
                by_cases h1 : j = x
                · have := tw'.lt; omega
                · by_cases h2 : j = y
                  · omega
                  · have := (tw'.top j hj h1 h2).1; have := tw'.lt; omega)
              have h4 := (tr.sn (Nat.le_refl e)).2 (y + 1) (by omega) (.inr ⟨y, tw'.my, rfl⟩)
              have h5 := tt.mE
              rw [hsl, show hi.length + 1 - 1 = before hi (y + 1) from by omega, h4] at h5
              injection h5 with h5
              exact h5.symm
            refine ⟨ox, oy, { (s e).g with h := hA }, gx, gy, g1, g2, bx, by', hye, rfl, tt.atx, tt.aty, hmA, tt.ry, tt.rx, ?_, ?_, tt.pc (pV.pc p)⟩
            · rw [← hmE]; exact tt.sy
            · rw [← hmE]; exact tt.sx
      obtain ⟨hX, ms⟩ := hms
      obtain ⟨La', c', d', ρ', a', w', cs', l, iv', hst', hr'⟩ := runs (b := b) hT hc tr pS nS ms (fun h => by omega) k ops.size (w.tape w.drawn (.order b.fn id)) _ 0 none ρ a { w with drawn := w.drawn + 1 } cs hleft (iv0 hX)
      rcases hr' with ⟨rfl, hall⟩ | ⟨h5, _⟩
      · have hdn : d' = none := by
          cases hdd : d' with
          | none => rfl
          | some h =>
            exfalso
            obtain ⟨_, x, y, hxy, _, hnx⟩ := iv'.dd h hdd
            rw [hall x (hin x (tr.twin x y hxy).mx)] at hnx
            cases hnx
        subst hdn
        have hpos : Pos P T E ops st s ρ w cs La' c' (s c').g.h ρ' a'.defers w' b.kind cs' := iv'.pos
        obtain ⟨hpe, hDe⟩ := hpos.to tr e iv'.ce (Nat.le_refl _) (fun kk k1 k2 => ⟨fun hk => by
          rcases (iv'.ef kk hk).1 (hall kk (hin kk hk)) with h6 | ⟨h6, _⟩
          · omega
          · exact h6 rfl, fun hk => hall kk (by omega)⟩)
        have hEe : ∀ i, ¬ Ea T ops.toList s La' e i := fun i h6 => by have := iv'.lt i h6.2.1; have := h6.2.2.1; omega
        obtain ⟨hsr, heff⟩ := hpe.whole hEe rfl
        have hDx : Dx E T ops.toList s La' c' = Dm E (s e).g.nx := by rw [← hDe]; unfold Dx; rw [early_none hEe]
        have henv : EnvR ρ' (Dm E (s e).g.nx) (s e).env a' N := by
          refine ⟨iv'.tsz, hs.env.small, fun t => ?_⟩
          rw [← hDx]
          by_cases hx : ∃ (i : Nat) (o : Oper), La'.getD i false = true ∧ ops.toList[i]? = some o ∧ o.dst = some t
          · obtain ⟨i, o, x1, x2, x3⟩ := hx
            exact iv'.vin i o t x1 x2 x3
          · have x4 := iv'.vout t fun i o x1 x2 x3 => hx ⟨i, o, x1, x2, x3⟩
            have x5 := tr.keep (t := t) (Nat.zero_le e) (Nat.le_refl _) (fun i o _ hi' ho hdt => hx ⟨i, o, hall i (by omega), ho, hdt⟩)
            rw [x5, tr.s0]
            exact x4
        refine ⟨ρ', a', w', cs', .normal, ⟨⟨?_, ?_, ?_, ?_, ?_⟩, ?_, ?_, hpe.keep⟩, trivial, .head hstep (Steps.trans hst' (.one step_region_end))⟩
        · show EnvR ρ' (Dm E gW.nx) (s e).env a' N
          rw [pW.nx]; exact henv
        · show Gl ρ' gW.nx
          rw [pW.nx]; exact hsr.gl
        · show DfR ρ' (Dm E gW.nx) (s e).df _
          rw [pW.nx]; exact hsr.df
        · show PMR ρ' (Dm E gW.nx) (s e).pm _ _
          rw [pW.nx]; exact hsr.pm
        · show GR P ρ' (Dm E gW.nx) gW.h.get _
          rw [pW.nx, pW.h]; exact hsr.gr
        · exact heff.pcR pW
        · exact hpe.no
      · omega
    · cases hx
  · -- an operation panics
    obtain ⟨q5, q6⟩ := hzip e q q1
    obtain ⟨rfl, rfl⟩ := Prod.mk.inj q4
    rcases h3 with ⟨hx, _⟩ | ⟨x', gW, hx, h2, rfl, rfl⟩
    · cases hx
    · injection hx with hx
      subst hx
      obtain ⟨pW, hW⟩ := winAll_some _ _ _ h2
      have hel : e < ops.size := by have := lt_of_get q5; simpa using this
      obtain ⟨g1, hp1, hrun⟩ := one_some q3
      rcases hrun with ⟨hrun, hon⟩ | ⟨hbad, _⟩
      · obtain ⟨en1, sn1⟩ := opRun_pan hrun
        have hle1 : Le g1 st1.g := opRun_mo (T := T) (st := { s e with g := g1 }) hc.mo _ _ hrun
        have p1 : st1.g.pc := pW.pc p
        have n1 : ∀ b, E b → st1.g.nx ≤ b := fun b hb => by have := hE b hb; simp only at this; rw [pW.nx] at this; exact this
        have pg1 : g1.pc := hle1.pc p1
        have pS : (s e).g.pc := hp1.pc pg1
        have nS : ∀ b, E b → (s e).g.nx ≤ b := fun b hb => by rw [← hp1.nx]; exact Nat.le_trans hle1.nx (n1 b hb)
        have en1' : st1.env = (s e).env := en1
        have sn1' : st1.sn = (s e).sn := sn1
        have hm2 : e ∈ hi := by
          rw [← hhi]
          refine mem_whoIs.2 ⟨q.1, q5, ?_⟩
          cases hx : cls T q.1.op with
          | hard => rfl
          | soft =>
            exfalso
            revert hrun
            generalize q.1.dst = dd
            generalize q.1.op = op at hx
            intro hrun
            have vv : ∀ {r : R AV}, oV dd { s e with g := g1 } r = some (some x, st1) → False := by
              intro r hr
              obtain ⟨v, g, _, h2⟩ := oV_some hr
              obtain ⟨h3, _⟩ := Prod.mk.inj h2
              cases h3
            cases op <;> first | (cases hx; done) | exact vv hrun | skip
            case call c =>
              obtain ⟨callee, args, ats⟩ := c
              cases callee with
              | value f => simp [cls, clsCall] at hx
              | invoke r m => simp [cls, clsCall] at hx
              | builtin b => cases b <;> simp [cls, clsCall, clsBuiltin, clsLen] at hx
          | pure =>
            exfalso
            obtain ⟨_, _, h6, _⟩ := quiet (show isEff (cls T q.1.op) = false by rw [hx]; rfl) hrun
            obtain ⟨h7, _⟩ := Prod.mk.inj h6
            cases h7
          | read =>
            exfalso
            obtain ⟨_, _, h6, _⟩ := quiet (show isEff (cls T q.1.op) = false by rw [hx]; rfl) hrun
            obtain ⟨h7, _⟩ := Prod.mk.inj h6
            cases h7
        have hnt : ∀ x y, tw = some (x, y) → e < x := fun x y hxy => by
          have tt := tr.twin x y hxy
          have nst : ∀ z, (∃ o, ops.toList[z]? = some o ∧ o.guard = none ∧ o.dst = none ∧ isStore o.op = true) → e ≠ z := by
            rintro z ⟨o, h1, _, _, h4⟩ rfl
            rw [q5] at h1
            injection h1 with h1
            subst h1
            revert hrun
            generalize q.1.dst = dd
            generalize q.1.op = op at h4
            intro hrun
            cases op <;> first | (cases h4; done) | skip
            case store t p x =>
              obtain ⟨g', _, h6⟩ := oU_some (show oU dd { s e with g := g1 } (oStore T t (ev (s e).env p) (ev (s e).env x) g1) = some (some _, st1) from hrun)
              obtain ⟨h7, _⟩ := Prod.mk.inj h6
              cases h7
          exact (tt.top e hm2 (nst x tt.sx) (nst y tt.sy)).1
        have hflag : ∀ kk, e < kk → kk < ops.size → bitAt ((ancs ops.toList).getD kk 0) e = true := by
          intro kk h6 h7
          have h8 := q2
          rw [q6] at h8
          have h9 := List.all_eq_true.1 h8 kk (List.mem_range.2 (by simpa using h7))
          rw [blt_iff.2 h6] at h9
          simpa using h9
        have ms : Mems T ops.toList hi tw none s e (s e).sn.reverse := by
          refine ⟨fun q _ => rfl, fun h hh => (by cases hh), fun r pp hmm hle => ?_, fun x y hxy hye => ?_⟩
          · rcases hle with hle | ⟨_, hle⟩
            · obtain ⟨g2, g3, g4, g5⟩ := hW (r, pp) (by
                rw [List.mem_filter, hwn]
                refine ⟨hmm, ?_⟩
                rw [blt_iff, sn1', (tr.sn (Nat.le_refl e)).1]
                show pp < _
                omega)
              rw [en1', sn1'] at g4
              exact ⟨g2, g3, g4, g5 p⟩
            · exact absurd rfl hle
          · have := hnt x y hxy
            have := (tr.twin x y hxy).lt
            omega
        obtain ⟨La', c', d', ρ', a', w', cs', l, iv', hst', hr'⟩ := runs (b := b) hT hc tr pS nS ms (fun _ => hflag) k ops.size (w.tape w.drawn (.order b.fn id)) _ 0 none ρ a { w with drawn := w.drawn + 1 } cs hleft (iv0 none)
        rcases hr' with ⟨_, hall⟩ | ⟨_, rd, l', rfl⟩
        · exact absurd (iv'.lt e (hall e hel)) (Nat.lt_irrefl _)
        · have hdn : d' = none := by
            cases hdd : d' with
            | none => rfl
            | some h =>
              exfalso
              have := (iv'.dd h hdd).1
              cases this
          subst hdn
          have hall : ∀ j ∈ hi, j < e → La'.getD j false = true := by
            rcases iv'.atHard tr rd hm2 with h6 | ⟨x, h6, _⟩
            · exact h6
            · exfalso
              have := hnt x e h6
              have := (tr.twin x e h6).lt
              omega
          obtain ⟨hpe, hDe, hce⟩ := iv'.reach tr rd hm2 (Nat.le_refl _) hall
          have hEe : ∀ i, ¬ Ea T ops.toList s La' e i := fun i h6 => by have := iv'.lt i h6.2.1; have := h6.2.2.1; omega
          obtain ⟨hsr, heff0⟩ := hpe.whole hEe rfl
          have hDx : Dx E T ops.toList s La' c' = Dm E (s e).g.nx := by rw [← hDe]; unfold Dx; rw [early_none hEe]
          have hsame1 : Same (s e) { s e with g := g1 } := ⟨hp1.h, hp1.nx, rfl, rfl⟩
          have hops := iv'.operands tr rd (Nat.le_refl _) q5
          have hw2 := iv'.guardOn tr rd (Nat.le_refl _) q5 pg1 hon
          have q5' : ops[e]? = some q.1 := by simpa using q5
          obtain ⟨ρ2, w2, chain, todo, _, f2, f3, f4⟩ := op_okV (k := k) (rest := l') hT hc hrun p1 n1 (fun x hx => by have := hops x hx; rw [hDx, ← hsame1.nx] at this; exact this) (hsr.same hsame1) q5' hw2
          have heff : Eff P E ρ st.g w ρ2 st1.g w2 := heff0.trans (Eff.sameL hsame1.h.symm hsame1.nx.symm f2.eff)
          have huse : ∀ b, Dm E (s e).g.nx b → Dm E gW.nx b ∧ ρ2.b b = ρ'.b b ∧ ρ2.c b = ρ'.c b := by
            intro bb hbb
            rw [pW.nx]
            rw [← hsame1.nx] at hbb
            exact f2.eff.use bb hbb
          refine ⟨ρ2, a', w2, cs', .panic chain, ⟨⟨⟨iv'.tsz, hs.env.small, fun t => ?_⟩, ?_, ?_, ?_, ?_⟩, heff.pcR pW, ?_, hpe.keep⟩, ?_, todo, .head hstep (Steps.trans hst' f4)⟩
          · show VR ρ2 (Dm E gW.nx) (evT (forget ops.toList st.env) t) _
            by_cases hx : ∃ o ∈ ops.toList, o.dst = some t
            · rw [forget_some _ _ hsmall hx]; exact .bad _
            · rw [forget_none _ _ hsmall (fun o ho hdt => hx ⟨o, ho, hdt⟩)]
              have h8 := iv'.vout t fun i o _ ho hdt => hx ⟨o, List.mem_of_getElem? ho, hdt⟩
              rw [hDx] at h8
              exact h8.mono huse
          · show Gl ρ2 gW.nx
            rw [pW.nx]; exact f2.sr.gl
          · show DfR ρ2 (Dm E gW.nx) st1.df _
            rw [pW.nx]; exact f2.sr.df
          · show PMR ρ2 (Dm E gW.nx) st1.pm _ _
            rw [pW.nx]; exact f2.sr.pm
          · show GR P ρ2 (Dm E gW.nx) gW.h.get _
            rw [pW.nx, pW.h]; exact f2.sr.gr
          · show isNo st1.pm = _
            rw [f2.no]; exact hpe.no
          · show ChainR ρ2 (Dm E gW.nx) _ _
            rw [pW.nx]; exact f3
      · obtain ⟨h6, _⟩ := Prod.mk.inj hbad
        cases h6
end
end Go.Proofs.YtkclgbccnbiojaaGreatDoor.SX

namespace Go.Proofs.YtkclgbccnbiojaaGreatDoor.SX
section
variable {P : Program} {T : Tab} {E : Nat → Prop} {ρ : Rn}
/-- the executor tells what the model does -/
theorem sx_ok (hT : TabOk P T) (hm : P.follows .mixedOrders = true) {prim : CallT} (hp : CallOk P prim) (fuel n : Nat) : CallOk P (callN T prim fuel n) := callN_ok hT hp (fun call hc => draw_ok hT hc hm) fuel n
theorem mkTi_get (P : Program) (n : Nat) (hn : n ≤ 16000000) : ∀ t, (mkTi P n).get t = if t < n then tiOf P t else none := by
  unfold mkTi
  induction n with
  | zero => intro t; rw [if_neg (by omega)]; exact get_e t
  | succ n ih =>
    intro t
    rw [List.range_succ, List.foldl_append, List.foldl_cons, List.foldl_nil, get_put _ _ _ _ (by omega)]
    by_cases h : t = n
    · subst h; rw [if_pos rfl, if_pos (by omega)]
    · rw [if_neg h, ih (by omega)]
      by_cases h2 : t < n
      · rw [if_pos h2, if_pos (by omega)]
      · rw [if_neg h2, if_neg (by omega)]
/-- the tables out of a program -/
noncomputable def tabOf (P : Program) (n : Nat) : Tab := { ti := mkTi P n, fs := fun f => P.funcs[f]? }
theorem tabOf_ok {n : Nat} (hn : n ≤ 16000000) (hf : P.funcs.all (fun fn => !(fn.name == "runtime.NumGoroutine")) = true) : TabOk P (tabOf P n) := by
  have get : ∀ t i, (tabOf P n).ti.get t = some i → tiOf P t = some i := by
    intro t i h
    have h1 : (mkTi P n).get t = some i := h
    rw [mkTi_get P n hn] at h1
    split at h1
    · exact h1
    · cases h1
  refine ⟨fun t i info z d h h1 h2 h3 => (tiOf_ok (get t i h)).2 info z d h1 h2 h3, fun t i h => (tiOf_ok (get t i h)).1, fun f fn h => ⟨h, ?_⟩⟩
  have h1 : P.funcs[f]? = some fn := h
  rw [Array.all_eq_true_iff_forall_mem] at hf
  have := hf fn (Array.mem_of_getElem? h1)
  simpa using this
end
end Go.Proofs.YtkclgbccnbiojaaGreatDoor.SX

import Derived.Test.YticfagianocfiaaSx5
import Derived.Deep.LoopGhost
set_option linter.unusedVariables false
set_option linter.unusedSimpArgs false
namespace Go.Proofs.Yticfagianocfiaa.SX
def N0 : Nat → Prop := fun _ => False
/-- a frame's numbers: all unknown but these -/
noncomputable def lookF (l : List (Nat × AV)) (t : Nat) : AV := List.rec (motive := fun _ => AV) .bad (fun p _ ih => Bool.rec (motive := fun _ => AV) ih p.2 (p.1.beq t)) l
noncomputable def mkEnvF (l : List (Nat × AV)) (n : Nat) : Tr AV := Nat.rec (motive := fun _ => Tr AV) .e (fun t ih => ih.put t (some (lookF l t))) n
noncomputable def mkEnv (n : Nat) (l : List (Nat × AV)) : Tr AV := mkEnvF l n
noncomputable def mkH (l : List (Nat × Option AObj)) : Tr AObj := List.rec (motive := fun _ => Tr AObj) .e (fun p _ ih => ih.put p.1 p.2) l
/-- a block's new number: old, new, is it turned to numbers -/
structure Mv where
  o : Nat
  n : Nat
  cv : Bool
noncomputable def mvTo (m : List Mv) (b : Nat) : Option Mv := List.rec (motive := fun _ => Option Mv) none (fun p _ ih => Bool.rec (motive := fun _ => Option Mv) ih (some p) (p.o.beq b)) m
noncomputable def mvOf (m : List Mv) (b : Nat) : Option Mv := List.rec (motive := fun _ => Option Mv) none (fun p _ ih => Bool.rec (motive := fun _ => Option Mv) ih (some p) (p.n.beq b)) m
noncomputable def onMv (m : List Mv) (b : Nat) (f : Mv → AV) : AV := Option.rec (motive := fun _ => AV) .bad f (mvTo m b)
noncomputable def wkV (m : List Mv) (v : AV) : AV := match v with
  | .und => .und
  | .bool s b => .bool s b
  | .int s k n => .int s k n
  | .str s b => .str s b
  | .nilp => .nilp
  | .nils => .nils
  | .nilm => .nilm
  | .nilf => .nilf
  | .nili => .nili
  | .ptr b o => onMv m b fun p => .ptr p.n o
  | .rptr b sz i j => onMv m b fun p => .rptr p.n sz i j
  | .sl s b o n c => onMv m b fun p => .sl (s || p.cv) p.n o n c
  | .mp b => onMv m b fun p => .mp p.n
  | .osl b n => onMv m b fun p => .osl p.n n
  | .optr b sz i j => onMv m b fun p => .optr p.n sz i j
  | _ => .bad
noncomputable def wkO (m : List Mv) (cv : Bool) (o : AObj) : Option AObj := match o with
  | .cells e cs gr => (match cv with
    | true => (match intsOf .u8 cs with
      | some l => some (.nums e .u8 l gr)
      | none => (match gr with
        | true => some (.grows e cs.length 1 fun _ => cs.map (wkV m))
        | false => none))
    | false => some (.cells e (cs.map (wkV m)) gr))
  | .nums e k xs gr => some (.nums e k xs gr)
  | .rows e sz n f => some (.rows e sz n fun i => (f i).map (wkV m))
  | .grows e sz n f => some (.grows e sz n fun i => (f i).map (wkV m))
  | .map _ => none
noncomputable def wkP (m : List Mv) (H : Tr AObj) (p : Mv) : Nat × Option AObj := (p.n, Option.rec (motive := fun _ => Option AObj) none (fun o => wkO m p.cv o) (H.get p.o))
noncomputable def wkS (n : Nat) (ks : List Nat) (m : List Mv) (nx : Nat) (st : St) : St :=
  ⟨mkEnv n (ks.map fun k => (k, wkV m (evT st.env k))), ⟨mkH (m.map (wkP m st.g.h)), nx, st.g.pc, st.g.ch⟩, [], .no, []⟩
noncomputable def noD (l : List (AV × List AV)) : Bool := match l with | [] => true | _ => false
noncomputable def wkX (n : Nat) (ks : List Nat) (m : List Mv) (nx : Nat) (r : X) : X := match r with
  | some (e, st) => (match noD st.df with | true => some (e, wkS n ks m nx st) | false => none)
  | none => none
noncomputable def nodupN (l : List Nat) : Bool := match l with
  | [] => true
  | a :: r => r.all (fun b => !(a.beq b)) && nodupN r
noncomputable def okM (m : List Mv) (nx : Nat) : Bool := m.all (fun p => (1000).ble p.o && (1000).ble p.n && p.n.blt nx) && nodupN (m.map (·.o)) && nodupN (m.map (·.n)) && (1000).ble nx && nx.blt 16000000
theorem lookF_cons (p : Nat × AV) (l : List (Nat × AV)) (t : Nat) : lookF (p :: l) t = if p.1 = t then p.2 else lookF l t := by
  show Bool.rec (motive := fun _ => AV) (lookF l t) p.2 (p.1.beq t) = _
  by_cases h : p.1 = t
  · rw [if_pos h, beq_t h]
  · rw [if_neg h, beq_f h]
theorem mkEnv_get (l : List (Nat × AV)) : ∀ n, n ≤ 16000000 → ∀ t, (mkEnv n l).get t = if t < n then some (lookF l t) else none := by
  intro n
  induction n with
  | zero => intro _ t; rw [if_neg (by omega)]; exact get_e t
  | succ n ih =>
    intro hn t
    show ((mkEnv n l).put n (some (lookF l n))).get t = _
    rw [get_put _ _ _ _ (by omega)]
    by_cases h : t = n
    · subst h; rw [if_pos rfl, if_pos (by omega)]
    · rw [if_neg h, ih (by omega)]
      by_cases h2 : t < n
      · rw [if_pos h2, if_pos (by omega)]
      · rw [if_neg h2, if_neg (by omega)]
theorem mvTo_some {m : List Mv} {b : Nat} {p : Mv} (h : mvTo m b = some p) : p ∈ m ∧ p.o = b := by
  induction m with
  | nil => cases h
  | cons q r ih =>
    have e : mvTo (q :: r) b = Bool.rec (motive := fun _ => Option Mv) (mvTo r b) (some q) (q.o.beq b) := rfl
    rw [e] at h
    cases hb : q.o.beq b with
    | true => rw [hb] at h; injection h with h; subst h; exact ⟨List.mem_cons_self .., beq_iff.1 hb⟩
    | false => rw [hb] at h; obtain ⟨h1, h2⟩ := ih h; exact ⟨List.mem_cons_of_mem _ h1, h2⟩
theorem mvOf_some {m : List Mv} {b : Nat} {p : Mv} (h : mvOf m b = some p) : p ∈ m ∧ p.n = b := by
  induction m with
  | nil => cases h
  | cons q r ih =>
    have e : mvOf (q :: r) b = Bool.rec (motive := fun _ => Option Mv) (mvOf r b) (some q) (q.n.beq b) := rfl
    rw [e] at h
    cases hb : q.n.beq b with
    | true => rw [hb] at h; injection h with h; subst h; exact ⟨List.mem_cons_self .., beq_iff.1 hb⟩
    | false => rw [hb] at h; obtain ⟨h1, h2⟩ := ih h; exact ⟨List.mem_cons_of_mem _ h1, h2⟩
theorem mvOf_mem {m : List Mv} (hn : nodupN (m.map (·.n)) = true) {p : Mv} (h : p ∈ m) : mvOf m p.n = some p := by
  induction m with
  | nil => cases h
  | cons q r ih =>
    have e : ∀ b, mvOf (q :: r) b = Bool.rec (motive := fun _ => Option Mv) (mvOf r b) (some q) (q.n.beq b) := fun _ => rfl
    have hn' : (r.map (·.n)).all (fun b => !(q.n.beq b)) = true ∧ nodupN (r.map (·.n)) = true := by rw [← Bool.and_eq_true]; exact hn
    rw [e]
    rcases List.mem_cons.1 h with rfl | h
    · rw [Nat.beq_refl]
    · have h1 := List.all_eq_true.1 hn'.1 p.n (List.mem_map_of_mem h)
      have : q.n.beq p.n = false := by simpa using h1
      rw [this]
      exact ih hn'.2 h
theorem nodupN_inj {m : List Mv} (hn : nodupN (m.map (·.o)) = true) {p q : Mv} (hp : p ∈ m) (hq : q ∈ m) (h : p.o = q.o) : p = q := by
  induction m with
  | nil => cases hp
  | cons x r ih =>
    have hn' : (r.map (·.o)).all (fun b => !(x.o.beq b)) = true ∧ nodupN (r.map (·.o)) = true := by rw [← Bool.and_eq_true]; exact hn
    have no : ∀ y ∈ r, x.o ≠ y.o := fun y hy e => by
      have h1 := List.all_eq_true.1 hn'.1 y.o (List.mem_map_of_mem hy)
      rw [e, Nat.beq_refl] at h1
      cases h1
    rcases List.mem_cons.1 hp with e1 | hp
    · rcases List.mem_cons.1 hq with e2 | hq
      · rw [e1, e2]
      · exact absurd (by rw [← e1, h]) (no q hq)
    · rcases List.mem_cons.1 hq with e2 | hq
      · exact absurd (by rw [← e2, h]) (no p hp)
      · exact ih hn'.2 hp hq
noncomputable def wkR (m : List Mv) (ρ : Rn) : Rn := ⟨fun b => match mvOf m b with | some p => ρ.b p.o | none => ρ.b b, fun b => match mvOf m b with | some p => ρ.c p.o | none => ρ.c b⟩
section
variable {P : Program} {T : Tab} {ρ : Rn} {m : List Mv} {nx nx' : Nat}
structure OkM (m : List Mv) (nx : Nat) : Prop where
  at_ : ∀ p ∈ m, 1000 ≤ p.o ∧ 1000 ≤ p.n ∧ p.n < nx
  o : nodupN (m.map (·.o)) = true
  n : nodupN (m.map (·.n)) = true
  lo : 1000 ≤ nx
  hi : nx < 16000000
theorem okM_ok (h : okM m nx = true) : OkM m nx := by
  unfold okM at h
  simp only [Bool.and_eq_true, List.all_eq_true, ble_iff, blt_iff] at h
  obtain ⟨⟨⟨⟨h1, h2⟩, h3⟩, h4⟩, h5⟩ := h
  exact ⟨fun p hp => ⟨(h1 p hp).1.1, (h1 p hp).1.2, (h1 p hp).2⟩, h2, h3, h4, h5⟩
theorem wkR_n (h : OkM m nx) {p : Mv} (hp : p ∈ m) : (wkR m ρ).b p.n = ρ.b p.o ∧ (wkR m ρ).c p.n = ρ.c p.o := by
  simp only [wkR, mvOf_mem h.n hp, and_self]
theorem onMv_ok (h : OkM m nx) {D : Nat → Prop} {b : Nat} {f : Mv → AV} {x : Value} (hf : ∀ p ∈ m, p.o = b → VR (wkR m ρ) (Dm N0 nx) (f p) x) : VR (wkR m ρ) (Dm N0 nx) (onMv m b f) x := by
  unfold onMv
  cases hb : mvTo m b with
  | none => exact .bad _
  | some p => obtain ⟨h1, h2⟩ := mvTo_some hb; exact hf p h1 h2
theorem wkV_ok (h : OkM m nx) {D : Nat → Prop} {v : AV} {x : Value} (hv : VR ρ D v x) : VR (wkR m ρ) (Dm N0 nx) (wkV m v) x := by
  cases hv with
  | bad x => exact .bad x
  | und => exact .und
  | bool s b => exact .bool s b
  | int s k n => exact .int s k n
  | str s b => exact .str s b
  | nilp => exact .nilp
  | nils => exact .nils
  | nilm => exact .nilm
  | nilf => exact .nilf
  | nili => exact .nili
  | ptr b o hd =>
    exact onMv_ok (D := D) h fun p hp hb => by
      have e := (wkR_n (ρ := ρ) h hp).1
      rw [hb] at e
      rw [← e]; exact .ptr _ _ (.inl (h.at_ p hp).2.2)
  | rptr b sz i j hd =>
    exact onMv_ok (D := D) h fun p hp hb => by
      have e := (wkR_n (ρ := ρ) h hp).1
      rw [hb] at e
      rw [← e]; exact .rptr _ _ _ _ (.inl (h.at_ p hp).2.2)
  | slk s b o n c hd hn =>
    exact onMv_ok (D := D) h fun p hp hb => by
      have e := (wkR_n (ρ := ρ) h hp).1
      rw [hb] at e
      rw [← e]; exact .slk _ _ _ _ _ (.inl (h.at_ p hp).2.2) hn
  | slu s b o n k hd hn =>
    exact onMv_ok (D := D) h fun p hp hb => by
      obtain ⟨e, e2⟩ := wkR_n (ρ := ρ) h hp
      rw [hb] at e e2
      rw [← e, ← e2]; exact .slu _ _ _ _ _ (.inl (h.at_ p hp).2.2) (by rw [e2]; exact hn)
  | mp b hd =>
    exact onMv_ok (D := D) h fun p hp hb => by
      have e := (wkR_n (ρ := ρ) h hp).1
      rw [hb] at e
      rw [← e]; exact .mp _ (.inl (h.at_ p hp).2.2)
  | fn => exact .bad _
  | ifc => exact .bad _
  | agg => exact .bad _
  | tup => exact .bad _
  | osl b n as c hd ha =>
    exact onMv_ok (D := D) h fun p hp hb => by
      obtain ⟨e, e2⟩ := wkR_n (ρ := ρ) h hp
      rw [hb] at e e2
      exact .osl _ _ _ _ (.inl (h.at_ p hp).2.2) (fun hn => by rw [ha hn, e, e2])
  | optr b sz i j hd =>
    exact onMv_ok (D := D) h fun p hp hb => by
      obtain ⟨e, e2⟩ := wkR_n (ρ := ρ) h hp
      rw [hb] at e e2
      rw [← e, ← e2]; exact .optr _ _ _ _ (.inl (h.at_ p hp).2.2)
theorem wkO_ok (h : OkM m nx) {D : Nat → Prop} {p : Mv} (hp : p ∈ m) {o o' : AObj} {r : Obj} (ho : OR P ρ D p.o o r) (hw : wkO m p.cv o = some o') : OR P (wkR m ρ) (Dm N0 nx) p.n o' r := by
  have hc := (wkR_n (ρ := ρ) h hp).2
  cases ho with
  | cells e cs gr arr fz hR ho hr =>
    cases hcv : p.cv with
    | false =>
      rw [hcv] at hw
      injection hw with hw
      subst hw
      refine .cells e _ gr arr fz (fun i x hx => ?_) ho ⟨by simpa using hr.1, by simpa using hr.2.1, fun hg => by rw [hc]; exact hr.2.2 hg⟩
      rw [List.getElem?_map] at hx
      cases hi : cs[i]? with
      | none => rw [hi] at hx; cases hx
      | some y =>
        rw [hi] at hx
        injection hx with hx
        subst hx
        obtain ⟨a, ha, hv⟩ := hR i y hi
        exact ⟨a, ha, wkV_ok h hv⟩
    | true =>
      rw [hcv] at hw
      have hmap : ReadL (wkR m ρ) (Dm N0 nx) (cs.map (wkV m)) arr := by
        intro i x hx
        rw [List.getElem?_map] at hx
        cases hi : cs[i]? with
        | none => rw [hi] at hx; cases hx
        | some y =>
          rw [hi] at hx
          injection hx with hx
          subst hx
          obtain ⟨a, ha, hv⟩ := hR i y hi
          exact ⟨a, ha, wkV_ok h hv⟩
      cases hl : intsOf .u8 cs with
      | none =>
        cases gr with
        | false => unfold wkO at hw; simp only [hl] at hw; cases hw
        | true =>
          unfold wkO at hw
          simp only [hl] at hw
          injection hw with hw
          subst hw
          exact .grows e cs.length 1 _ arr fz (fun i hi => by simp) (by show ReadL _ _ ([] ++ cs.map (wkV m)) arr; rw [List.nil_append]; exact hmap) ho ⟨by rw [Nat.one_mul]; exact hr.1, fun hh => (by cases hh), fun hg => by rw [hc]; exact hr.2.2 hg⟩
      | some l =>
        unfold wkO at hw
        simp only [hl] at hw
        injection hw with hw
        subst hw
        have hL : LR ρ D cs (arr.toList.take cs.length) := by
          refine ⟨by have := hr.1; simp; omega, fun i x a hx ha => ?_⟩
          rw [List.getElem?_take] at ha
          split at ha
          · obtain ⟨a', ha', hv⟩ := hR i x hx
            have : arr[i]? = some a := by simpa using ha
            rw [this] at ha'
            injection ha' with ha'
            subst ha'
            exact hv
          · cases ha
        have hi := intsOf_ok hL hl
        have hlen : l.length = cs.length := by
          have h1 := congrArg List.length hi
          rw [← hL.1, List.length_map] at h1
          exact h1.symm
        refine .nums e .u8 l gr arr fz (fun i x hx => ?_) ho ⟨by rw [hlen]; exact hr.1, by rw [hlen]; exact hr.2.1, fun hg => by rw [hc]; exact hr.2.2 hg⟩
        rw [List.getElem?_map] at hx
        cases hn : l[i]? with
        | none => rw [hn] at hx; cases hx
        | some n =>
          rw [hn] at hx
          injection hx with hx
          subst hx
          have h2 : (arr.toList.take cs.length)[i]? = some (Value.int .u8 n) := by rw [hi, List.getElem?_map, hn]; rfl
          rw [List.getElem?_take] at h2
          split at h2
          · exact ⟨_, by simpa using h2, .int _ _ _⟩
          · cases h2
  | nums e k xs gr arr fz hR ho hr =>
    injection hw with hw
    subst hw
    exact .nums e k xs gr arr fz (fun i x hx => by
      obtain ⟨a, ha, hv⟩ := hR i x hx
      refine ⟨a, ha, ?_⟩
      rw [List.getElem?_map] at hx
      cases hi : xs[i]? with
      | none => rw [hi] at hx; cases hx
      | some y =>
        rw [hi] at hx
        injection hx with hx
        subst hx
        cases hv
        exact .int _ _ _) ho ⟨hr.1, hr.2.1, fun hg => by rw [hc]; exact hr.2.2 hg⟩
  | rows e e2 sz n f arr fz hl hR =>
    injection hw with hw
    subst hw
    refine .rows e e2 sz n _ arr fz (fun i hi => by rw [List.length_map]; exact hl i hi) (fun i j x hi hx => ?_)
    rw [List.getElem?_map] at hx
    cases hj : (f i)[j]? with
    | none => rw [hj] at hx; cases hx
    | some y =>
      rw [hj] at hx
      injection hx with hx
      subst hx
      obtain ⟨a, ha, hv⟩ := hR i j y hi hj
      exact ⟨a, by rw [hc]; exact ha, wkV_ok h hv⟩
  | grows e sz n f arr fz hl hR ho hr =>
    injection hw with hw
    subst hw
    have hfm : ∀ k, flat (fun i => (f i).map (wkV m)) k = (flat f k).map (wkV m) := by
      intro k
      induction k with
      | zero => rfl
      | succ k ih => rw [flat, flat, ih, List.map_append]
    refine .grows e sz n _ arr fz (fun i hi => by rw [List.length_map]; exact hl i hi) (fun i x hx => ?_) ho ⟨hr.1, hr.2.1, fun hg => by rw [hc]; exact hr.2.2 hg⟩
    rw [hfm, List.getElem?_map] at hx
    cases hj : (flat f n)[i]? with
    | none => rw [hj] at hx; cases hx
    | some y =>
      rw [hj] at hx
      injection hx with hx
      subst hx
      obtain ⟨a, ha, hv⟩ := hR i y hj
      exact ⟨a, ha, wkV_ok h hv⟩
  | map => cases hw
theorem mkH_get {H : Tr AObj} {M : List Mv} : ∀ m : List Mv, (∀ p ∈ m, p.n < 16000000) → ∀ b, (mkH (m.map (wkP M H))).get b = match mvOf m b with | some p => (wkP M H p).2 | none => none := by
  intro m
  induction m with
  | nil => intro _ b; exact get_e b
  | cons q r ih =>
    intro hm b
    show ((mkH (r.map (wkP M H))).put q.n (wkP M H q).2).get b = _
    have e : mvOf (q :: r) b = Bool.rec (motive := fun _ => Option Mv) (mvOf r b) (some q) (q.n.beq b) := rfl
    rw [get_put _ _ _ _ (hm q (List.mem_cons_self ..)), e, ih (fun p hp => hm p (List.mem_cons_of_mem _ hp)) b]
    by_cases h : b = q.n
    · rw [if_pos h, beq_t h.symm]
    · rw [if_neg h, beq_f (fun e => h e.symm)]
/-- what stands in a frame and in the memory: F: blocks that are where they were -/
def SL (P : Program) (N : Nat) (F : List Nat) (ρ0 : Rn) (H0 : Nat → Option AObj) (w0 : World) (st : St) (a : Act) (w : World) : Prop :=
  ∃ ρ, EnvR ρ (Dm N0 st.g.nx) st.env a N ∧ Gl ρ st.g.nx ∧ GR P ρ (Dm N0 st.g.nx) st.g.h.get w ∧ Fram ρ0 H0 w0 ρ st.g.h.get w ∧ (∀ b ∈ F, b < st.g.nx ∧ ρ.b b = ρ0.b b) ∧ a.defers = []
def ExS : Ex → Exit → Prop
  | .normal, .normal => True
  | .exit i, .exit j => i = j
  | .ret, .ret => True
  | _, _ => False
noncomputable def keepF (F : List Nat) (m : List Mv) (nx : Nat) : Bool := F.all fun b => (match mvOf m b with | some p => p.o.beq b | none => false)
theorem wkS_ok (h : okM m nx = true) {N : Nat} {F : List Nat} (hF : keepF F m nx = true) {ρ0 : Rn} {H0 : Nat → Option AObj} {w0 : World} {st : St} {a : Act} {w : World} {ks : List Nat} (hs : SL P N F ρ0 H0 w0 st a w) : SL P N F ρ0 H0 w0 (wkS N ks m nx st) a w := by
  have hk := okM_ok h
  obtain ⟨ρ, he, hg, hr, hf, hfx, hd⟩ := hs
  have get : ∀ b, (mkH (m.map (wkP m st.g.h))).get b = match mvOf m b with | some p => (wkP m st.g.h p).2 | none => none := mkH_get m fun p hp => Nat.lt_trans (hk.at_ p hp).2.2 hk.hi
  have back : ∀ b o, (mkH (m.map (wkP m st.g.h))).get b = some o → ∃ p ∈ m, p.n = b ∧ ∃ o1, st.g.h.get p.o = some o1 ∧ wkO m p.cv o1 = some o := by
    intro b o hb
    rw [get] at hb
    cases hm : mvOf m b with
    | none => rw [hm] at hb; cases hb
    | some p =>
      rw [hm] at hb
      obtain ⟨h1, h2⟩ := mvOf_some hm
      have hb' : (Option.rec (motive := fun _ => Option AObj) none (fun o => wkO m p.cv o) (st.g.h.get p.o)) = some o := hb
      cases ho : st.g.h.get p.o with
      | none => rw [ho] at hb'; cases hb'
      | some o1 => rw [ho] at hb'; exact ⟨p, h1, h2, o1, ho, hb'⟩
  refine ⟨wkR m ρ, ⟨he.size, he.small, fun t => ?_⟩, ⟨hk.lo, fun g hg2 => ?_⟩, ⟨fun b o hb => ?_, fun b o hb => ?_, fun b b' o o' hb hb' e => ?_⟩, ⟨hf.os, hf.tape, hf.output, hf.size, hf.keep, fun b o hb hfx => ?_⟩, fun b hb => ?_, hd⟩
  · rw [evT_eq]
    show VR _ _ (match (mkEnv N _).get t with | some v => v | none => .und) _
    rw [mkEnv_get _ _ (Nat.le_of_lt he.small)]
    by_cases ht : t < N
    · rw [if_pos ht]
      show VR _ _ (lookF _ t) _
      have hv := wkV_ok (nx := nx) hk (he.get t)
      induction ks with
      | nil => exact .bad _
      | cons k r ih =>
        rw [List.map_cons, lookF_cons]
        by_cases e : k = t
        · rw [if_pos e]; subst e; exact hv
        · rw [if_neg e]; exact ih
    · rw [if_neg ht]
      have : a.tmps.getD t undef = undef := by
        simp only [Array.getD_eq_getD_getElem?]
        rw [Array.getElem?_eq_none (by rw [he.size]; omega)]; rfl
      rw [this]; exact .und
  · show (wkR m ρ).b g = g
    have : mvOf m g = none := by
      cases hm : mvOf m g with
      | none => rfl
      | some p => obtain ⟨h1, h2⟩ := mvOf_some hm; have := (hk.at_ p h1).2.1; omega
    simp only [wkR, this]
    exact hg.at_ g hg2
  · obtain ⟨p, hp, rfl, o1, h1, h2⟩ := back b o hb
    have := (hk.at_ p hp).2.2
    exact ⟨.inl this, Nat.lt_trans this hk.hi⟩
  · obtain ⟨p, hp, rfl, o1, h1, h2⟩ := back b o hb
    obtain ⟨r, q1, q2⟩ := hr.at_ p.o o1 h1
    exact ⟨r, by rw [(wkR_n hk hp).1]; exact q1, wkO_ok hk hp q2 h2⟩
  · obtain ⟨p, hp, rfl, o1, h1, h2⟩ := back b o hb
    obtain ⟨q, hq, rfl, o2, h3, h4⟩ := back b' o' hb'
    rw [(wkR_n hk hp).1, (wkR_n hk hq).1] at e
    have := hr.inj p.o q.o o1 o2 h1 h3 e
    rw [nodupN_inj hk.o hp hq this]
  · obtain ⟨p, hp, rfl, o1, h1, h2⟩ := back b o hb
    rw [(wkR_n hk hp).1]
    refine hf.own p.o o1 h1 ?_
    cases o1 with
    | rows e sz n f => injection h2 with h2; subst h2; cases hfx
    | _ => rfl
  · have h1 := List.all_eq_true.1 hF b hb
    cases hm : mvOf m b with
    | none => rw [hm] at h1; cases h1
    | some p =>
      rw [hm] at h1
      have h2 : p.o = b := beq_iff.1 h1
      obtain ⟨h3, h4⟩ := mvOf_some hm
      refine ⟨by rw [← h4]; exact (hk.at_ p h3).2.2, ?_⟩
      have := (wkR_n (ρ := ρ) hk h3).1
      rw [h4, h2] at this
      rw [this]; exact (hfx b hb).2
/-- a path of a piece of code -/
theorem exec_sl (hT : TabOk P T) (hm : P.follows .mixedOrders = true) {call : CallT} (hc : CallOk P call) {N : Nat} {c : Code} (hw : wf N c = true) {n : Nat} {st st' : St} {e : Ex} {ks : List Nat} (h : wkX N ks m nx (exec c T call n st) = some (e, st')) (hok : okM m nx = true) (hp : ∀ v, e ≠ .pan v) (hpc : st'.g.pc) (hd : st.df = []) (hno : isNo st.pm = true)
    {F : List Nat} (hF : keepF F m nx = true) {ρ0 : Rn} {H0 : Nat → Option AObj} {w0 : World} {a : Act} {w : World} (hs : SL P N F ρ0 H0 w0 st a w) : c.wp P (fun x a' w' => ExS e x ∧ SL P N F ρ0 H0 w0 st' a' w') a w := by
  intro b k cs
  cases hr : exec c T call n st with
  | none => rw [hr] at h; cases h
  | some q =>
    obtain ⟨e1, s1⟩ := q
    rw [hr] at h
    have h' : (match noD s1.df with | true => some (e1, wkS N ks m nx s1) | false => none) = some (e, st') := h
    cases hdf : noD s1.df with
    | false => rw [hdf] at h'; cases h'
    | true =>
      rw [hdf] at h'
      injection h' with h'
      obtain ⟨rfl, rfl⟩ := Prod.mk.inj h'
      have hdf' : s1.df = [] := by
        cases hh : s1.df with
        | nil => rfl
        | cons x r => rw [hh] at hdf; cases hdf
      obtain ⟨ρ, he, hg, hgr, hf, hfx, had⟩ := hs
      have hDf : DfR ρ (Dm N0 st.g.nx) st.df a.defers := by rw [hd, had]; exact .nil
      obtain ⟨ρ', a', w', cs', x, hto, hex, harr⟩ := exec_ok (E := N0) hT hc (draw_ok hT hc hm) c hw n ρ st a w b cs k (e1, s1) hr hpc (fun b hb => hb.elim) ⟨he, hg, hDf, .inl hno, hgr⟩
      have hcs : cs' = cs := by
        rcases hto.keep with hh | ⟨hh, _⟩
        · exact hh
        · rw [hno] at hh; cases hh
      subst hcs
      refine ⟨x, a', w', ⟨?_, wkS_ok hok hF ⟨ρ', hto.sr.env, hto.sr.gl, hto.sr.gr, hf.trans hto.eff.fr, fun b hb => ⟨Nat.lt_of_lt_of_le (hfx b hb).1 hto.eff.nx, by rw [(hto.eff.ext b (.inl (hfx b hb).1)).1]; exact (hfx b hb).2⟩, ?_⟩⟩, harr⟩
      · cases e1 with
        | normal => obtain rfl := hex.normal; trivial
        | exit i => cases x <;> first | exact hex | exact hex.elim
        | ret => cases x <;> first | exact hex | exact hex.elim
        | pan v => exact absurd rfl (hp v)
      · have h1 := hto.sr.df
        rw [hdf'] at h1
        generalize a'.defers = z at h1
        cases h1
        rfl
theorem ExS.normal {x : Exit} (h : ExS .normal x) : x = .normal := by cases x <;> first | rfl | exact h.elim
theorem ExS.exit {i : Nat} {x : Exit} (h : ExS (.exit i) x) : x = .exit i := by cases x <;> first | exact h.elim | (obtain rfl : i = _ := h; rfl)
theorem ExS.ret {x : Exit} (h : ExS .ret x) : x = .ret := by cases x <;> first | rfl | exact h.elim
/-- a function's call, out of a walk through its body -/
theorem calls_sl (hT : TabOk P T) {f : FuncId} {fn : Func} {c : Code} {args : List AV} {vs : List Value} {g : G} {w : World} {F : List Nat} {R : St → List AV → Prop} (hf : P.funcs[f]? = some fn) (hb : fn.body = some c) (hl : args.length ≤ fn.ntmps) (hn : fn.ntmps < 16000000)
    (hF : ∀ b ∈ F, b < g.nx) (hg : Gl ρ g.nx) (hL : LR ρ (Dm N0 g.nx) args vs) (hw : GR P ρ (Dm N0 g.nx) g.h.get w)
    (h : ∀ a, SL P fn.ntmps F ρ g.h.get w ⟨argsEnv args 0 .e, g, [], .no, []⟩ a w → c.wp P (fun x a' w' => (x = .normal ∨ x = .ret) ∧ ∃ st' l, SL P fn.ntmps F ρ g.h.get w st' a' w' ∧ st'.g.pc ∧ SX.results T st'.env st'.g fn.results.toList = some l ∧ R st' l) a w) :
    Calls P f vs.toArray w fun e w' => ∃ st' l v ρ', R st' l ∧ e = .returned v ∧ VR ρ' (Dm N0 st'.g.nx) (oneOr l) v ∧ Gl ρ' st'.g.nx ∧ GR P ρ' (Dm N0 st'.g.nx) st'.g.h.get w' ∧ Fram ρ g.h.get w ρ' st'.g.h.get w' ∧ ∀ b ∈ F, b < st'.g.nx ∧ ρ'.b b = ρ.b b := by
  refine calls_of_wp_defers hf hb (wp_mono (h _ ⟨ρ, args_env hL hl hn, hg, hw, .refl _ _ _, fun b hb => ⟨hF b hb, rfl⟩, rfl⟩) ?_)
  rintro x a' w' ⟨hx, st', l, ⟨ρ', he, hg', hgr, hfr, hfx, hd⟩, hpc, hres, hR⟩
  obtain ⟨v, hv, hvr⟩ := results_ok (fn := fn) hT he hpc hgr hres
  have fin : Leaves P fn a'.tmps (fun e w' => ∃ st' l v ρ', R st' l ∧ e = .returned v ∧ VR ρ' (Dm N0 st'.g.nx) (oneOr l) v ∧ Gl ρ' st'.g.nx ∧ GR P ρ' (Dm N0 st'.g.nx) st'.g.h.get w' ∧ Fram ρ g.h.get w ρ' st'.g.h.get w' ∧ ∀ b ∈ F, b < st'.g.nx ∧ ρ'.b b = ρ.b b) a'.defers .returning w' := by
    rw [hd]
    exact ⟨v, hv, st', l, v, ρ', hR, rfl, hvr, hg', hgr, hfr, hfx⟩
  rcases hx with rfl | rfl
  · exact fin
  · exact fin
theorem SL.alike {N : Nat} {F : List Nat} {ρ0 : Rn} {H0 : Nat → Option AObj} {w0 : World} {st st' : St} {a : Act} {w : World} (h : SL P N F ρ0 H0 w0 st a w) (h1 : st'.env = st.env) (h2 : st'.g.nx = st.g.nx) (h3 : st'.g.h = st.g.h) : SL P N F ρ0 H0 w0 st' a w := by
  unfold SL at *
  rw [h1, h2, h3]; exact h
/-- the same values, told otherwise -/
inductive SimL : List (Nat × AV) → List (Nat × AV) → Prop
  | nil : SimL [] []
  | cons {k : Nat} {v v' : AV} {r r' : List (Nat × AV)} (h : ∀ (ρ : Rn) (D : Nat → Prop) (x : Value), VR ρ D v x → VR ρ D v' x) (t : SimL r r') : SimL ((k, v) :: r) ((k, v') :: r')
theorem SimL.refl : ∀ l : List (Nat × AV), SimL l l
  | [] => .nil
  | (_, _) :: r => .cons (fun _ _ _ h => h) (SimL.refl r)
theorem SimL.same {k : Nat} {v : AV} {r r' : List (Nat × AV)} (t : SimL r r') : SimL ((k, v) :: r) ((k, v) :: r') := .cons (fun _ _ _ h => h) t
theorem SimL.int {k : Nat} {s s' : Bool} {kd : IntKind} {n : Int} {r r' : List (Nat × AV)} (t : SimL r r') : SimL ((k, .int s kd n) :: r) ((k, .int s' kd n) :: r') := .cons (fun _ _ _ h => by cases h; exact .int _ _ _) t
theorem SimL.bool {k : Nat} {s s' b : Bool} {r r' : List (Nat × AV)} (t : SimL r r') : SimL ((k, .bool s b) :: r) ((k, .bool s' b) :: r') := .cons (fun _ _ _ h => by cases h; exact .bool _ _) t
theorem SimL.str {k : Nat} {s s' : Bool} {b : List Nat} {r r' : List (Nat × AV)} (t : SimL r r') : SimL ((k, .str s b) :: r) ((k, .str s' b) :: r') := .cons (fun _ _ _ h => by cases h; exact .str _ _) t
theorem SimL.look {l l' : List (Nat × AV)} (h : SimL l l') (t : Nat) {D : Nat → Prop} {x : Value} (hv : VR ρ D (lookF l t) x) : VR ρ D (lookF l' t) x := by
  induction h with
  | nil => exact hv
  | cons hk r ih =>
    rw [lookF_cons] at hv ⊢
    split
    · rename_i e; rw [if_pos e] at hv; exact hk _ _ _ hv
    · rename_i e; rw [if_neg e] at hv; exact ih hv
theorem SL.sim {N : Nat} {F : List Nat} {ρ0 : Rn} {H0 : Nat → Option AObj} {w0 : World} {st st' : St} {a : Act} {w : World} {l l' : List (Nat × AV)} (h : SL P N F ρ0 H0 w0 st a w) (h1 : st.env = mkEnv N l) (h1' : st'.env = mkEnv N l') (hl : SimL l l') (h2 : st'.g.nx = st.g.nx) (h3 : st'.g.h = st.g.h) : SL P N F ρ0 H0 w0 st' a w := by
  obtain ⟨ρ, he, hg, hr, hf, hfx, hd⟩ := h
  refine ⟨ρ, ⟨he.size, he.small, fun t => ?_⟩, by rw [h2]; exact hg, by rw [h2, h3]; exact hr, by rw [h3]; exact hf, by rw [h2]; exact hfx, hd⟩
  have hv := he.get t
  rw [evT_eq, h1, mkEnv_get _ _ (Nat.le_of_lt he.small)] at hv
  rw [evT_eq, h1', mkEnv_get _ _ (Nat.le_of_lt he.small), h2]
  by_cases ht : t < N
  · rw [if_pos ht] at hv ⊢; exact hl.look t hv
  · rw [if_neg ht] at hv ⊢; exact hv
/-- a loop by an invariant -/
theorem loop_sl {N : Nat} {F : List Nat} {ρ0 : Rn} {H0 : Nat → Option AObj} {w0 : World} {ι : Type} (S : ι → St) (ok : ι → Prop) (μ : ι → Nat) {x : Code} {Q : Exit → Act → World → Prop} {a : Act} {w : World} (i0 : ι) (h0 : ok i0) (hs : SL P N F ρ0 H0 w0 (S i0) a w)
    (round : ∀ i, ok i → ∀ a w, SL P N F ρ0 H0 w0 (S i) a w → x.wp P (Exit.then (fun a' w' => ∃ j, ok j ∧ μ j < μ i ∧ SL P N F ρ0 H0 w0 (S j) a' w') Q) a w) : (Code.loop x).wp P Q a w := by
  refine wp_loop_ghost (fun n a w => ∃ i, ok i ∧ μ i = n ∧ SL P N F ρ0 H0 w0 (S i) a w) (μ i0) ⟨i0, h0, rfl, hs⟩ ?_
  rintro n a w ⟨i, hi, rfl, hs⟩
  refine wp_mono (round i hi a w hs) ?_
  intro e a' w' hq
  cases e with
  | normal => obtain ⟨j, h1, h2, h3⟩ := hq; exact ⟨μ j, h2, j, h1, rfl, h3⟩
  | _ => exact hq
end
section
variable {P : Program} {E : Nat → Prop} {ρ : Rn} {g : G} {w w' : World}
noncomputable def dropO (d : Option Nat) (h : Tr AObj) : Tr AObj := match d with | some q => h.put q none | none => h
/-- a block's contents turn, one is given up, one is new -/
theorem graft {b : Nat} {o0 o1 o2 : AObj} {d : Option Nat} {R c : Nat} (hG : GR P ρ (Dm E g.nx) g.h.get w) (hb : g.h.get b = some o0) (hd : ∀ q, d = some q → (∃ o, g.h.get q = some o ∧ o.fixed = false) ∧ q ≠ b) (hfx0 : o0.fixed = false) (hn : g.nx < 16000000) (hE : ∀ b, E b → g.nx + 1 ≤ b)
    (hos : w'.os = w.os) (htape : w'.tape = w.tape) (hout : w'.output = w.output) (hsz : w.heap.size ≤ w'.heap.size)
    (keep : ∀ i, i < w.heap.size → i ≠ ρ.b b → (∀ q, d = some q → i ≠ ρ.b q) → w'.heap[i]? = w.heap[i]?)
    (own : w.heap.size ≤ R ∨ ∃ q, d = some q ∧ R = ρ.b q)
    (h1 : ∃ r, w'.heap[ρ.b b]? = some r ∧ OR P (ρ.set g.nx R c) (Dm E (g.nx + 1)) b o1 r)
    (h2 : ∃ r, w'.heap[R]? = some r ∧ OR P (ρ.set g.nx R c) (Dm E (g.nx + 1)) g.nx o2 r) :
    Eff P E ρ g w (ρ.set g.nx R c) { g with h := (dropO d (g.h.put b (some o1))).put g.nx (some o2), nx := g.nx + 1 } w' := by
  have hne : ∀ q, Dm E g.nx q → q ≠ g.nx := fun q hq e => by
    subst e
    rcases hq with hq | hq
    · omega
    · have := hE _ hq; omega
  have hext : ∀ q, Dm E g.nx q → (ρ.set g.nx R c).b q = ρ.b q ∧ (ρ.set g.nx R c).c q = ρ.c q := fun q hq => Rn.set_ne (hne q hq)
  obtain ⟨hDb, hbn⟩ := hG.dom b o0 hb
  have get : ∀ q, ((dropO d (g.h.put b (some o1))).put g.nx (some o2)).get q = if q = g.nx then some o2 else if d = some q then none else if q = b then some o1 else g.h.get q := by
    intro q
    rw [get_put _ _ _ _ hn]
    by_cases e : q = g.nx
    · rw [if_pos e, if_pos e]
    · rw [if_neg e, if_neg e]
      cases d with
      | none =>
        show (g.h.put b (some o1)).get q = _
        have n1 : ¬ (none : Option Nat) = some q := fun h => by cases h
        rw [get_put _ _ _ _ hbn, if_neg n1]
      | some k =>
        obtain ⟨⟨ok, hk, _⟩, hkb⟩ := hd k rfl
        show ((g.h.put b (some o1)).put k none).get q = _
        rw [get_put _ _ _ _ (hG.dom k ok hk).2, get_put _ _ _ _ hbn]
        by_cases e2 : q = k
        · rw [if_pos e2, if_pos (by rw [e2])]
        · have n2 : ¬ (some k = some q) := fun h => by injection h with h; exact e2 h.symm
          rw [if_neg e2, if_neg n2]
  have cas : ∀ q o, ((dropO d (g.h.put b (some o1))).put g.nx (some o2)).get q = some o → (q = g.nx ∧ o = o2) ∨ (q ≠ g.nx ∧ d ≠ some q ∧ q = b ∧ o = o1) ∨ (q ≠ g.nx ∧ d ≠ some q ∧ q ≠ b ∧ g.h.get q = some o) := by
    intro q o h
    rw [get] at h
    by_cases e : q = g.nx
    · rw [if_pos e] at h; injection h with h; exact .inl ⟨e, h.symm⟩
    · rw [if_neg e] at h
      by_cases e2 : d = some q
      · rw [if_pos e2] at h; cases h
      · rw [if_neg e2] at h
        by_cases e3 : q = b
        · rw [if_pos e3] at h; injection h with h; exact .inr (.inl ⟨e, e2, e3, h.symm⟩)
        · rw [if_neg e3] at h; exact .inr (.inr ⟨e, e2, e3, h⟩)
  have Rne : ∀ q o, g.h.get q = some o → d ≠ some q → R ≠ ρ.b q := by
    intro q o hq hdq e
    rcases own with h | ⟨k, hk, e2⟩
    · have := hG.lt hq; omega
    · obtain ⟨⟨ok, hk2, hkf⟩, _⟩ := hd k hk
      have := hG.inj k q ok o hk2 hq (by rw [← e2, e])
      subst this
      exact hdq hk
  refine ⟨Nat.le_succ _, hext, ⟨fun q o hq => ?_, fun q o hq => ?_, fun q q' o o' hq hq' e => ?_⟩, ⟨hos, htape, hout, hsz, fun i hi hne2 => ?_, fun q o hq hfx => ?_⟩⟩
  · rcases cas q o hq with ⟨rfl, _⟩ | ⟨_, _, rfl, _⟩ | ⟨_, _, _, h⟩
    · exact ⟨.inl (Nat.lt_succ_self _), hn⟩
    · exact ⟨hDb.mono (Nat.le_succ _), hbn⟩
    · exact ⟨(hG.dom q o h).1.mono (Nat.le_succ _), (hG.dom q o h).2⟩
  · rcases cas q o hq with ⟨rfl, rfl⟩ | ⟨_, _, rfl, rfl⟩ | ⟨e1, e2, e3, h⟩
    · rw [Rn.set_b]; exact h2
    · rw [(hext _ hDb).1]; exact h1
    · have hD := (hG.dom q o h).1
      obtain ⟨r, hr, hor⟩ := hG.at_ q o h
      rw [(hext q hD).1]
      refine ⟨r, ?_, hor.mono (fun k hk => ⟨hk.mono (Nat.le_succ _), hext k hk⟩) (hext q hD).2⟩
      rw [keep _ (hG.lt h) (fun e => e3 (hG.inj q b o o0 h hb e)) (fun k hk e => ?_)]
      · exact hr
      · obtain ⟨⟨ok, hk2, hkf⟩, _⟩ := hd k hk
        have := hG.inj q k o ok h hk2 e
        subst this
        exact e2 hk
  · rcases cas q o hq with ⟨rfl, _⟩ | ⟨q1, q2, q3, _⟩ | ⟨q1, q2, q3, h⟩
    · rcases cas q' o' hq' with ⟨rfl, _⟩ | ⟨p1, p2, p3, _⟩ | ⟨p1, p2, p3, h'⟩
      · rfl
      · subst p3
        rw [Rn.set_b, (hext _ hDb).1] at e
        exact absurd e (Rne q' o0 hb p2)
      · rw [Rn.set_b, (hext _ (hG.dom q' o' h').1).1] at e
        exact absurd e (Rne q' o' h' p2)
    · subst q3
      rw [(hext _ hDb).1] at e
      rcases cas q' o' hq' with ⟨rfl, _⟩ | ⟨p1, p2, p3, _⟩ | ⟨p1, p2, p3, h'⟩
      · rw [Rn.set_b] at e
        exact absurd e.symm (Rne q o0 hb q2)
      · exact p3.symm
      · rw [(hext _ (hG.dom q' o' h').1).1] at e
        exact hG.inj _ _ _ _ hb h' e
    · rw [(hext _ (hG.dom q o h).1).1] at e
      rcases cas q' o' hq' with ⟨rfl, _⟩ | ⟨p1, p2, p3, _⟩ | ⟨p1, p2, p3, h'⟩
      · rw [Rn.set_b] at e
        exact absurd e.symm (Rne q o h q2)
      · subst p3
        rw [(hext _ hDb).1] at e
        exact hG.inj _ _ _ _ h hb e
      · rw [(hext _ (hG.dom q' o' h').1).1] at e
        exact hG.inj _ _ _ _ h h' e
  · refine keep i hi (fun e => hne2 b o0 hb hfx0 e.symm) (fun k hk e => ?_)
    obtain ⟨⟨ok, hk2, hkf⟩, _⟩ := hd k hk
    exact hne2 k ok hk2 hkf e.symm
  · rcases cas q o hq with ⟨rfl, _⟩ | ⟨_, _, rfl, _⟩ | ⟨e1, e2, e3, h⟩
    · rw [Rn.set_b]
      rcases own with h | ⟨k, hk, e⟩
      · exact .inl h
      · obtain ⟨⟨ok, hk2, hkf⟩, _⟩ := hd k hk
        exact .inr ⟨k, ok, hk2, hkf, e.symm⟩
    · exact .inr ⟨_, o0, hb, hfx0, ((hext _ hDb).1).symm⟩
    · exact .inr ⟨q, o, h, hfx, ((hext _ (hG.dom q o h).1).1).symm⟩
/-- a block's contents turn -/
theorem graft0 {b : Nat} {o0 o1 : AObj} (hG : GR P ρ (Dm E g.nx) g.h.get w) (hb : g.h.get b = some o0) (hfx0 : o0.fixed = false)
    (hos : w'.os = w.os) (htape : w'.tape = w.tape) (hout : w'.output = w.output) (hsz : w.heap.size ≤ w'.heap.size)
    (keep : ∀ i, i < w.heap.size → i ≠ ρ.b b → w'.heap[i]? = w.heap[i]?)
    (h1 : ∃ r, w'.heap[ρ.b b]? = some r ∧ OR P ρ (Dm E g.nx) b o1 r) :
    Eff P E ρ g w ρ (g.set b (some o1)) w' := by
  obtain ⟨hDb, hbn⟩ := hG.dom b o0 hb
  have get : ∀ q, (g.h.put b (some o1)).get q = if q = b then some o1 else g.h.get q := fun q => get_put _ _ _ _ hbn
  have cas : ∀ q o, (g.h.put b (some o1)).get q = some o → (q = b ∧ o = o1) ∨ (q ≠ b ∧ g.h.get q = some o) := by
    intro q o h
    rw [get] at h
    by_cases e : q = b
    · rw [if_pos e] at h; injection h with h; exact .inl ⟨e, h.symm⟩
    · rw [if_neg e] at h; exact .inr ⟨e, h⟩
  have old : ∀ q o, (g.h.put b (some o1)).get q = some o → ∃ o', g.h.get q = some o' := by
    intro q o h
    rcases cas q o h with ⟨rfl, _⟩ | ⟨_, h⟩
    · exact ⟨_, hb⟩
    · exact ⟨_, h⟩
  refine ⟨Nat.le_refl _, fun _ _ => ⟨rfl, rfl⟩, ⟨fun q o hq => ?_, fun q o hq => ?_, fun q q' o o' hq hq' e => ?_⟩, ⟨hos, htape, hout, hsz, fun i hi hne2 => keep i hi (fun e => hne2 b o0 hb hfx0 e.symm), fun q o hq hfx => ?_⟩⟩
  · obtain ⟨o', h⟩ := old q o hq; exact hG.dom q o' h
  · rcases cas q o hq with ⟨rfl, rfl⟩ | ⟨e, h⟩
    · exact h1
    · obtain ⟨r, hr, hor⟩ := hG.at_ q o h
      refine ⟨r, ?_, hor⟩
      rw [keep _ (hG.lt h) (fun e2 => e (hG.inj q b o o0 h hb e2))]; exact hr
  · obtain ⟨o1', h1'⟩ := old q o hq
    obtain ⟨o2', h2'⟩ := old q' o' hq'
    exact hG.inj q q' _ _ h1' h2' e
  · rcases cas q o hq with ⟨rfl, rfl⟩ | ⟨e, h⟩
    · exact .inr ⟨_, o0, hb, hfx0, rfl⟩
    · exact .inr ⟨q, o, h, hfx, rfl⟩
end
/-! ### a struct with some numbers and a slice of bytes that grows -/
structure WKind where
  t : Nat
  preA : List Int
  pre : Nat → List Int
  row : Nat → Nat → List Int
  len : Nat → Nat
noncomputable def cA (K : WKind) : AObj := .cells K.t (K.preA.map (.int false .i64) ++ [.nils]) false
noncomputable def cB (K : WKind) (a id : Nat) : AObj := .cells K.t ((K.pre a).map (.int true .i64) ++ [.sl true id 0 (K.len a) (.un 0)]) false
noncomputable def cR (K : WKind) (a B : Nat) : AObj := .nums 5 .u8 (K.row a B) true
noncomputable def hS (K : WKind) (a B : Nat) : Tr AObj := match a with
  | 0 => mkH [(1000, some (cA K))]
  | a + 1 => mkH [(1000, some (cB K (a + 1) 1001)), (1001, some (cR K (a + 1) B))]
def nxW (a : Nat) : Nat := match a with | 0 => 1001 | _ + 1 => 1002
def LCd (P : Program) (K : WKind) (f : FuncId) (vs : List Value) (a B a1 B1 : Nat) (x1 : Value) : Prop := ∀ (ρ : Rn) (w : World) (p : Value), Gl ρ (nxW a) → VR ρ (Dm N0 (nxW a)) (.ptr 1000 0) p → GR P ρ (Dm N0 (nxW a)) (hS K a B).get w →
  Calls P f (p :: vs).toArray w fun e w' => ∃ ρ', e = .returned x1 ∧ GR P ρ' (Dm N0 (nxW a1)) (hS K a1 B1).get w' ∧ Fram ρ (hS K a B).get w ρ' (hS K a1 B1).get w' ∧ ρ'.b 1000 = ρ.b 1000
theorem hS0 (K : WKind) (B b : Nat) : (hS K 0 B).get b = if b = 1000 then some (cA K) else none := by
  have e : hS K 0 B = (Tr.e : Tr AObj).put 1000 (some (cA K)) := rfl
  rw [e, get_put _ _ _ _ (by omega), get_e]
theorem hS1 (K : WKind) {a : Nat} (B b : Nat) (h : 0 < a) : (hS K a B).get b = if b = 1000 then some (cB K a 1001) else if b = 1001 then some (cR K a B) else none := by
  cases a with
  | zero => omega
  | succ a =>
    have e : hS K (a + 1) B = ((Tr.e : Tr AObj).put 1001 (some (cR K (a + 1) B))).put 1000 (some (cB K (a + 1) 1001)) := rfl
    rw [e, get_put _ _ _ _ (by omega), get_put _ _ _ _ (by omega), get_e]
theorem nxW1 {a : Nat} (h : 0 < a) : nxW a = 1002 := by cases a with | zero => omega | succ a => rfl
section
variable {P : Program} {E : Nat → Prop} {ρ : Rn} {g : G} {w w' : World} {K : WKind} {f : FuncId} {vs : List Value} {a B a1 B1 : Nat} {x1 : Value}
theorem sl_conv {ρ ρ' : Rn} {D D' : Nat → Prop} {s s' : Bool} {b b' l : Nat} {x : Value} (h : VR ρ D (.sl s b 0 l (.un 0)) x) (hb : ρ'.b b' = ρ.b b) (hc : ρ'.c b' = ρ.c b) (hD : D' b') : VR ρ' D' (.sl s' b' 0 l (.un 0)) x := by
  cases h with
  | slu s b o n k h hn => rw [← hb, ← hc]; exact .slu _ _ _ _ _ hD (by rw [hc]; exact hn)
theorem ints_conv {ρ ρ' : Rn} {D D' : Nat → Prop} {xs : List Int} {s s' : Bool} {k : IntKind} {v v' : AV} {arr : Array Value} (h : ReadL ρ D (xs.map (.int s k) ++ [v]) arr) (hv : ∀ x, VR ρ D v x → VR ρ' D' v' x) : ReadL ρ' D' (xs.map (.int s' k) ++ [v']) arr := by
  intro i x hx
  by_cases hi : i < xs.length
  · rw [List.getElem?_append_left (by simpa using hi), List.getElem?_map, List.getElem?_eq_getElem hi] at hx
    injection hx with hx
    subst hx
    obtain ⟨y, hy, hv2⟩ := h i (.int s k xs[i]) (by rw [List.getElem?_append_left (by simpa using hi), List.getElem?_map, List.getElem?_eq_getElem hi]; rfl)
    refine ⟨y, hy, ?_⟩
    cases hv2; exact .int _ _ _
  · rw [List.getElem?_append_right (by simpa using hi)] at hx
    have hi2 : i - (xs.map (AV.int s' k)).length = 0 := by
      have := lt_of_get hx
      simpa using this
    rw [hi2] at hx
    injection hx with hx
    subst hx
    have e : (xs.map (AV.int s k)).length = (xs.map (AV.int s' k)).length := by simp
    obtain ⟨y, hy, hv2⟩ := h i v (by rw [List.getElem?_append_right (by simpa using hi), e, hi2]; rfl)
    exact ⟨y, hy, hv y hv2⟩
theorem cB_conv {ρ ρ' : Rn} {D D' : Nat → Prop} {b b' id id' a : Nat} {r : Obj} (h : OR P ρ D b (cB K a id) r) (hb : ρ'.b id' = ρ.b id) (hc : ρ'.c id' = ρ.c id) (hD : D' id') : OR P ρ' D' b' (cB K a id') r := by
  unfold cB at *
  cases h with
  | cells e cs gr arr fz hR ho hr => exact .cells _ _ _ arr fz (ints_conv hR fun x hx => sl_conv hx hb hc hD) ho ⟨by simpa using hr.1, by simpa using hr.2.1, fun h => by cases h⟩
theorem cA_conv {ρ ρ' : Rn} {D D' : Nat → Prop} {b b' : Nat} {r : Obj} (h : OR P ρ D b (cA K) r) : OR P ρ' D' b' (cA K) r := by
  unfold cA at *
  cases h with
  | cells e cs gr arr fz hR ho hr => exact .cells _ _ _ arr fz (ints_conv hR fun x hx => by cases hx; exact .nils) ho ⟨by simpa using hr.1, by simpa using hr.2.1, fun h => by cases h⟩
theorem cR_conv {ρ ρ' : Rn} {D D' : Nat → Prop} {b b' a B : Nat} {r : Obj} (h : OR P ρ D b (cR K a B) r) (hc : ρ'.c b' = ρ.c b) : OR P ρ' D' b' (cR K a B) r := by
  unfold cR at *
  cases h with
  | nums e k xs gr arr fz hR ho hr =>
    refine .nums _ _ _ _ arr fz (fun i x hx => ?_) ho ⟨hr.1, hr.2.1, fun h => by rw [hc]; exact hr.2.2 h⟩
    obtain ⟨y, hy, hv⟩ := hR i x hx
    refine ⟨y, hy, ?_⟩
    rw [List.getElem?_map] at hx
    cases hn : (K.row a B)[i]? with
    | none => rw [hn] at hx; cases hx
    | some n =>
      rw [hn] at hx
      injection hx with hx
      subst hx
      cases hv
      exact .int _ _ _
noncomputable def smR (ρ : Rn) (b b2 : Nat) : Rn := ⟨fun k => if k = 1000 then ρ.b b else if k = 1001 then ρ.b b2 else k, fun k => if k = 1001 then ρ.c b2 else 0⟩
theorem smR_gl (ρ : Rn) (b b2 n : Nat) (h : 1000 ≤ n) : Gl (smR ρ b b2) n := ⟨h, fun k hk => by
  show (if k = 1000 then ρ.b b else if k = 1001 then ρ.b b2 else k) = k
  rw [if_neg (by omega), if_neg (by omega)]⟩
theorem sm_a {b b2 : Nat} (hG : GR P ρ (Dm E g.nx) g.h.get w) (hb : g.h.get b = some (cA K)) : GR P (smR ρ b b2) (Dm N0 1001) (hS K 0 B).get w := by
  refine ⟨fun q o hq => ?_, fun q o hq => ?_, fun q q' o o' hq hq' e => ?_⟩
  · rw [hS0] at hq
    split at hq
    · rename_i e; subst e; exact ⟨.inl (by omega), by omega⟩
    · cases hq
  · rw [hS0] at hq
    split at hq
    · rename_i e
      subst e
      injection hq with hq
      subst hq
      obtain ⟨r, hr, ho⟩ := hG.at_ b _ hb
      exact ⟨r, hr, cA_conv ho⟩
    · cases hq
  · rw [hS0] at hq hq'
    split at hq
    · split at hq'
      · rename_i e1 e2; rw [e1, e2]
      · cases hq'
    · cases hq
theorem sm_b {b b2 : Nat} (ha : 0 < a) (hG : GR P ρ (Dm E g.nx) g.h.get w) (hb : g.h.get b = some (cB K a b2)) (hb2 : g.h.get b2 = some (cR K a B)) : GR P (smR ρ b b2) (Dm N0 1002) (hS K a B).get w := by
  have hne : b2 ≠ b := fun e => by subst e; rw [hb] at hb2; unfold cB cR at hb2; cases hb2
  refine ⟨fun q o hq => ?_, fun q o hq => ?_, fun q q' o o' hq hq' e => ?_⟩
  · rw [hS1 K B q ha] at hq
    split at hq
    · rename_i e; subst e; exact ⟨.inl (by omega), by omega⟩
    · split at hq
      · rename_i e; subst e; exact ⟨.inl (by omega), by omega⟩
      · cases hq
  · rw [hS1 K B q ha] at hq
    split at hq
    · rename_i e
      subst e
      injection hq with hq
      subst hq
      obtain ⟨r, hr, ho⟩ := hG.at_ b _ hb
      exact ⟨r, hr, cB_conv ho (by simp [smR]) (by simp [smR]) (.inl (by omega))⟩
    · split at hq
      · rename_i e
        subst e
        injection hq with hq
        subst hq
        obtain ⟨r, hr, ho⟩ := hG.at_ b2 _ hb2
        exact ⟨r, hr, cR_conv ho (by simp [smR])⟩
      · cases hq
  · rw [hS1 K B q ha] at hq
    rw [hS1 K B q' ha] at hq'
    have e1 : (smR ρ b b2).b 1000 = ρ.b b := by simp [smR]
    have e2 : (smR ρ b b2).b 1001 = ρ.b b2 := by simp [smR]
    split at hq
    · rename_i h1
      subst h1
      split at hq'
      · rename_i h2; rw [h2]
      · split at hq'
        · rename_i h2
          subst h2
          rw [e1, e2] at e
          exact absurd (hG.inj _ _ _ _ hb hb2 e).symm hne
        · cases hq'
    · split at hq
      · rename_i h1
        subst h1
        split at hq'
        · rename_i h2
          subst h2
          rw [e1, e2] at e
          exact absurd (hG.inj _ _ _ _ hb2 hb e) hne
        · split at hq'
          · rename_i h2; rw [h2]
          · cases hq'
      · cases hq
/-- nothing before, nothing behind -/
theorem grow_aa {b : Nat} (hL : LCd P K f vs 0 B 0 B1 x1) (hG : GR P ρ (Dm E g.nx) g.h.get w) (hb : g.h.get b = some (cA K)) :
    Calls P f (.pointer (some ⟨ρ.b b, 0, none⟩) :: vs).toArray w fun e w' => e = .returned x1 ∧ Eff P E ρ g w ρ (g.set b (some (cA K))) w' := by
  have hp : VR (smR ρ b 0) (Dm N0 1001) (.ptr 1000 0) (.pointer (some ⟨ρ.b b, 0, none⟩)) := .ptr 1000 0 (.inl (by omega))
  refine (hL (smR ρ b 0) w _ (smR_gl ρ b 0 1001 (by omega)) hp (sm_a hG hb)).mono ?_
  rintro e w' ⟨ρ', rfl, hgr, hfr, h0⟩
  refine ⟨rfl, graft0 hG hb rfl hfr.os hfr.tape hfr.output hfr.size (fun i hi hne => hfr.keep i hi fun q o hq hfx => ?_) ?_⟩
  · rw [hS0] at hq
    split at hq
    · rename_i e; subst e; exact fun h => hne h.symm
    · cases hq
  · obtain ⟨r, hr, ho⟩ := hgr.at_ 1000 (cA K) (by rw [hS0, if_pos rfl])
    rw [h0] at hr
    exact ⟨r, hr, cA_conv ho⟩
theorem grow_to {b : Nat} {d : Option Nat} {o0 : AObj} {ρ0 ρ' : Rn} {H0 : Nat → Option AObj} (ha1 : 0 < a1) (hG : GR P ρ (Dm E g.nx) g.h.get w) (hb : g.h.get b = some o0) (hfx0 : o0.fixed = false) (hd : ∀ q, d = some q → (∃ o, g.h.get q = some o ∧ o.fixed = false) ∧ q ≠ b) (hn : g.nx < 16000000) (hE : ∀ b, E b → g.nx + 1 ≤ b)
    (hgr : GR P ρ' (Dm N0 (nxW a1)) (hS K a1 B1).get w') (hfr : Fram ρ0 H0 w ρ' (hS K a1 B1).get w') (h0 : ρ'.b 1000 = ρ.b b) (hH : ∀ q o, H0 q = some o → ρ0.b q = ρ.b b ∨ ∃ k, d = some k ∧ ρ0.b q = ρ.b k) :
    Eff P E ρ g w (ρ.set g.nx (ρ'.b 1001) (ρ'.c 1001)) { g with h := (dropO d (g.h.put b (some (cB K a1 g.nx)))).put g.nx (some (cR K a1 B1)), nx := g.nx + 1 } w' := by
  have g0 : (hS K a1 B1).get 1000 = some (cB K a1 1001) := by rw [hS1 K B1 _ ha1, if_pos rfl]
  have g1 : (hS K a1 B1).get 1001 = some (cR K a1 B1) := by rw [hS1 K B1 _ ha1, if_neg (by omega), if_pos rfl]
  obtain ⟨r0, hr0, ho0⟩ := hgr.at_ 1000 _ g0
  obtain ⟨r1, hr1, ho1⟩ := hgr.at_ 1001 _ g1
  refine graft hG hb hd hfx0 hn hE hfr.os hfr.tape hfr.output hfr.size (fun i hi hne hne2 => hfr.keep i hi fun q o hq _ e => ?_) ?_ ⟨r0, by rw [← h0]; exact hr0, cB_conv ho0 (Rn.set_b _ _ _ _) (Rn.set_c _ _ _ _) (.inl (Nat.lt_succ_self _))⟩ ⟨r1, hr1, cR_conv ho1 (Rn.set_c _ _ _ _)⟩
  · rcases hH q o hq with h | ⟨k, hk, h⟩
    · exact hne (by rw [← h]; exact e.symm)
    · exact hne2 k hk (by rw [← h]; exact e.symm)
  · rcases hfr.own 1001 _ g1 rfl with h | ⟨q, o, hq, _, h⟩
    · exact .inl h
    · rcases hH q o hq with h2 | ⟨k, hk, h2⟩
      · have : ρ'.b 1001 = ρ'.b 1000 := by rw [← h, h2, h0]
        have := hgr.inj 1001 1000 _ _ g1 g0 this
        omega
      · exact .inr ⟨k, hk, by rw [← h, h2]⟩
theorem grow_ab {b : Nat} (hL : LCd P K f vs 0 B a1 B1 x1) (ha1 : 0 < a1) (hG : GR P ρ (Dm E g.nx) g.h.get w) (hb : g.h.get b = some (cA K)) (hn : g.nx < 16000000) (hE : ∀ b, E b → g.nx + 1 ≤ b) :
    Calls P f (.pointer (some ⟨ρ.b b, 0, none⟩) :: vs).toArray w fun e w' => e = .returned x1 ∧ ∃ ρ', Eff P E ρ g w ρ' { g with h := (g.h.put b (some (cB K a1 g.nx))).put g.nx (some (cR K a1 B1)), nx := g.nx + 1 } w' := by
  have hp : VR (smR ρ b 0) (Dm N0 1001) (.ptr 1000 0) (.pointer (some ⟨ρ.b b, 0, none⟩)) := .ptr 1000 0 (.inl (by omega))
  refine (hL (smR ρ b 0) w _ (smR_gl ρ b 0 1001 (by omega)) hp (sm_a hG hb)).mono ?_
  rintro e w' ⟨ρ', rfl, hgr, hfr, h0⟩
  refine ⟨rfl, _, grow_to (d := none) ha1 hG hb rfl (fun q h => by cases h) hn hE hgr hfr h0 fun q o hq => ?_⟩
  rw [hS0] at hq
  split at hq
  · rename_i e; subst e; exact .inl rfl
  · cases hq
theorem grow_bb {b b2 : Nat} (hL : LCd P K f vs a B a1 B1 x1) (ha : 0 < a) (ha1 : 0 < a1) (hG : GR P ρ (Dm E g.nx) g.h.get w) (hb : g.h.get b = some (cB K a b2)) (hb2 : g.h.get b2 = some (cR K a B)) (hn : g.nx < 16000000) (hE : ∀ b, E b → g.nx + 1 ≤ b) :
    Calls P f (.pointer (some ⟨ρ.b b, 0, none⟩) :: vs).toArray w fun e w' => e = .returned x1 ∧ ∃ ρ', Eff P E ρ g w ρ' { g with h := ((g.h.put b (some (cB K a1 g.nx))).put b2 none).put g.nx (some (cR K a1 B1)), nx := g.nx + 1 } w' := by
  have hp : VR (smR ρ b b2) (Dm N0 1002) (.ptr 1000 0) (.pointer (some ⟨ρ.b b, 0, none⟩)) := .ptr 1000 0 (.inl (by omega))
  have hne : b2 ≠ b := fun e => by subst e; rw [hb] at hb2; unfold cB cR at hb2; cases hb2
  have hL' := hL (smR ρ b b2) w (.pointer (some ⟨ρ.b b, 0, none⟩))
  rw [nxW1 ha] at hL'
  refine (hL' (smR_gl ρ b b2 1002 (by omega)) hp (sm_b ha hG hb hb2)).mono ?_
  rintro e w' ⟨ρ', rfl, hgr, hfr, h0⟩
  refine ⟨rfl, _, grow_to (d := some b2) ha1 hG hb rfl (fun q h => by injection h with h; subst h; exact ⟨⟨_, hb2, rfl⟩, hne⟩) hn hE hgr hfr h0 fun q o hq => ?_⟩
  rw [hS1 K B q ha] at hq
  split at hq
  · rename_i e; subst e; exact .inl rfl
  · split at hq
    · rename_i e; subst e; exact .inr ⟨b2, rfl, rfl⟩
    · cases hq
end
end Go.Proofs.Yticfagianocfiaa.SX

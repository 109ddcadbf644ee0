import Derived.Test.YtkclgbccnbiojaaGreatDoorSx6
import Derived.Deep.LoopGhost
import Derived.KernelRfl
set_option linter.unusedVariables false
set_option linter.unusedSimpArgs false
namespace Go.Proofs.YtkclgbccnbiojaaGreatDoor.SX
/-- blocks that stand in a family, not in the tree -/
def N0 : Nat → Prop := fun b => 16000000 ≤ b
/-- a frame's numbers: all unknown but these -/
noncomputable def lookF (l : List (Nat × AV)) (t : Nat) : AV := List.rec (motive := fun _ => AV) .bad (fun p _ ih => Bool.rec (motive := fun _ => AV) ih p.2 (p.1.beq t)) l
noncomputable def mkEnvF (l : List (Nat × AV)) (n : Nat) : Tr AV := Nat.rec (motive := fun _ => Tr AV) .e (fun t ih => ih.put t (some (lookF l t))) n
noncomputable def mkEnv (n : Nat) (l : List (Nat × AV)) : Tr AV := mkEnvF l n
noncomputable def mkT (l : List (Nat × Option AObj)) : Tr AObj := List.rec (motive := fun _ => Tr AObj) .e (fun p _ ih => ih.put p.1 p.2) l
noncomputable def mkH (l : List (Nat × Option AObj)) : Mem := ⟨mkT l, fun _ => none⟩
/-- a block's new number: old, new, is it turned to numbers -/
structure Mv where
  o : Nat
  n : Nat
  cv : Bool
noncomputable def mvTo (m : List Mv) (b : Nat) : Option Mv := List.rec (motive := fun _ => Option Mv) none (fun p _ ih => Bool.rec (motive := fun _ => Option Mv) ih (some p) (p.o.beq b)) m
noncomputable def mvOf (m : List Mv) (b : Nat) : Option Mv := List.rec (motive := fun _ => Option Mv) none (fun p _ ih => Bool.rec (motive := fun _ => Option Mv) ih (some p) (p.n.beq b)) m
noncomputable def onMv (m : List Mv) (b : Nat) (f : Mv → AV) : AV := Option.rec (motive := fun _ => AV) .bad f (mvTo m b)
noncomputable def wkV (m : List Mv) (v : AV) : AV := match v with
  | .und => .und
  | .bool s b => .bool s b
  | .int s k n => .int s k n
  | .str s b => .str s b
  | .nilp => .nilp
  | .nils => .nils
  | .nilm => .nilm
  | .nilf => .nilf
  | .nili => .nili
  | .ptr b o => onMv m b fun p => .ptr p.n o
  | .rptr b sz i j => onMv m b fun p => .rptr p.n sz i j
  | .sl s b o n c => onMv m b fun p => .sl (s || p.cv) p.n o n c
  | .mp b => onMv m b fun p => .mp p.n
  | .osl b n => onMv m b fun p => .osl p.n n
  | .optr b sz i j => onMv m b fun p => .optr p.n sz i j
  | .unk => .unk
  | _ => .bad
noncomputable def wkO (m : List Mv) (cv : Bool) (o : AObj) : Option AObj := match o with
  | .cells e cs gr => (match cv with
    | true => (match intsOf .u8 cs with
      | some l => some (.nums e .u8 l gr)
      | none => (match gr with
        | true => some (.grows e cs.length 1 fun _ => cs.map (wkV m))
        | false => none))
    | false => some (.cells e (cs.map (wkV m)) gr))
  | .nums e k xs gr => some (.nums e k xs gr)
  | .rows e sz n f => some (.rows e sz n fun i => (f i).map (wkV m))
  | .grows e sz n f => some (.grows e sz n fun i => (f i).map (wkV m))
  | .map _ => none
noncomputable def wkP (m : List Mv) (H : Mem) (p : Mv) : Nat × Option AObj := (p.n, Option.rec (motive := fun _ => Option AObj) none (fun o => wkO m p.cv o) (H.get p.o))
noncomputable def wkS (n : Nat) (ks : List Nat) (m : List Mv) (nx : Nat) (st : St) : St :=
  ⟨mkEnv n (ks.map fun k => (k, wkV m (evT st.env k))), ⟨⟨mkT (m.map (wkP m st.g.h)), st.g.h.v⟩, nx, st.g.pc, st.g.ch⟩, [], .no, []⟩
noncomputable def noD (l : List (AV × List AV)) : Bool := match l with | [] => true | _ => false
noncomputable def wkX (n : Nat) (ks : List Nat) (m : List Mv) (nx : Nat) (r : X) : X := match r with
  | some (e, st) => (match noD st.df && st.g.nx.ble 16000000 with | true => some (e, wkS n ks m nx st) | false => none)
  | none => none
noncomputable def nodupN (l : List Nat) : Bool := match l with
  | [] => true
  | a :: r => r.all (fun b => !(a.beq b)) && nodupN r
noncomputable def okM (m : List Mv) (nx : Nat) : Bool := m.all (fun p => p.o.blt 16000000 && p.n.blt nx && (((1000).ble p.o && (1000).ble p.n) || p.o.beq p.n)) && nodupN (m.map (·.o)) && nodupN (m.map (·.n)) && (1000).ble nx && nx.blt 16000000
theorem lookF_cons (p : Nat × AV) (l : List (Nat × AV)) (t : Nat) : lookF (p :: l) t = if p.1 = t then p.2 else lookF l t := by
  show Bool.rec (motive := fun _ => AV) (lookF l t) p.2 (p.1.beq t) = _
  by_cases h : p.1 = t
  · rw [if_pos h, beq_t h]
  · rw [if_neg h, beq_f h]
theorem mkEnv_get (l : List (Nat × AV)) : ∀ n, n ≤ 16000000 → ∀ t, (mkEnv n l).get t = if t < n then some (lookF l t) else none := by
  intro n
  induction n with
  | zero => intro _ t; rw [if_neg (by omega)]; exact get_e t
  | succ n ih =>
    intro hn t
    show ((mkEnv n l).put n (some (lookF l n))).get t = _
    rw [get_put _ _ _ _ (by omega)]
    by_cases h : t = n
    · subst h; rw [if_pos rfl, if_pos (by omega)]
    · rw [if_neg h, ih (by omega)]
      by_cases h2 : t < n
      · rw [if_pos h2, if_pos (by omega)]
      · rw [if_neg h2, if_neg (by omega)]
theorem mvTo_some {m : List Mv} {b : Nat} {p : Mv} (h : mvTo m b = some p) : p ∈ m ∧ p.o = b := by
  induction m with
  | nil => cases h
  | cons q r ih =>
    have e : mvTo (q :: r) b = Bool.rec (motive := fun _ => Option Mv) (mvTo r b) (some q) (q.o.beq b) := rfl
    rw [e] at h
    cases hb : q.o.beq b with
    | true => rw [hb] at h; injection h with h; subst h; exact ⟨List.mem_cons_self .., beq_iff.1 hb⟩
    | false => rw [hb] at h; obtain ⟨h1, h2⟩ := ih h; exact ⟨List.mem_cons_of_mem _ h1, h2⟩
theorem mvOf_some {m : List Mv} {b : Nat} {p : Mv} (h : mvOf m b = some p) : p ∈ m ∧ p.n = b := by
  induction m with
  | nil => cases h
  | cons q r ih =>
    have e : mvOf (q :: r) b = Bool.rec (motive := fun _ => Option Mv) (mvOf r b) (some q) (q.n.beq b) := rfl
    rw [e] at h
    cases hb : q.n.beq b with
    | true => rw [hb] at h; injection h with h; subst h; exact ⟨List.mem_cons_self .., beq_iff.1 hb⟩
    | false => rw [hb] at h; obtain ⟨h1, h2⟩ := ih h; exact ⟨List.mem_cons_of_mem _ h1, h2⟩
theorem mvOf_mem {m : List Mv} (hn : nodupN (m.map (·.n)) = true) {p : Mv} (h : p ∈ m) : mvOf m p.n = some p := by
  induction m with
  | nil => cases h
  | cons q r ih =>
    have e : ∀ b, mvOf (q :: r) b = Bool.rec (motive := fun _ => Option Mv) (mvOf r b) (some q) (q.n.beq b) := fun _ => rfl
    have hn' : (r.map (·.n)).all (fun b => !(q.n.beq b)) = true ∧ nodupN (r.map (·.n)) = true := by rw [← Bool.and_eq_true]; exact hn
    rw [e]
    rcases List.mem_cons.1 h with rfl | h
    · rw [Nat.beq_refl]
    · have h1 := List.all_eq_true.1 hn'.1 p.n (List.mem_map_of_mem h)
      have : q.n.beq p.n = false := by simpa using h1
      rw [this]
      exact ih hn'.2 h
theorem nodupN_inj {m : List Mv} (hn : nodupN (m.map (·.o)) = true) {p q : Mv} (hp : p ∈ m) (hq : q ∈ m) (h : p.o = q.o) : p = q := by
  induction m with
  | nil => cases hp
  | cons x r ih =>
    have hn' : (r.map (·.o)).all (fun b => !(x.o.beq b)) = true ∧ nodupN (r.map (·.o)) = true := by rw [← Bool.and_eq_true]; exact hn
    have no : ∀ y ∈ r, x.o ≠ y.o := fun y hy e => by
      have h1 := List.all_eq_true.1 hn'.1 y.o (List.mem_map_of_mem hy)
      rw [e, Nat.beq_refl] at h1
      cases h1
    rcases List.mem_cons.1 hp with e1 | hp
    · rcases List.mem_cons.1 hq with e2 | hq
      · rw [e1, e2]
      · exact absurd (by rw [← e1, h]) (no q hq)
    · rcases List.mem_cons.1 hq with e2 | hq
      · exact absurd (by rw [← e2, h]) (no p hp)
      · exact ih hn'.2 hp hq
noncomputable def wkR (m : List Mv) (ρ : Rn) : Rn := ⟨fun b => match mvOf m b with | some p => ρ.b p.o | none => ρ.b b, fun b => match mvOf m b with | some p => ρ.c p.o | none => ρ.c b⟩
section
variable {P : Program} {T : Tab} {ρ : Rn} {m : List Mv} {nx nx' : Nat}
structure OkM (m : List Mv) (nx : Nat) : Prop where
  at_ : ∀ p ∈ m, (p.o < 16000000) ∧ ((1000 ≤ p.o ∧ 1000 ≤ p.n) ∨ p.o = p.n) ∧ p.n < nx
  o : nodupN (m.map (·.o)) = true
  n : nodupN (m.map (·.n)) = true
  lo : 1000 ≤ nx
  hi : nx < 16000000
theorem okM_ok (h : okM m nx = true) : OkM m nx := by
  unfold okM at h
  simp only [Bool.and_eq_true, List.all_eq_true, ble_iff, blt_iff, Bool.or_eq_true, beq_iff] at h
  obtain ⟨⟨⟨⟨h1, h2⟩, h3⟩, h4⟩, h5⟩ := h
  exact ⟨fun p hp => ⟨(h1 p hp).1.1, (h1 p hp).2, (h1 p hp).1.2⟩, h2, h3, h4, h5⟩
theorem wkR_n (h : OkM m nx) {p : Mv} (hp : p ∈ m) : (wkR m ρ).b p.n = ρ.b p.o ∧ (wkR m ρ).c p.n = ρ.c p.o := by
  simp only [wkR, mvOf_mem h.n hp, and_self]
theorem onMv_ok (h : OkM m nx) {D : Nat → Prop} {b : Nat} {f : Mv → AV} {x : Value} (hf : ∀ p ∈ m, p.o = b → VR (wkR m ρ) (Dm N0 nx) (f p) x) : VR (wkR m ρ) (Dm N0 nx) (onMv m b f) x := by
  unfold onMv
  cases hb : mvTo m b with
  | none => exact .bad _
  | some p => obtain ⟨h1, h2⟩ := mvTo_some hb; exact hf p h1 h2
theorem wkV_ok (h : OkM m nx) {D : Nat → Prop} {v : AV} {x : Value} (hv : VR ρ D v x) : VR (wkR m ρ) (Dm N0 nx) (wkV m v) x := by
  cases hv with
  | bad x => exact .bad x
  | und => exact .und
  | bool s b => exact .bool s b
  | int s k n => exact .int s k n
  | str s b => exact .str s b
  | nilp => exact .nilp
  | nils => exact .nils
  | nilm => exact .nilm
  | nilf => exact .nilf
  | nili => exact .nili
  | ptr b o hd =>
    exact onMv_ok (D := D) h fun p hp hb => by
      have e := (wkR_n (ρ := ρ) h hp).1
      rw [hb] at e
      rw [← e]; exact .ptr _ _ (.inl (h.at_ p hp).2.2)
  | rptr b sz i j hd =>
    exact onMv_ok (D := D) h fun p hp hb => by
      have e := (wkR_n (ρ := ρ) h hp).1
      rw [hb] at e
      rw [← e]; exact .rptr _ _ _ _ (.inl (h.at_ p hp).2.2)
  | slk s b o n c hd hn =>
    exact onMv_ok (D := D) h fun p hp hb => by
      have e := (wkR_n (ρ := ρ) h hp).1
      rw [hb] at e
      rw [← e]; exact .slk _ _ _ _ _ (.inl (h.at_ p hp).2.2) hn
  | slu s b o n k hd hn =>
    exact onMv_ok (D := D) h fun p hp hb => by
      obtain ⟨e, e2⟩ := wkR_n (ρ := ρ) h hp
      rw [hb] at e e2
      rw [← e, ← e2]; exact .slu _ _ _ _ _ (.inl (h.at_ p hp).2.2) (by rw [e2]; exact hn)
  | mp b hd =>
    exact onMv_ok (D := D) h fun p hp hb => by
      have e := (wkR_n (ρ := ρ) h hp).1
      rw [hb] at e
      rw [← e]; exact .mp _ (.inl (h.at_ p hp).2.2)
  | fn => exact .bad _
  | ifc => exact .bad _
  | agg => exact .bad _
  | tup => exact .bad _
  | osl b n as c hd ha =>
    exact onMv_ok (D := D) h fun p hp hb => by
      obtain ⟨e, e2⟩ := wkR_n (ρ := ρ) h hp
      rw [hb] at e e2
      exact .osl _ _ _ _ (.inl (h.at_ p hp).2.2) (fun hn => by rw [ha hn, e, e2])
  | optr b sz i j hd =>
    exact onMv_ok (D := D) h fun p hp hb => by
      obtain ⟨e, e2⟩ := wkR_n (ρ := ρ) h hp
      rw [hb] at e e2
      rw [← e, ← e2]; exact .optr _ _ _ _ (.inl (h.at_ p hp).2.2)
  | unk x h => exact .unk x h
theorem wkO_ok (h : OkM m nx) {D : Nat → Prop} {p : Mv} (hp : p ∈ m) {o o' : AObj} {r : Obj} (ho : OR P ρ D p.o o r) (hw : wkO m p.cv o = some o') : OR P (wkR m ρ) (Dm N0 nx) p.n o' r := by
  have hc := (wkR_n (ρ := ρ) h hp).2
  cases ho with
  | cells e cs gr arr fz hR ho hr =>
    cases hcv : p.cv with
    | false =>
      rw [hcv] at hw
      injection hw with hw
      subst hw
      refine .cells e _ gr arr fz (fun i x hx => ?_) ho ⟨by simpa using hr.1, by simpa using hr.2.1, fun hg => by rw [hc]; exact hr.2.2 hg⟩
      rw [List.getElem?_map] at hx
      cases hi : cs[i]? with
      | none => rw [hi] at hx; cases hx
      | some y =>
        rw [hi] at hx
        injection hx with hx
        subst hx
        obtain ⟨a, ha, hv⟩ := hR i y hi
        exact ⟨a, ha, wkV_ok h hv⟩
    | true =>
      rw [hcv] at hw
      have hmap : ReadL (wkR m ρ) (Dm N0 nx) (cs.map (wkV m)) arr := by
        intro i x hx
        rw [List.getElem?_map] at hx
        cases hi : cs[i]? with
        | none => rw [hi] at hx; cases hx
        | some y =>
          rw [hi] at hx
          injection hx with hx
          subst hx
          obtain ⟨a, ha, hv⟩ := hR i y hi
          exact ⟨a, ha, wkV_ok h hv⟩
      cases hl : intsOf .u8 cs with
      | none =>
        cases gr with
        | false => unfold wkO at hw; simp only [hl] at hw; cases hw
        | true =>
          unfold wkO at hw
          simp only [hl] at hw
          injection hw with hw
          subst hw
          exact .grows e cs.length 1 _ arr fz (fun i hi => by simp) (by show ReadL _ _ ([] ++ cs.map (wkV m)) arr; rw [List.nil_append]; exact hmap) ho ⟨by rw [Nat.one_mul]; exact hr.1, fun hh => (by cases hh), fun hg => by rw [hc]; exact hr.2.2 hg⟩
      | some l =>
        unfold wkO at hw
        simp only [hl] at hw
        injection hw with hw
        subst hw
        have hL : LR ρ D cs (arr.toList.take cs.length) := by
          refine ⟨by have := hr.1; simp; omega, fun i x a hx ha => ?_⟩
          rw [List.getElem?_take] at ha
          split at ha
          · obtain ⟨a', ha', hv⟩ := hR i x hx
            have : arr[i]? = some a := by simpa using ha
            rw [this] at ha'
            injection ha' with ha'
            subst ha'
            exact hv
          · cases ha
        have hi := intsOf_ok hL hl
        have hlen : l.length = cs.length := by
          have h1 := congrArg List.length hi
          rw [← hL.1, List.length_map] at h1
          exact h1.symm
        refine .nums e .u8 l gr arr fz (fun i x hx => ?_) ho ⟨by rw [hlen]; exact hr.1, by rw [hlen]; exact hr.2.1, fun hg => by rw [hc]; exact hr.2.2 hg⟩
        rw [List.getElem?_map] at hx
        cases hn : l[i]? with
        | none => rw [hn] at hx; cases hx
        | some n =>
          rw [hn] at hx
          injection hx with hx
          subst hx
          have h2 : (arr.toList.take cs.length)[i]? = some (Value.int .u8 n) := by rw [hi, List.getElem?_map, hn]; rfl
          rw [List.getElem?_take] at h2
          split at h2
          · exact ⟨_, by simpa using h2, .int _ _ _⟩
          · cases h2
  | nums e k xs gr arr fz hR ho hr =>
    injection hw with hw
    subst hw
    exact .nums e k xs gr arr fz (fun i x hx => by
      obtain ⟨a, ha, hv⟩ := hR i x hx
      refine ⟨a, ha, ?_⟩
      rw [List.getElem?_map] at hx
      cases hi : xs[i]? with
      | none => rw [hi] at hx; cases hx
      | some y =>
        rw [hi] at hx
        injection hx with hx
        subst hx
        cases hv
        exact .int _ _ _) ho ⟨hr.1, hr.2.1, fun hg => by rw [hc]; exact hr.2.2 hg⟩
  | rows e e2 sz n f arr fz hl hR =>
    injection hw with hw
    subst hw
    refine .rows e e2 sz n _ arr fz (fun i hi => by rw [List.length_map]; exact hl i hi) (fun i j x hi hx => ?_)
    rw [List.getElem?_map] at hx
    cases hj : (f i)[j]? with
    | none => rw [hj] at hx; cases hx
    | some y =>
      rw [hj] at hx
      injection hx with hx
      subst hx
      obtain ⟨a, ha, hv⟩ := hR i j y hi hj
      exact ⟨a, by rw [hc]; exact ha, wkV_ok h hv⟩
  | grows e sz n f arr fz hl hR ho hr =>
    injection hw with hw
    subst hw
    have hfm : ∀ k, flat (fun i => (f i).map (wkV m)) k = (flat f k).map (wkV m) := by
      intro k
      induction k with
      | zero => rfl
      | succ k ih => rw [flat, flat, ih, List.map_append]
    refine .grows e sz n _ arr fz (fun i hi => by rw [List.length_map]; exact hl i hi) (fun i x hx => ?_) ho ⟨hr.1, hr.2.1, fun hg => by rw [hc]; exact hr.2.2 hg⟩
    rw [hfm, List.getElem?_map] at hx
    cases hj : (flat f n)[i]? with
    | none => rw [hj] at hx; cases hx
    | some y =>
      rw [hj] at hx
      injection hx with hx
      subst hx
      obtain ⟨a, ha, hv⟩ := hR i y hj
      exact ⟨a, ha, wkV_ok h hv⟩
  | map => cases hw
theorem mkT_get {H : Mem} {M : List Mv} : ∀ m : List Mv, (∀ p ∈ m, p.n < 16000000) → ∀ b, (mkT (m.map (wkP M H))).get b = match mvOf m b with | some p => (wkP M H p).2 | none => none := by
  intro m
  induction m with
  | nil => intro _ b; exact get_e b
  | cons q r ih =>
    intro hm b
    show ((mkT (r.map (wkP M H))).put q.n (wkP M H q).2).get b = _
    have e : mvOf (q :: r) b = Bool.rec (motive := fun _ => Option Mv) (mvOf r b) (some q) (q.n.beq b) := rfl
    rw [get_put _ _ _ _ (hm q (List.mem_cons_self ..)), e, ih (fun p hp => hm p (List.mem_cons_of_mem _ hp)) b]
    by_cases h : b = q.n
    · rw [if_pos h, beq_t h.symm]
    · rw [if_neg h, beq_f (fun e => h e.symm)]
/-- what stands in a frame and in the memory: F: blocks that are where they were -/
def SL (P : Program) (N : Nat) (F : List Nat) (ρ0 : Rn) (H0 : Nat → Option AObj) (w0 : World) (st : St) (a : Act) (w : World) : Prop :=
  ∃ ρ, EnvR ρ (Dm N0 st.g.nx) st.env a N ∧ Gl ρ st.g.nx ∧ GR P ρ (Dm N0 st.g.nx) st.g.h.get w ∧ Fram ρ0 H0 w0 ρ st.g.h.get w ∧ (∀ b ∈ F, b < st.g.nx ∧ ρ.b b = ρ0.b b) ∧ a.defers = []
def ExS : Ex → Exit → Prop
  | .normal, .normal => True
  | .exit i, .exit j => i = j
  | .ret, .ret => True
  | _, _ => False
noncomputable def keepF (F : List Nat) (m : List Mv) (nx : Nat) : Bool := F.all fun b => (match mvOf m b with | some p => p.o.beq b | none => false)
/-- what hangs on no block but the program's variables and the families' -/
def Far (b : Nat) : Prop := b < 1000 ∨ 16000000 ≤ b
def FarO (P : Program) (o : AObj) : Prop := ∀ (ρ ρ' : Rn) (D D' : Nat → Prop) (b : Nat) (r : Obj), (∀ q, Far q → D q → D' q ∧ ρ'.b q = ρ.b q ∧ ρ'.c q = ρ.c q) → ρ'.c b = ρ.c b → OR P ρ D b o r → OR P ρ' D' b o r
def FamOk (P : Program) (v : Nat → Option AObj) : Prop := ∀ k o, 16000000 ≤ k → v k = some o → FarO P o
theorem FamOk.none : FamOk P (fun _ => Option.none) := fun k o _ h => by cases h
theorem wkS_ok (h : okM m nx = true) {N : Nat} {F : List Nat} (hF : keepF F m nx = true) {ρ0 : Rn} {H0 : Nat → Option AObj} {w0 : World} {st : St} {a : Act} {w : World} {ks : List Nat} (hfam : FamOk P st.g.h.v) (hs : SL P N F ρ0 H0 w0 st a w) : SL P N F ρ0 H0 w0 (wkS N ks m nx st) a w := by
  have hk := okM_ok h
  obtain ⟨ρ, he, hg, hr, hf, hfx, hd⟩ := hs
  have get : ∀ b, (wkS N ks m nx st).g.h.get b = if b < 16000000 then (match mvOf m b with | some p => (wkP m st.g.h p).2 | none => none) else st.g.h.v b := fun b => by
    rw [Mem.get_eq]
    show (if b < 16000000 then (mkT (m.map (wkP m st.g.h))).get b else st.g.h.v b) = _
    rw [mkT_get m fun p hp => Nat.lt_trans (hk.at_ p hp).2.2 hk.hi]
  have back : ∀ b o, (wkS N ks m nx st).g.h.get b = some o → (b < 16000000 ∧ ∃ p ∈ m, p.n = b ∧ ∃ o1, st.g.h.get p.o = some o1 ∧ wkO m p.cv o1 = some o) ∨ (16000000 ≤ b ∧ st.g.h.get b = some o ∧ FarO P o) := by
    intro b o hb
    rw [get] at hb
    by_cases hlt : b < 16000000
    · rw [if_pos hlt] at hb
      refine .inl ⟨hlt, ?_⟩
      cases hm : mvOf m b with
      | none => rw [hm] at hb; cases hb
      | some p =>
        rw [hm] at hb
        obtain ⟨h1, h2⟩ := mvOf_some hm
        have hb' : (Option.rec (motive := fun _ => Option AObj) none (fun o => wkO m p.cv o) (st.g.h.get p.o)) = some o := hb
        cases ho : st.g.h.get p.o with
        | none => rw [ho] at hb'; cases hb'
        | some o1 => rw [ho] at hb'; exact ⟨p, h1, h2, o1, ho, hb'⟩
    · rw [if_neg hlt] at hb
      exact .inr ⟨by omega, by rw [Mem.get_eq, if_neg hlt]; exact hb, hfam b o (by omega) hb⟩
  have far : ∀ q, Far q → (wkR m ρ).b q = ρ.b q ∧ (wkR m ρ).c q = ρ.c q := by
    intro q hq
    unfold wkR
    cases hm : mvOf m q with
    | none => simp [hm]
    | some p =>
      obtain ⟨h1, h2⟩ := mvOf_some hm
      have h3 := hk.at_ p h1
      have h4 := hk.hi
      have : p.o = q := by rcases hq with hq | hq <;> omega
      simp [hm, this]
  have farD : ∀ q, Far q → Dm N0 st.g.nx q → Dm N0 nx q ∧ (wkR m ρ).b q = ρ.b q ∧ (wkR m ρ).c q = ρ.c q := fun q hq _ => ⟨by
    rcases hq with hq | hq
    · exact .inl (Nat.lt_of_lt_of_le hq hk.lo)
    · exact .inr hq, far q hq⟩
  have hhi := hk.hi
  have fixO : ∀ (p : Mv) (o1 o : AObj), wkO m p.cv o1 = some o → o.fixed = o1.fixed := by
    intro p o1 o h2
    cases o1 with
    | rows e sz n f => injection h2 with h2; subst h2; rfl
    | cells e cs gr =>
      unfold wkO at h2
      simp only at h2
      split at h2
      · split at h2
        · injection h2 with h2; subst h2; rfl
        · split at h2
          · injection h2 with h2; subst h2; rfl
          · cases h2
      · injection h2 with h2; subst h2; rfl
    | nums e k xs gr => injection h2 with h2; subst h2; rfl
    | grows e sz n f => injection h2 with h2; subst h2; rfl
    | map es => cases h2
  refine ⟨wkR m ρ, ⟨he.size, he.small, fun t => ?_⟩, ⟨hk.lo, fun g hg2 => ?_, fun g hg2 => ?_⟩, ⟨fun b o hb => ?_, fun b o hb => ?_, fun b b' o o' hb hb' hfi e => ?_⟩, ⟨hf.os, hf.tape, hf.output, hf.size, hf.keep, fun b o hb hfx => ?_, fun b o hb hfx => ?_⟩, fun b hb => ?_, hd⟩
  · rw [evT_eq]
    show VR _ _ (match (mkEnv N _).get t with | some v => v | none => .und) _
    rw [mkEnv_get _ _ (Nat.le_of_lt he.small)]
    by_cases ht : t < N
    · rw [if_pos ht]
      show VR _ _ (lookF _ t) _
      have hv := wkV_ok (nx := nx) hk (he.get t)
      clear get back
      show VR (wkR m ρ) (Dm N0 nx) (lookF (ks.map fun k => (k, wkV m (evT st.env k))) t) _
      induction ks with
      | nil => exact .bad _
      | cons k r ih =>
        rw [List.map_cons, lookF_cons]
        by_cases e : k = t
        · rw [if_pos e]; subst e; exact hv
        · rw [if_neg e]; exact ih
    · rw [if_neg ht]
      have : a.tmps.getD t undef = undef := by
        simp only [Array.getD_eq_getD_getElem?]
        rw [Array.getElem?_eq_none (by rw [he.size]; omega)]; rfl
      rw [this]; exact .und
  · rw [(far g (.inl hg2)).1]; exact hg.at_ g hg2
  · rw [(far g (.inl hg2)).2]; exact hg.c0 g hg2
  · rcases back b o hb with ⟨_, p, hp, rfl, o1, h1, h2⟩ | ⟨hb2, _, _⟩
    · exact ⟨.inl (hk.at_ p hp).2.2, trivial⟩
    · exact ⟨.inr hb2, trivial⟩
  · rcases back b o hb with ⟨_, p, hp, rfl, o1, h1, h2⟩ | ⟨hb2, h1, h2⟩
    · obtain ⟨r, q1, q2⟩ := hr.at_ p.o o1 h1
      exact ⟨r, by rw [(wkR_n hk hp).1]; exact q1, wkO_ok hk hp q2 h2⟩
    · obtain ⟨r, q1, q2⟩ := hr.at_ b o h1
      exact ⟨r, by rw [(far b (.inr hb2)).1]; exact q1, h2 _ _ _ _ _ _ farD (far b (.inr hb2)).2 q2⟩
  · rcases back b o hb with ⟨hlt, p, hp, rfl, o1, h1, h2⟩ | ⟨hb2, h1, h2⟩
    · rcases back b' o' hb' with ⟨_, q, hq, rfl, o2, h3, h4⟩ | ⟨hb3, h3, _⟩
      · rw [(wkR_n hk hp).1, (wkR_n hk hq).1] at e
        have := hr.inj p.o q.o o1 o2 h1 h3 (by rw [← fixO p o1 o h2]; exact hfi) e
        rw [nodupN_inj hk.o hp hq this]
      · rw [(wkR_n hk hp).1, (far b' (.inr hb3)).1] at e
        have := hr.inj p.o b' o1 o' h1 h3 (by rw [← fixO p o1 o h2]; exact hfi) e
        have := (hk.at_ p hp).1
        omega
    · rcases back b' o' hb' with ⟨_, q, hq, rfl, o2, h3, h4⟩ | ⟨hb3, h3, _⟩
      · rw [(far b (.inr hb2)).1, (wkR_n hk hq).1] at e
        have := hr.inj b q.o o o2 h1 h3 hfi e
        have := (hk.at_ q hq).1
        omega
      · rw [(far b (.inr hb2)).1, (far b' (.inr hb3)).1] at e
        exact hr.inj b b' o o' h1 h3 hfi e
  · rcases back b o hb with ⟨_, p, hp, rfl, o1, h1, h2⟩ | ⟨hb2, h1, h2⟩
    · rw [(wkR_n hk hp).1]
      exact hf.own p.o o1 h1 (by rw [← fixO p o1 o h2]; exact hfx)
    · rw [(far b (.inr hb2)).1]
      exact hf.own b o h1 hfx
  · rcases back b o hb with ⟨_, p, hp, rfl, o1, h1, h2⟩ | ⟨hb2, h1, h2⟩
    · rw [(wkR_n hk hp).1]
      exact hf.fix p.o o1 h1 (by rw [← fixO p o1 o h2]; exact hfx)
    · rw [(far b (.inr hb2)).1]
      exact hf.fix b o h1 hfx
  · have h1 := List.all_eq_true.1 hF b hb
    cases hm : mvOf m b with
    | none => rw [hm] at h1; cases h1
    | some p =>
      rw [hm] at h1
      have h2 : p.o = b := beq_iff.1 h1
      obtain ⟨h3, h4⟩ := mvOf_some hm
      refine ⟨by rw [← h4]; exact (hk.at_ p h3).2.2, ?_⟩
      have := (wkR_n (ρ := ρ) hk h3).1
      rw [h4, h2] at this
      rw [this]; exact (hfx b hb).2
/-- a path of a piece of code -/
theorem exec_sl (hT : TabOk P T) (hm : P.follows .mixedOrders = true) {call : CallT} (hc : CallOk P call) {N : Nat} {c : Code} (hw : wf N c = true) {n : Nat} {st st' : St} {e : Ex} {ks : List Nat} (h : wkX N ks m nx (exec c T call n st) = some (e, st')) (hok : okM m nx = true) (hp : ∀ v, e ≠ .pan v) (hpc : st'.g.pc) (hd : st.df = []) (hno : isNo st.pm = true)
    {F : List Nat} (hF : keepF F m nx = true) {ρ0 : Rn} {H0 : Nat → Option AObj} {w0 : World} {a : Act} {w : World} (hfam : FamOk P st'.g.h.v := by exact FamOk.none) (hs : SL P N F ρ0 H0 w0 st a w) : c.wp P (fun x a' w' => ExS e x ∧ SL P N F ρ0 H0 w0 st' a' w') a w := by
  intro b k cs
  cases hr : exec c T call n st with
  | none => rw [hr] at h; cases h
  | some q =>
    obtain ⟨e1, s1⟩ := q
    rw [hr] at h
    have h' : (match noD s1.df && s1.g.nx.ble 16000000 with | true => some (e1, wkS N ks m nx s1) | false => none) = some (e, st') := h
    cases hdd : noD s1.df && s1.g.nx.ble 16000000 with
    | false => rw [hdd] at h'; cases h'
    | true =>
      rw [hdd] at h'
      obtain ⟨hdf, hnx⟩ : noD s1.df = true ∧ s1.g.nx.ble 16000000 = true := by rw [← Bool.and_eq_true]; exact hdd
      rw [ble_iff] at hnx
      injection h' with h'
      obtain ⟨rfl, rfl⟩ := Prod.mk.inj h'
      have hdf' : s1.df = [] := by
        cases hh : s1.df with
        | nil => rfl
        | cons x r => rw [hh] at hdf; cases hdf
      obtain ⟨ρ, he, hg, hgr, hf, hfx, had⟩ := hs
      have hDf : DfR ρ (Dm N0 st.g.nx) st.df a.defers := by rw [hd, had]; exact .nil
      obtain ⟨ρ', a', w', cs', x, hto, hex, harr⟩ := exec_ok (E := N0) hT hc (draw_ok hT hc hm) c hw n ρ st a w b cs k (e1, s1) hr hpc (fun b (hb : 16000000 ≤ b) => Nat.le_trans hnx hb) ⟨he, hg, hDf, .inl hno, hgr⟩
      have hcs : cs' = cs := by
        rcases hto.keep with hh | ⟨hh, _⟩
        · exact hh
        · rw [hno] at hh; cases hh
      subst hcs
      refine ⟨x, a', w', ⟨?_, wkS_ok hok hF hfam ⟨ρ', hto.sr.env, hto.sr.gl, hto.sr.gr, hf.trans hto.eff.fr, fun b hb => ⟨Nat.lt_of_lt_of_le (hfx b hb).1 hto.eff.nx, by rw [(hto.eff.ext b (.inl (hfx b hb).1)).1]; exact (hfx b hb).2⟩, ?_⟩⟩, harr⟩
      · cases e1 with
        | normal => obtain rfl := hex.normal; trivial
        | exit i => cases x <;> first | exact hex | exact hex.elim
        | ret => cases x <;> first | exact hex | exact hex.elim
        | pan v => exact absurd rfl (hp v)
      · have h1 := hto.sr.df
        rw [hdf'] at h1
        generalize a'.defers = z at h1
        cases h1
        rfl
theorem ExS.normal {x : Exit} (h : ExS .normal x) : x = .normal := by cases x <;> first | rfl | exact h.elim
theorem ExS.exit {i : Nat} {x : Exit} (h : ExS (.exit i) x) : x = .exit i := by cases x <;> first | exact h.elim | (obtain rfl : i = _ := h; rfl)
theorem ExS.ret {x : Exit} (h : ExS .ret x) : x = .ret := by cases x <;> first | rfl | exact h.elim
/-- a function's call, out of a walk through its body -/
theorem calls_sl (hT : TabOk P T) {f : FuncId} {fn : Func} {c : Code} {args : List AV} {vs : List Value} {g : G} {w : World} {F : List Nat} {R : St → List AV → Prop} (hf : P.funcs[f]? = some fn) (hb : fn.body = some c) (hl : args.length ≤ fn.ntmps) (hn : fn.ntmps < 16000000)
    (hF : ∀ b ∈ F, b < g.nx) (hg : Gl ρ g.nx) (hL : LR ρ (Dm N0 g.nx) args vs) (hw : GR P ρ (Dm N0 g.nx) g.h.get w)
    (h : ∀ a, SL P fn.ntmps F ρ g.h.get w ⟨argsEnv args 0 .e, g, [], .no, []⟩ a w → c.wp P (fun x a' w' => (x = .normal ∨ x = .ret) ∧ ∃ st' l, SL P fn.ntmps F ρ g.h.get w st' a' w' ∧ st'.g.pc ∧ SX.results T st'.env st'.g fn.results.toList = some l ∧ R st' l) a w) :
    Calls P f vs.toArray w fun e w' => ∃ st' l v ρ', R st' l ∧ e = .returned v ∧ VR ρ' (Dm N0 st'.g.nx) (oneOr l) v ∧ Gl ρ' st'.g.nx ∧ GR P ρ' (Dm N0 st'.g.nx) st'.g.h.get w' ∧ Fram ρ g.h.get w ρ' st'.g.h.get w' ∧ ∀ b ∈ F, b < st'.g.nx ∧ ρ'.b b = ρ.b b := by
  refine calls_of_wp_defers hf hb (wp_mono (h _ ⟨ρ, args_env hL hl hn, hg, hw, .refl _ _ _, fun b hb => ⟨hF b hb, rfl⟩, rfl⟩) ?_)
  rintro x a' w' ⟨hx, st', l, ⟨ρ', he, hg', hgr, hfr, hfx, hd⟩, hpc, hres, hR⟩
  obtain ⟨v, hv, hvr⟩ := results_ok (fn := fn) hT he hpc hgr hres
  have fin : Leaves P fn a'.tmps (fun e w' => ∃ st' l v ρ', R st' l ∧ e = .returned v ∧ VR ρ' (Dm N0 st'.g.nx) (oneOr l) v ∧ Gl ρ' st'.g.nx ∧ GR P ρ' (Dm N0 st'.g.nx) st'.g.h.get w' ∧ Fram ρ g.h.get w ρ' st'.g.h.get w' ∧ ∀ b ∈ F, b < st'.g.nx ∧ ρ'.b b = ρ.b b) a'.defers .returning w' := by
    rw [hd]
    exact ⟨v, hv, st', l, v, ρ', hR, rfl, hvr, hg', hgr, hfr, hfx⟩
  rcases hx with rfl | rfl
  · exact fin
  · exact fin
theorem SL.alike {N : Nat} {F : List Nat} {ρ0 : Rn} {H0 : Nat → Option AObj} {w0 : World} {st st' : St} {a : Act} {w : World} (h : SL P N F ρ0 H0 w0 st a w) (h1 : st'.env = st.env) (h2 : st'.g.nx = st.g.nx) (h3 : st'.g.h = st.g.h) : SL P N F ρ0 H0 w0 st' a w := by
  unfold SL at *
  rw [h1, h2, h3]; exact h
/-- the same values, told otherwise -/
inductive SimL : List (Nat × AV) → List (Nat × AV) → Prop
  | nil : SimL [] []
  | cons {k : Nat} {v v' : AV} {r r' : List (Nat × AV)} (h : ∀ (ρ : Rn) (D : Nat → Prop) (x : Value), VR ρ D v x → VR ρ D v' x) (t : SimL r r') : SimL ((k, v) :: r) ((k, v') :: r')
theorem SimL.refl : ∀ l : List (Nat × AV), SimL l l
  | [] => .nil
  | (_, _) :: r => .cons (fun _ _ _ h => h) (SimL.refl r)
theorem SimL.same {k : Nat} {v : AV} {r r' : List (Nat × AV)} (t : SimL r r') : SimL ((k, v) :: r) ((k, v) :: r') := .cons (fun _ _ _ h => h) t
theorem SimL.int {k : Nat} {s s' : Bool} {kd : IntKind} {n : Int} {r r' : List (Nat × AV)} (t : SimL r r') : SimL ((k, .int s kd n) :: r) ((k, .int s' kd n) :: r') := .cons (fun _ _ _ h => by cases h; exact .int _ _ _) t
theorem SimL.bool {k : Nat} {s s' b : Bool} {r r' : List (Nat × AV)} (t : SimL r r') : SimL ((k, .bool s b) :: r) ((k, .bool s' b) :: r') := .cons (fun _ _ _ h => by cases h; exact .bool _ _) t
theorem SimL.str {k : Nat} {s s' : Bool} {b : List Nat} {r r' : List (Nat × AV)} (t : SimL r r') : SimL ((k, .str s b) :: r) ((k, .str s' b) :: r') := .cons (fun _ _ _ h => by cases h; exact .str _ _) t
theorem SimL.look {l l' : List (Nat × AV)} (h : SimL l l') (t : Nat) {D : Nat → Prop} {x : Value} (hv : VR ρ D (lookF l t) x) : VR ρ D (lookF l' t) x := by
  induction h with
  | nil => exact hv
  | cons hk r ih =>
    rw [lookF_cons] at hv ⊢
    split
    · rename_i e; rw [if_pos e] at hv; exact hk _ _ _ hv
    · rename_i e; rw [if_neg e] at hv; exact ih hv
theorem SL.sim {N : Nat} {F : List Nat} {ρ0 : Rn} {H0 : Nat → Option AObj} {w0 : World} {st st' : St} {a : Act} {w : World} {l l' : List (Nat × AV)} (h : SL P N F ρ0 H0 w0 st a w) (h1 : st.env = mkEnv N l) (h1' : st'.env = mkEnv N l') (hl : SimL l l') (h2 : st'.g.nx = st.g.nx) (h3 : st'.g.h = st.g.h) : SL P N F ρ0 H0 w0 st' a w := by
  obtain ⟨ρ, he, hg, hr, hf, hfx, hd⟩ := h
  refine ⟨ρ, ⟨he.size, he.small, fun t => ?_⟩, by rw [h2]; exact hg, by rw [h2, h3]; exact hr, by rw [h3]; exact hf, by rw [h2]; exact hfx, hd⟩
  have hv := he.get t
  rw [evT_eq, h1, mkEnv_get _ _ (Nat.le_of_lt he.small)] at hv
  rw [evT_eq, h1', mkEnv_get _ _ (Nat.le_of_lt he.small), h2]
  by_cases ht : t < N
  · rw [if_pos ht] at hv ⊢; exact hl.look t hv
  · rw [if_neg ht] at hv ⊢; exact hv
/-- a loop by an invariant -/
theorem loop_sl {N : Nat} {F : List Nat} {ρ0 : Rn} {H0 : Nat → Option AObj} {w0 : World} {ι : Type} (S : ι → St) (ok : ι → Prop) (μ : ι → Nat) {x : Code} {Q : Exit → Act → World → Prop} {a : Act} {w : World} (i0 : ι) (h0 : ok i0) (hs : SL P N F ρ0 H0 w0 (S i0) a w)
    (round : ∀ i, ok i → ∀ a w, SL P N F ρ0 H0 w0 (S i) a w → x.wp P (Exit.then (fun a' w' => ∃ j, ok j ∧ μ j < μ i ∧ SL P N F ρ0 H0 w0 (S j) a' w') Q) a w) : (Code.loop x).wp P Q a w := by
  refine wp_loop_ghost (fun n a w => ∃ i, ok i ∧ μ i = n ∧ SL P N F ρ0 H0 w0 (S i) a w) (μ i0) ⟨i0, h0, rfl, hs⟩ ?_
  rintro n a w ⟨i, hi, rfl, hs⟩
  refine wp_mono (round i hi a w hs) ?_
  intro e a' w' hq
  cases e with
  | normal => obtain ⟨j, h1, h2, h3⟩ := hq; exact ⟨μ j, h2, j, h1, rfl, h3⟩
  | _ => exact hq
end
end Go.Proofs.YtkclgbccnbiojaaGreatDoor.SX

namespace Go.Proofs.YtkclgbccnbiojaaGreatDoor.SX
/-! ### the same, told otherwise: blocks bear other numbers, values are told by other words, or forgotten -/
inductive RV (σ : Nat → Nat → Prop) : AV → AV → Prop
  | bad (v : AV) : RV σ v .bad
  | und : RV σ .und .und
  | bool {s s' b b' : Bool} (h : b = b') : RV σ (.bool s b) (.bool s' b')
  | int {s s' : Bool} {k : IntKind} {n n' : Int} (h : n = n') : RV σ (.int s k n) (.int s' k n')
  | str {s s' : Bool} {l l' : List Nat} (h : l = l') : RV σ (.str s l) (.str s' l')
  | nilp : RV σ .nilp .nilp
  | nils : RV σ .nils .nils
  | nilm : RV σ .nilm .nilm
  | nilf : RV σ .nilf .nilf
  | nili : RV σ .nili .nili
  | ptr {b b' o o' : Nat} (h : σ b b') (e : o = o') : RV σ (.ptr b o) (.ptr b' o')
  | rptr {b b' sz sz' i i' j j' : Nat} (h : σ b b') (e : i * sz + j = i' * sz' + j') : RV σ (.rptr b sz i j) (.rptr b' sz' i' j')
  | toR {b b' o sz i j : Nat} (h : σ b b') (e : o = i * sz + j) : RV σ (.ptr b o) (.rptr b' sz i j)
  | ofR {b b' o sz i j : Nat} (h : σ b b') (e : i * sz + j = o) : RV σ (.rptr b sz i j) (.ptr b' o)
  | slk {s s' : Bool} {b b' o o' n n' c c' : Nat} (h : σ b b') (e1 : o = o') (e2 : n = n') (e3 : c = c') : RV σ (.sl s b o n (.kn c)) (.sl s' b' o' n' (.kn c'))
  | slu {s s' : Bool} {b b' o o' n n' k k' : Nat} (h : σ b b') (e1 : o = o') (e2 : n = n') (e3 : k = k') : RV σ (.sl s b o n (.un k)) (.sl s' b' o' n' (.un k'))
  | mp {b b' : Nat} (h : σ b b') : RV σ (.mp b) (.mp b')
  | osl {b b' n n' : Nat} (h : σ b b') (e : n = n') : RV σ (.osl b n) (.osl b' n')
  | optr {b b' sz sz' i i' j j' : Nat} (h : σ b b') (e : i * sz + j = i' * sz' + j') : RV σ (.optr b sz i j) (.optr b' sz' i' j')
  | fn {f : Fn} {xs xs' ys ys' : List AV} (l1 : xs.length = xs'.length) (h1 : ∀ (i : Nat) (x y : AV), xs[i]? = some x → xs'[i]? = some y → RV σ x y) (l2 : ys.length = ys'.length) (h2 : ∀ (i : Nat) (x y : AV), ys[i]? = some x → ys'[i]? = some y → RV σ x y) : RV σ (.fn f xs ys) (.fn f xs' ys')
  | ifc {t : TypeId} {v v' : AV} (h : RV σ v v') : RV σ (.ifc t v) (.ifc t v')
  | agg {cs cs' : List AV} (l : cs.length = cs'.length) (h : ∀ (i : Nat) (x y : AV), cs[i]? = some x → cs'[i]? = some y → RV σ x y) : RV σ (.agg cs) (.agg cs')
  | tup {cs cs' : List AV} (l : cs.length = cs'.length) (h : ∀ (i : Nat) (x y : AV), cs[i]? = some x → cs'[i]? = some y → RV σ x y) : RV σ (.tup cs) (.tup cs')
  | unk {v : AV} (h : oneCell v = true) : RV σ v .unk
def RL (σ : Nat → Nat → Prop) (cs cs' : List AV) : Prop := cs.length = cs'.length ∧ ∀ (i : Nat) (x y : AV), cs[i]? = some x → cs'[i]? = some y → RV σ x y
section
variable {σ : Nat → Nat → Prop}
theorem RL.nil : RL σ [] [] := ⟨rfl, fun i x y h => by simp at h⟩
theorem RL.cons {c c' : AV} {cs cs' : List AV} (h : RV σ c c') (k : RL σ cs cs') : RL σ (c :: cs) (c' :: cs') := by
  refine ⟨by simp [k.1], fun i x y hx hy => ?_⟩
  cases i with
  | zero => simp at hx hy; subst hx; subst hy; exact h
  | succ i => simp at hx hy; exact k.2 i x y hx hy
theorem RV.aggL {cs cs' : List AV} (h : RL σ cs cs') : RV σ (.agg cs) (.agg cs') := .agg h.1 h.2
theorem RV.tupL {cs cs' : List AV} (h : RL σ cs cs') : RV σ (.tup cs) (.tup cs') := .tup h.1 h.2
theorem RV.fnL {f : Fn} {xs xs' ys ys' : List AV} (h : RL σ xs xs') (k : RL σ ys ys') : RV σ (.fn f xs ys) (.fn f xs' ys') := .fn h.1 h.2 k.1 k.2
theorem RL.append {cs cs' ds ds' : List AV} (h : RL σ cs cs') (k : RL σ ds ds') : RL σ (cs ++ ds) (cs' ++ ds') := by
  refine ⟨by simp [h.1, k.1], fun i x y hx hy => ?_⟩
  by_cases hi : i < cs.length
  · rw [List.getElem?_append_left hi] at hx
    rw [List.getElem?_append_left (by rw [← h.1]; exact hi)] at hy
    exact h.2 i x y hx hy
  · rw [List.getElem?_append_right (by omega)] at hx
    rw [List.getElem?_append_right (by rw [← h.1]; omega), ← h.1] at hy
    exact k.2 _ x y hx hy
theorem RL.map {α : Type} {f g : α → AV} (l : List α) (h : ∀ a ∈ l, RV σ (f a) (g a)) : RL σ (l.map f) (l.map g) := by
  refine ⟨by simp, fun i x y hx hy => ?_⟩
  rw [List.getElem?_map] at hx hy
  cases hl : l[i]? with
  | none => rw [hl] at hx; cases hx
  | some a =>
    rw [hl] at hx hy
    injection hx with hx
    injection hy with hy
    rw [← hx, ← hy]
    exact h a (List.mem_of_getElem? hl)
end
/-- objects -/
inductive RO (σ : Nat → Nat → Prop) : AObj → AObj → Prop
  | cells {e : TypeId} {cs cs' : List AV} {gr : Bool} (h : RL σ cs cs') : RO σ (.cells e cs gr) (.cells e cs' gr)
  | toN {e : TypeId} {cs : List AV} {gr : Bool} {k : IntKind} {xs : List Int} (h : RL σ cs (xs.map (.int true k))) : RO σ (.cells e cs gr) (.nums e k xs gr)
  | toG {e : TypeId} {cs : List AV} {sz n : Nat} {f : Nat → List AV} (hf : ∀ i, i < n → (f i).length = sz) (h : RL σ cs (flat f n)) : RO σ (.cells e cs true) (.grows e sz n f)
  | nums {e : TypeId} {k : IntKind} {xs xs' : List Int} {gr : Bool} (h : xs = xs') : RO σ (.nums e k xs gr) (.nums e k xs' gr)
  | rows {e e' : TypeId} {sz n n' : Nat} {f f' : Nat → List AV} (hn : n' ≤ n) (h : ∀ i, i < n' → RL σ (f i) (f' i)) : RO σ (.rows e sz n f) (.rows e' sz n' f')
  | grows {e : TypeId} {sz n n' : Nat} {f f' : Nat → List AV} (hn : n = n') (h : ∀ i, i < n → RL σ (f i) (f' i)) : RO σ (.grows e sz n f) (.grows e sz n' f')
  | map {es es' : List (AV × AV)} (hl : es.length = es'.length) (h : ∀ (i : Nat) (p q : AV × AV), es[i]? = some p → es'[i]? = some q → RV σ p.1 q.1 ∧ RV σ p.2 q.2) : RO σ (.map es) (.map es')
section
variable {P : Program} {σ : Nat → Nat → Prop} {ρ ρ' : Rn} {D D' : Nat → Prop}
theorem RV.ok {v v' : AV} (h : RV σ v v') (hσ : ∀ b b', σ b b' → D b → D' b' ∧ ρ'.b b' = ρ.b b ∧ ρ'.c b' = ρ.c b) : ∀ {x : Value}, VR ρ D v x → VR ρ' D' v' x := by
  induction h with
  | bad v => intro x _; exact .bad x
  | und => intro x hx; cases hx; exact .und
  | bool h => intro x hx; cases hx; subst h; exact .bool _ _
  | int h => intro x hx; cases hx; subst h; exact .int _ _ _
  | str h => intro x hx; subst h; obtain ⟨b, rfl, rfl⟩ := hx.str_inv; exact .str _ _
  | nilp => intro x hx; cases hx; exact .nilp
  | nils => intro x hx; cases hx; exact .nils
  | nilm => intro x hx; cases hx; exact .nilm
  | nilf => intro x hx; cases hx; exact .nilf
  | nili => intro x hx; cases hx; exact .nili
  | ptr h e => intro x hx; subst e; cases hx with | ptr _ _ hd => obtain ⟨a, b, c⟩ := hσ _ _ h hd; rw [← b]; exact .ptr _ _ a
  | rptr h e => intro x hx; cases hx with | rptr _ _ _ _ hd => obtain ⟨a, b, c⟩ := hσ _ _ h hd; rw [← b, e]; exact .rptr _ _ _ _ a
  | toR h e => intro x hx; cases hx with | ptr _ _ hd => obtain ⟨a, b, c⟩ := hσ _ _ h hd; rw [← b, e]; exact .rptr _ _ _ _ a
  | ofR h e => intro x hx; cases hx with | rptr _ _ _ _ hd => obtain ⟨a, b, c⟩ := hσ _ _ h hd; rw [← b, e]; exact .ptr _ _ a
  | slk h e1 e2 e3 => intro x hx; subst e1; subst e2; subst e3; cases hx with | slk _ _ _ _ _ hd hn => obtain ⟨a, b, c⟩ := hσ _ _ h hd; rw [← b]; exact .slk _ _ _ _ _ a hn
  | slu h e1 e2 e3 => intro x hx; subst e1; subst e2; subst e3; cases hx with | slu _ _ _ _ _ hd hn => obtain ⟨a, b, c⟩ := hσ _ _ h hd; rw [← b, ← c]; exact .slu _ _ _ _ _ a (by rw [c]; exact hn)
  | mp h => intro x hx; cases hx with | mp _ hd => obtain ⟨a, b, c⟩ := hσ _ _ h hd; rw [← b]; exact .mp _ a
  | osl h e => intro x hx; subst e; cases hx with | osl _ _ as cp hd ha => obtain ⟨a, b, c⟩ := hσ _ _ h hd; exact .osl _ _ _ _ a (fun hn => by rw [ha hn, b, c])
  | optr h e => intro x hx; cases hx with | optr _ _ _ _ hd => obtain ⟨a, b, c⟩ := hσ _ _ h hd; rw [← b, ← c, e]; exact .optr _ _ _ _ a
  | fn l1 h1 l2 h2 i1 i2 =>
    intro x hx
    cases hx with
    | fn _ _ _ as bs k1 g1 k2 g2 =>
      refine .fn _ _ _ as bs (l1.symm.trans k1) (fun i y a hy ha => ?_) (l2.symm.trans k2) (fun i y a hy ha => ?_)
      · rename_i xs xs' ys ys'
        have hi : i < xs.length := by rw [l1]; exact lt_of_get hy
        exact i1 i _ y (List.getElem?_eq_getElem hi) hy (g1 i _ a (List.getElem?_eq_getElem hi) ha)
      · rename_i xs xs' ys ys'
        have hi : i < ys.length := by rw [l2]; exact lt_of_get hy
        exact i2 i _ y (List.getElem?_eq_getElem hi) hy (g2 i _ a (List.getElem?_eq_getElem hi) ha)
  | ifc h ih => intro x hx; cases hx with | ifc _ _ y hy => exact .ifc _ _ _ (ih hy)
  | agg l h ih =>
    intro x hx
    cases hx with
    | agg _ as k g =>
      refine .agg _ as (l.symm.trans k) (fun i y a hy ha => ?_)
      rename_i cs cs'
      have hi : i < cs.length := by rw [l]; exact lt_of_get hy
      exact ih i _ y (List.getElem?_eq_getElem hi) hy (g i _ a (List.getElem?_eq_getElem hi) ha)
  | tup l h ih =>
    intro x hx
    cases hx with
    | tup _ as k g =>
      refine .tup _ as (l.symm.trans k) (fun i y a hy ha => ?_)
      rename_i cs cs'
      have hi : i < cs.length := by rw [l]; exact lt_of_get hy
      exact ih i _ y (List.getElem?_eq_getElem hi) hy (g i _ a (List.getElem?_eq_getElem hi) ha)
  | unk h => intro x hx; exact .unk x (one_of hx h)
theorem RL.read {cs cs' : List AV} {arr : Array Value} (h : RL σ cs cs') (hσ : ∀ b b', σ b b' → D b → D' b' ∧ ρ'.b b' = ρ.b b ∧ ρ'.c b' = ρ.c b) (k : ReadL ρ D cs arr) : ReadL ρ' D' cs' arr := by
  intro i y hy
  have hi : i < cs.length := by rw [h.1]; exact lt_of_get hy
  obtain ⟨a, ha, hv⟩ := k i _ (List.getElem?_eq_getElem hi)
  exact ⟨a, ha, (h.2 i _ y (List.getElem?_eq_getElem hi) hy).ok hσ hv⟩
theorem RO.fixed {o o' : AObj} (h : RO σ o o') : o'.fixed = o.fixed := by cases h <;> rfl
theorem RO.ok {o o' : AObj} (h : RO σ o o') (hσ : ∀ b b', σ b b' → D b → D' b' ∧ ρ'.b b' = ρ.b b ∧ ρ'.c b' = ρ.c b) {b b' : Nat} (hc : ρ'.c b' = ρ.c b) {r : Obj} (ho : OR P ρ D b o r) : OR P ρ' D' b' o' r := by
  cases h with
  | cells h => cases ho with | cells _ _ _ arr fz hh hop hr => exact .cells _ _ _ arr fz (h.read hσ hh) hop (by rw [← h.1]; exact ⟨hr.1, hr.2.1, fun hg => by rw [hc]; exact hr.2.2 hg⟩)
  | toN h => cases ho with | cells _ _ _ arr fz hh hop hr => exact .nums _ _ _ _ arr fz (h.read hσ hh) hop (by
      have := h.1
      rw [List.length_map] at this
      rw [← this]; exact ⟨hr.1, hr.2.1, fun hg => by rw [hc]; exact hr.2.2 hg⟩)
  | toG hf h => cases ho with | cells _ _ _ arr fz hh hop hr => exact .grows _ _ _ _ arr fz hf (h.read hσ hh) hop (by
      have := h.1
      rw [flat_length _ hf] at this
      rw [← this]; exact ⟨hr.1, hr.2.1, fun hg => by rw [hc]; exact hr.2.2 hg⟩)
  | nums h => subst h; cases ho with | nums _ _ _ _ arr fz hh hop hr => exact .nums _ _ _ _ arr fz (fun i x hx => by
      obtain ⟨a, ha, hv⟩ := hh i x hx
      refine ⟨a, ha, ?_⟩
      rw [List.getElem?_map] at hx
      cases hl : (_ : List Int)[i]? with
      | none => rw [hl] at hx; cases hx
      | some n => rw [hl] at hx; injection hx with hx; subst hx; cases hv; exact .int _ _ _) hop ⟨hr.1, hr.2.1, fun hg => by rw [hc]; exact hr.2.2 hg⟩
  | rows hn h => cases ho with | rows _ e2 _ _ _ arr fz hl hh =>
      refine .rows _ e2 _ _ _ arr fz (fun i hi => by rw [← (h i hi).1]; exact hl i (by omega)) (fun i j x hi hx => ?_)
      have hj : j < _ := lt_of_get hx
      rw [← (h i hi).1] at hj
      obtain ⟨a, ha, hv⟩ := hh i j _ (by omega) (List.getElem?_eq_getElem hj)
      exact ⟨a, by rw [hc]; exact ha, ((h i hi).2 j _ x (List.getElem?_eq_getElem hj) hx).ok hσ hv⟩
  | grows hn h =>
    subst hn
    cases ho with | grows _ _ _ _ arr fz hl hh hop hr =>
      rename_i f f'
      have hfl : ∀ n, (∀ i, i < n → RL σ (f i) (f' i)) → RL σ (flat f n) (flat f' n) := by
        intro n
        induction n with
        | zero => intro _; exact .nil
        | succ n ih => intro h; exact (ih fun i hi => h i (by omega)).append (h n (by omega))
      exact .grows _ _ _ _ arr fz (fun i hi => by rw [← (h i hi).1]; exact hl i hi) ((hfl _ h).read hσ hh) hop ⟨hr.1, hr.2.1, fun hg => by rw [hc]; exact hr.2.2 hg⟩
  | map hl h => cases ho with | map _ ms k g =>
      refine .map _ ms (hl.symm.trans k) (fun i q m hq hm => ?_)
      rename_i es es'
      have hi : i < es.length := by rw [hl]; exact lt_of_get hq
      obtain ⟨g1, g2, g3⟩ := g i _ m (List.getElem?_eq_getElem hi) hm
      obtain ⟨r1, r2⟩ := h i _ q (List.getElem?_eq_getElem hi) hq
      exact ⟨r1.ok hσ g1, r2.ok hσ g2, g3⟩
/-- what stands in a frame and in the memory, told otherwise; τ: a new number's old one -/
theorem SL.recast {N : Nat} {F : List Nat} {ρ0 : Rn} {H0 : Nat → Option AObj} {w0 : World} {st st' : St} {a : Act} {w : World} (τ : Nat → Nat) (l : List (Nat × AV)) (h : SL P N F ρ0 H0 w0 st a w) (hlo : 1000 ≤ st'.g.nx) (hE : st'.env = mkEnv N l)
    (hg : ∀ g, g < 1000 → τ g = g) (hF : ∀ b ∈ F, b < st'.g.nx ∧ τ b = b)
    (henv : ∀ p ∈ l, RV (fun b b' => τ b' = b ∧ Dm N0 st'.g.nx b') (evT st.env p.1) p.2)
    (hmem : ∀ b' o', st'.g.h.get b' = some o' → Dm N0 st'.g.nx b' ∧ ∃ o, st.g.h.get (τ b') = some o ∧ RO (fun b b' => τ b' = b ∧ Dm N0 st'.g.nx b') o o')
    (hinj : ∀ b' b'' o' o'', st'.g.h.get b' = some o' → st'.g.h.get b'' = some o'' → τ b' = τ b'' → b' = b'') : SL P N F ρ0 H0 w0 st' a w := by
  obtain ⟨ρ, he, hgl, hr, hf, hfx, hd⟩ := h
  have hσ : ∀ b b', (τ b' = b ∧ Dm N0 st'.g.nx b') → Dm N0 st.g.nx b → Dm N0 st'.g.nx b' ∧ ρ.b (τ b') = ρ.b b ∧ ρ.c (τ b') = ρ.c b := fun b b' hb _ => ⟨hb.2, by rw [hb.1], by rw [hb.1]⟩
  refine ⟨⟨fun b => ρ.b (τ b), fun b => ρ.c (τ b)⟩, ⟨he.size, he.small, fun t => ?_⟩, ⟨hlo, fun g hg' => by show ρ.b (τ g) = g; rw [hg g hg']; exact hgl.at_ g hg', fun g hg' => by show ρ.c (τ g) = 0; rw [hg g hg']; exact hgl.c0 g hg'⟩, ⟨fun b o hb => ⟨(hmem b o hb).1, trivial⟩, fun b o hb => ?_, fun b b' o o' hb hb' hfi e => ?_⟩, ⟨hf.os, hf.tape, hf.output, hf.size, hf.keep, fun b o hb hfx => ?_, fun b o hb hfx => ?_⟩, fun b hb => ⟨(hF b hb).1, ?_⟩, hd⟩
  · rw [evT_eq, hE, mkEnv_get _ _ (Nat.le_of_lt he.small)]
    by_cases ht : t < N
    · rw [if_pos ht]
      show VR _ _ (lookF l t) _
      have hv := he.get t
      clear hE
      induction l with
      | nil => exact .bad _
      | cons p r ih =>
        rw [lookF_cons]
        split
        · rename_i e
          subst e
          exact (henv p (List.mem_cons_self ..)).ok hσ hv
        · exact ih (fun q hq => henv q (List.mem_cons_of_mem _ hq))
    · rw [if_neg ht]
      have : a.tmps.getD t undef = undef := by
        simp only [Array.getD_eq_getD_getElem?]
        rw [Array.getElem?_eq_none (by rw [he.size]; omega)]; rfl
      rw [this]; exact .und
  · obtain ⟨_, o1, h1, h2⟩ := hmem b o hb
    obtain ⟨r, hr1, hr2⟩ := hr.at_ _ o1 h1
    exact ⟨r, hr1, h2.ok (ρ := ρ) (D := Dm N0 st.g.nx) (b := τ b) (b' := b) hσ rfl hr2⟩
  · obtain ⟨_, o1, h1, h2⟩ := hmem b o hb
    obtain ⟨_, o2, h3, h4⟩ := hmem b' o' hb'
    exact hinj b b' o o' hb hb' (hr.inj _ _ o1 o2 h1 h3 (by rw [← h2.fixed]; exact hfi) e)
  · obtain ⟨_, o1, h1, h2⟩ := hmem b o hb
    exact hf.own _ o1 h1 (by rw [← h2.fixed]; exact hfx)
  · obtain ⟨_, o1, h1, h2⟩ := hmem b o hb
    exact hf.fix _ o1 h1 (by rw [← h2.fixed]; exact hfx)
  · show ρ.b (τ b) = ρ0.b b
    rw [(hF b hb).2]; exact (hfx b hb).2
end
end Go.Proofs.YtkclgbccnbiojaaGreatDoor.SX

namespace Go.Proofs.YtkclgbccnbiojaaGreatDoor.SX
/-! ### a run out of little memory is a run out of any memory that holds it -/
noncomputable def putAll (h : Mem) (n : Nat) (obs : Nat → AObj) (k : Nat) : Mem := Nat.rec (motive := fun _ => Mem) h (fun i ih => ih.put (n + i) (some (obs i))) k
theorem putAll_get (h : Mem) (n : Nat) (obs : Nat → AObj) : ∀ k j, (putAll h n obs k).get j = if n ≤ j ∧ j < n + k then some (obs (j - n)) else h.get j := by
  intro k
  induction k with
  | zero => intro j; rw [if_neg (by omega)]; rfl
  | succ k ih =>
    intro j
    show ((putAll h n obs k).put (n + k) (some (obs k))).get j = _
    rw [mget_put]
    by_cases e : j = n + k
    · rw [if_pos e, if_pos (by omega), e, Nat.add_sub_cancel_left]
    · rw [if_neg e, ih]
      by_cases e2 : n ≤ j ∧ j < n + k
      · rw [if_pos e2, if_pos (by omega)]
      · rw [if_neg e2, if_neg (by omega)]
/-- what is kept of the run's blocks, and under which numbers -/
def selS (sel : List Nat) (n0 n : Nat) (b b' : Nat) : Prop := (∃ i, sel[i]? = some b ∧ b' = n + i) ∨ (b = b' ∧ b < n0)
section
variable {P : Program} {call : CallT} {f : FuncId} {args : List AV} {g0 g1 g : G} {v0 : AV} {pm0 : PM} {E : Nat → Prop} {ρ : Rn} {vs : List Value} {w : World}
theorem graft_call (hc : CallOk P call) (hrun : call .no f args g0 = some (.ret v0, pm0, g1)) (hp1 : g1.pc) (hlo : 1000 ≤ g0.nx)
    (hpre : ∀ b o, g0.h.get b = some o → b < g0.nx ∧ o.fixed = true ∧ ∀ (ρ : Rn) (D D' : Nat → Prop) (r : Obj), (∀ q, q < g0.nx → D' q) → OR P ρ D b o r → OR P ρ D' b o r)
    (sel : List Nat) (res : Nat → AV) (obs : Nat → Nat → AObj) (hsel : ∀ (i b : Nat), sel[i]? = some b → g0.nx ≤ b) (hnd : ∀ (i j b : Nat), sel[i]? = some b → sel[j]? = some b → i = j)
    (hobs : ∀ (n i b : Nat), sel[i]? = some b → ∃ o, g1.h.get b = some o ∧ o.fixed = false ∧ RO (selS sel g0.nx n) o (obs n i)) (hres : ∀ n, RV (selS sel g0.nx n) v0 (res n))
    (hgn : g0.nx ≤ g.nx) (hmem : ∀ b o, g0.h.get b = some o → ∃ o', g.h.get b = some o' ∧ o'.fixed = true ∧ ∀ (ρ : Rn) (D : Nat → Prop) (r : Obj), OR P ρ D b o' r → OR P ρ D b o r)
    (hE : ∀ b, E b → g.nx + sel.length ≤ b) (hgl : Gl ρ g.nx) (hL : LR ρ (Dm (fun _ => False) g0.nx) args vs) (hw : GR P ρ (Dm E g.nx) g.h.get w) :
    Calls P f vs.toArray w fun e w' => ∃ ρ', Eff P E ρ g w ρ' { g with h := putAll g.h g.nx (obs g.nx) sel.length, nx := g.nx + sel.length } w' ∧ EndR ρ' (Dm E (g.nx + sel.length)) (.ret (res g.nx)) e := by
  have hw0 : GR P ρ (Dm (fun _ => False) g0.nx) g0.h.get w := by
    refine ⟨fun b o hb => ⟨.inl (hpre b o hb).1, trivial⟩, fun b o hb => ?_, fun b b' o o' hb hb' hf => ?_⟩
    · obtain ⟨o', h1, _, h2⟩ := hmem b o hb
      obtain ⟨r, hr, ho⟩ := hw.at_ b o' h1
      exact ⟨r, hr, (hpre b o hb).2.2 _ _ _ _ (fun q hq => .inl hq) (h2 _ _ _ ho)⟩
    · rw [(hpre b o hb).2.1] at hf; cases hf
  have hok := ((hc.ok _ _ _ _ _ _ _ hrun).2 (fun _ => False) ρ vs w hp1 (fun b hb => hb.elim) ⟨hlo, hgl.at_, hgl.c0⟩ hL hw0).1 rfl
  refine hok.mono fun e w' ⟨ρ1, he, hend⟩ => ?_
  have hkeep : ∀ i, i < w.heap.size → w'.heap[i]? = w.heap[i]? := fun i hi => he.fr.keep i hi fun b o hb hf => by rw [(hpre b o hb).2.1] at hf; cases hf
  have hown : ∀ b o, g1.h.get b = some o → o.fixed = false → w.heap.size ≤ ρ1.b b := fun b o hb hf => by
    rcases he.fr.own b o hb hf with h | ⟨b0, o0, h0, f0, _⟩
    · exact h
    · rw [(hpre b0 o0 h0).2.1] at f0; cases f0
  let at_ : Nat → Option Nat := fun q => if g.nx ≤ q then sel[q - g.nx]? else none
  let ρ' : Rn := ⟨fun q => match at_ q with | some b => ρ1.b b | none => ρ.b q, fun q => match at_ q with | some b => ρ1.c b | none => ρ.c q⟩
  have new : ∀ (i b : Nat), sel[i]? = some b → ρ'.b (g.nx + i) = ρ1.b b ∧ ρ'.c (g.nx + i) = ρ1.c b := fun i b hi => by
    have : at_ (g.nx + i) = some b := by simp only [at_]; rw [if_pos (by omega), Nat.add_sub_cancel_left]; exact hi
    constructor
    · show (match at_ (g.nx + i) with | some b => ρ1.b b | none => _) = _; rw [this]
    · show (match at_ (g.nx + i) with | some b => ρ1.c b | none => _) = _; rw [this]
  have old : ∀ q, Dm E g.nx q → ρ'.b q = ρ.b q ∧ ρ'.c q = ρ.c q := fun q hq => by
    have : at_ q = none := by
      simp only [at_]
      split
      · rename_i h
        rcases hq with hq | hq
        · omega
        · have := hE q hq
          rw [List.getElem?_eq_none (by omega)]
      · rfl
    constructor
    · show (match at_ q with | some b => ρ1.b b | none => _) = _; rw [this]
    · show (match at_ q with | some b => ρ1.c b | none => _) = _; rw [this]
  have hσ : ∀ b b', selS sel g0.nx g.nx b b' → Dm (fun _ => False) g1.nx b → Dm E (g.nx + sel.length) b' ∧ ρ'.b b' = ρ1.b b ∧ ρ'.c b' = ρ1.c b := by
    rintro b b' (⟨i, hi, rfl⟩ | ⟨rfl, hlt⟩) _
    · have := lt_of_get hi
      exact ⟨.inl (by omega), new i b hi⟩
    · have h1 := old b (.inl (by omega))
      have h2 := he.ext b (.inl hlt)
      exact ⟨.inl (by omega), h1.1.trans h2.1.symm, h1.2.trans h2.2.symm⟩
  have get : ∀ q, (putAll g.h g.nx (obs g.nx) sel.length).get q = if g.nx ≤ q ∧ q < g.nx + sel.length then some (obs g.nx (q - g.nx)) else g.h.get q := putAll_get _ _ _ _
  have cas : ∀ q o, (putAll g.h g.nx (obs g.nx) sel.length).get q = some o → (∃ i b, sel[i]? = some b ∧ q = g.nx + i ∧ o = obs g.nx i) ∨ (g.h.get q = some o ∧ Dm E g.nx q) := by
    intro q o hq
    rw [get] at hq
    split at hq
    · rename_i h
      injection hq with hq
      have hlt : q - g.nx < sel.length := by omega
      exact .inl ⟨q - g.nx, sel[q - g.nx], List.getElem?_eq_getElem hlt, by omega, hq.symm⟩
    · exact .inr ⟨hq, (hw.dom q o hq).1⟩
  refine ⟨ρ', ⟨Nat.le_add_right _ _, old, ⟨fun q o hq => ?_, fun q o hq => ?_, fun q q' o o' hq hq' hf e => ?_⟩, ⟨he.fr.os, he.fr.tape, he.fr.output, he.fr.size, fun i hi _ => hkeep i hi, fun q o hq hf => ?_, fun q o hq hf => ?_⟩⟩, ?_⟩
  · rcases cas q o hq with ⟨i, b, hi, rfl, rfl⟩ | ⟨h1, h2⟩
    · have := lt_of_get hi
      exact ⟨.inl (by show _ < g.nx + sel.length; omega), trivial⟩
    · exact ⟨h2.mono (Nat.le_add_right _ _), trivial⟩
  · rcases cas q o hq with ⟨i, b, hi, rfl, rfl⟩ | ⟨h1, h2⟩
    · obtain ⟨o1, k1, k2, k3⟩ := hobs g.nx i b hi
      obtain ⟨r, hr, ho⟩ := he.gr.at_ b o1 k1
      exact ⟨r, by rw [(new i b hi).1]; exact hr, k3.ok hσ (new i b hi).2 ho⟩
    · obtain ⟨r, hr, ho⟩ := hw.at_ q o h1
      refine ⟨r, ?_, ho.mono (fun k hk => ⟨hk.mono (Nat.le_add_right _ _), old k hk⟩) (old q h2).2⟩
      rw [(old q h2).1, hkeep _ (hw.lt h1)]; exact hr
  · rcases cas q o hq with ⟨i, b, hi, rfl, rfl⟩ | ⟨h1, h2⟩
    · obtain ⟨o1, k1, k2, k3⟩ := hobs g.nx i b hi
      rcases cas q' o' hq' with ⟨j, b', hj, rfl, rfl⟩ | ⟨h1', h2'⟩
      · obtain ⟨o2, l1, l2, l3⟩ := hobs g.nx j b' hj
        rw [(new i b hi).1, (new j b' hj).1] at e
        have := he.gr.inj b b' o1 o2 k1 l1 k2 e
        subst this
        rw [hnd i j b hi hj]
      · rw [(new i b hi).1, (old q' h2').1] at e
        have := hown b o1 k1 k2
        have := hw.lt h1'
        omega
    · rcases cas q' o' hq' with ⟨j, b', hj, rfl, rfl⟩ | ⟨h1', h2'⟩
      · obtain ⟨o2, l1, l2, l3⟩ := hobs g.nx j b' hj
        rw [(old q h2).1, (new j b' hj).1] at e
        have := hown b' o2 l1 l2
        have := hw.lt h1
        omega
      · rw [(old q h2).1, (old q' h2').1] at e
        exact hw.inj q q' o o' h1 h1' hf e
  · rcases cas q o hq with ⟨i, b, hi, rfl, rfl⟩ | ⟨h1, h2⟩
    · obtain ⟨o1, k1, k2, k3⟩ := hobs g.nx i b hi
      rw [(new i b hi).1]
      exact .inl (hown b o1 k1 k2)
    · rw [(old q h2).1]; exact .inr ⟨q, o, h1, hf, rfl⟩
  · rcases cas q o hq with ⟨i, b, hi, rfl, rfl⟩ | ⟨h1, h2⟩
    · obtain ⟨o1, k1, k2, k3⟩ := hobs g.nx i b hi
      rw [k3.fixed, k2] at hf; cases hf
    · rw [(old q h2).1]; exact ⟨q, o, h1, hf, rfl⟩
  · cases e with
    | returned x => exact (hres g.nx).ok hσ hend
    | panicked c => exact hend.elim
    | outgrown => exact hend.elim
end
end Go.Proofs.YtkclgbccnbiojaaGreatDoor.SX

namespace Go.Proofs.YtkclgbccnbiojaaGreatDoor.SX
theorem wr_u8 {x : Int} (h0 : 0 ≤ x) (h1 : x < 256) : wr .u8 x = x := by rw [wr_eq, IntKind.wrap_u8]; omega
theorem wr_u32 {x : Int} (h0 : 0 ≤ x) (h1 : x < 4294967296) : wr .u32 x = x := by rw [wr_eq, IntKind.wrap_u32]; omega
theorem wr_u64 {x : Int} (h0 : 0 ≤ x) (h1 : x < 18446744073709551616) : wr .u64 x = x := by rw [wr_eq]; show x % 2 ^ 64 = x; omega
theorem wr_i64 {x : Int} (h0 : -9223372036854775808 ≤ x) (h1 : x < 9223372036854775808) : wr .i64 x = x := by rw [wr_eq, IntKind.wrap_i64]; omega
theorem land_i64 (a b : Nat) (hb : b < 2 ^ 63) : bitI .and Nat.land .i64 (a : Int) (b : Int) = ((a &&& b : Nat) : Int) := by
  show wr .i64 (Int.ofNat (a &&& b)) = _
  have : a &&& b ≤ b := Nat.and_le_right
  exact wr_i64 (x := ((a &&& b : Nat) : Int)) (by omega) (by omega)
theorem land_u32 (a b : Nat) (hb : b < 2 ^ 32) : bitI .and Nat.land .u32 (a : Int) (b : Int) = ((a &&& b : Nat) : Int) := by
  show wr .u32 (Int.ofNat (a &&& b)) = _
  have : a &&& b ≤ b := Nat.and_le_right
  exact wr_u32 (x := ((a &&& b : Nat) : Int)) (by omega) (by omega)
theorem land_u64 (a b : Nat) (hb : b < 2 ^ 64) : bitI .and Nat.land .u64 (a : Int) (b : Int) = ((a &&& b : Nat) : Int) := by
  show wr .u64 (Int.ofNat (a &&& b)) = _
  have : a &&& b ≤ b := Nat.and_le_right
  exact wr_u64 (x := ((a &&& b : Nat) : Int)) (by omega) (by omega)
theorem lor_u8 (a b : Nat) (ha : a < 2 ^ 8) (hb : b < 2 ^ 8) : bitI .or Nat.lor .u8 (a : Int) (b : Int) = ((a ||| b : Nat) : Int) := by
  show wr .u8 (Int.ofNat (a ||| b)) = _
  have := Nat.or_lt_two_pow ha hb
  exact wr_u8 (x := ((a ||| b : Nat) : Int)) (by omega) (by omega)
theorem lor_u64 (a b : Nat) (ha : a < 2 ^ 64) (hb : b < 2 ^ 64) : bitI .or Nat.lor .u64 (a : Int) (b : Int) = ((a ||| b : Nat) : Int) := by
  show wr .u64 (Int.ofNat (a ||| b)) = _
  have := Nat.or_lt_two_pow ha hb
  exact wr_u64 (x := ((a ||| b : Nat) : Int)) (by omega) (by omega)
theorem pow2_nat (n m : Nat) (h : n ≤ m) : pow2 (n : Int) m = ((2 ^ n : Nat) : Int) := by
  rw [pow2_eq]
  have : min ((n : Int).toNat) m = n := by simp; omega
  rw [this]; push_cast; rfl
theorem fdiv_nat (a b : Nat) : Int.fdiv (a : Int) (b : Int) = ((a / b : Nat) : Int) := by
  rw [Int.fdiv_eq_ediv_of_nonneg _ (by omega)]; push_cast; rfl
theorem tdiv_nat (a b : Nat) : Int.tdiv (a : Int) (b : Int) = ((a / b : Nat) : Int) := rfl
theorem tmod_nat (a b : Nat) : Int.tmod (a : Int) (b : Int) = ((a % b : Nat) : Int) := rfl
theorem ilt_t {a b : Int} (h : a < b) : ilt a b = true := by rw [ilt_eq]; simpa using h
theorem ilt_f {a b : Int} (h : b ≤ a) : ilt a b = false := by rw [ilt_eq]; simp; omega
theorem ieq_t {a b : Int} (h : a = b) : ieq a b = true := by rw [ieq_eq]; simpa using h
theorem ieq_f {a b : Int} (h : a ≠ b) : ieq a b = false := by rw [ieq_eq]; simpa using h
theorem nilt_t {a b : Int} (h : b ≤ a) : (!ilt a b) = true := by rw [ilt_f h]; rfl
theorem blt_t {a b : Nat} (h : a < b) : a.blt b = true := blt_iff.2 h
theorem ble_t {a b : Nat} (h : a ≤ b) : a.ble b = true := ble_iff.2 h
theorem inB_t {a : Int} {n : Nat} (h0 : 0 ≤ a) (h : a < n) : inB a n = true := by
  unfold inB
  rw [nilt_t h0]
  simpa using ilt_t h
end Go.Proofs.YtkclgbccnbiojaaGreatDoor.SX

namespace Go.Proofs.YtkclgbccnbiojaaGreatDoor.SX
/-! ### what is known of a function beforehand -/
abbrev Pr := FuncId → List AV → G → Option (AV × G)
structure PrOk (P : Program) (p : Pr) : Prop where
  mo : ∀ f args g v g', p f args g = some (v, g') → Le g g'
  ok : ∀ f args g v g', p f args g = some (v, g') → FnOk P f ∧ ∀ (E : Nat → Prop) (ρ : Rn) (vs : List Value) (w : World), g'.pc → (∀ b, E b → g'.nx ≤ b) → Gl ρ g.nx → LR ρ (Dm E g.nx) args vs → GR P ρ (Dm E g.nx) g.h.get w →
    Calls P f vs.toArray w fun e w' => ∃ ρ', Eff P E ρ g w ρ' g' w' ∧ EndR ρ' (Dm E g'.nx) (.ret v) e
noncomputable def prRes (r : Option (AV × G)) : Option (CR × PM × G) := match r with | some (v, g) => some (.ret v, .no, g) | none => none
noncomputable def prCall (p : Pr) : CallT := fun pm f args g => match pm with | .no => prRes (p f args g) | _ => none
noncomputable def prOrO (a : Option (AV × G)) (b : Option (AV × G)) : Option (AV × G) := match a with | some q => some q | none => b
noncomputable def prOr (p q : Pr) : Pr := fun f args g => prOrO (p f args g) (q f args g)
/-- for one function alone -/
noncomputable def prAt (k : FuncId) (p : List AV → G → Option (AV × G)) : Pr := fun f args g => bif f.beq k then p args g else none
section
variable {P : Program}
theorem PrOk.call {p : Pr} (h : PrOk P p) : CallOk P (prCall p) := by
  have inv : ∀ pm f args g cr pm' g', prCall p pm f args g = some (cr, pm', g') → pm = .no ∧ pm' = .no ∧ ∃ v, cr = .ret v ∧ p f args g = some (v, g') := by
    intro pm f args g cr pm' g' hh
    cases pm with
    | no =>
      have h1 : prRes (p f args g) = some (cr, pm', g') := hh
      unfold prRes at h1
      split at h1
      · rename_i v g1 he
        injection h1 with h1
        have e1 := (Prod.mk.inj h1).1
        have e2 := (Prod.mk.inj (Prod.mk.inj h1).2).1
        have e3 := (Prod.mk.inj (Prod.mk.inj h1).2).2
        exact ⟨rfl, e2.symm, v, e1.symm, by rw [← e3]; exact he⟩
      · cases h1
    | _ => cases hh
  refine ⟨fun pm f args g cr pm' g' hh => ?_, fun pm f args g cr pm' g' hh => ?_⟩
  · obtain ⟨_, _, v, _, h1⟩ := inv _ _ _ _ _ _ _ hh
    exact h.mo _ _ _ _ _ h1
  · obtain ⟨rfl, rfl, v, rfl, h1⟩ := inv _ _ _ _ _ _ _ hh
    obtain ⟨h2, h3⟩ := h.ok _ _ _ _ _ h1
    refine ⟨h2, fun E ρ vs w p hE hg hL hw => ⟨fun _ => h3 E ρ vs w p hE hg hL hw, fun hn => by cases hn⟩⟩
theorem PrOk.or {p q : Pr} (h : PrOk P p) (k : PrOk P q) : PrOk P (prOr p q) := by
  have inv : ∀ f args g r, prOr p q f args g = some r → p f args g = some r ∨ q f args g = some r := by
    intro f args g r hh
    have h1 : prOrO (p f args g) (q f args g) = some r := hh
    unfold prOrO at h1
    split at h1
    · rename_i he; rw [← h1]; exact .inl he
    · exact .inr h1
  refine ⟨fun f args g v g' hh => ?_, fun f args g v g' hh => ?_⟩
  · rcases inv _ _ _ _ hh with h1 | h1
    · exact h.mo _ _ _ _ _ h1
    · exact k.mo _ _ _ _ _ h1
  · rcases inv _ _ _ _ hh with h1 | h1
    · exact h.ok _ _ _ _ _ h1
    · exact k.ok _ _ _ _ _ h1
theorem PrOk.at_ {k : FuncId} {p : List AV → G → Option (AV × G)} (hf : FnOk P k) (mo : ∀ args g v g', p args g = some (v, g') → Le g g')
    (ok : ∀ args g v g', p args g = some (v, g') → ∀ (E : Nat → Prop) (ρ : Rn) (vs : List Value) (w : World), g'.pc → (∀ b, E b → g'.nx ≤ b) → Gl ρ g.nx → LR ρ (Dm E g.nx) args vs → GR P ρ (Dm E g.nx) g.h.get w →
      Calls P k vs.toArray w fun e w' => ∃ ρ', Eff P E ρ g w ρ' g' w' ∧ EndR ρ' (Dm E g'.nx) (.ret v) e) : PrOk P (prAt k p) := by
  have inv : ∀ f args g r, prAt k p f args g = some r → f = k ∧ p args g = some r := by
    intro f args g r hh
    have h1 : (bif f.beq k then p args g else none) = some r := hh
    cases hb : f.beq k with
    | true => rw [hb] at h1; exact ⟨beq_iff.1 hb, h1⟩
    | false => rw [hb] at h1; cases h1
  refine ⟨fun f args g v g' hh => mo _ _ _ _ (inv _ _ _ _ hh).2, fun f args g v g' hh => ?_⟩
  obtain ⟨rfl, h1⟩ := inv _ _ _ _ hh
  exact ⟨hf, ok _ _ _ _ h1⟩
end
/-! ### are two rows of what is known the same? -/
noncomputable def eqAV (a b : AV) : Bool := match a, b with
  | .int false k n, .int false k' n' => kindEq k k' && ieq n n'
  | .str false l, .str false l' => sEq l l'
  | .bool false x, .bool false y => boolEq x y
  | .osl b n, .osl b' n' => b.beq b' && n.beq n'
  | _, _ => false
noncomputable def eqLC (a : AV) (ih : List AV → Bool) (l : List AV) : Bool := match l with | [] => false | b :: r => eqAV a b && ih r
noncomputable def eqL (l : List AV) : List AV → Bool := List.rec (motive := fun _ => List AV → Bool) (fun m => m.isEmpty) (fun a _ ih => eqLC a ih) l
noncomputable def eqF (f f' : Nat → List AV) (n : Nat) : Bool := Nat.rec (motive := fun _ => Bool) true (fun i ih => eqL (f i) (f' i) && ih) n
noncomputable def eqRows (o o' : Option AObj) : Bool := match o, o' with
  | some (.rows e sz n f), some (.rows e' sz' n' f') => e.beq e' && (sz.beq sz' && (n.beq n' && eqF f f' n))
  | _, _ => false
theorem eqAV_eq {a b : AV} (h : eqAV a b = true) : a = b := by
  unfold eqAV at h
  split at h
  · rw [Bool.and_eq_true, kindEq_iff, ieq_eq, beq_iff_eq] at h
    obtain ⟨rfl, rfl⟩ := h; rfl
  · obtain rfl := (sEq_iff _ _).1 h; rfl
  · obtain rfl := boolEq_iff h; rfl
  · rw [Bool.and_eq_true, beq_iff, beq_iff] at h
    obtain ⟨rfl, rfl⟩ := h; rfl
  · cases h
theorem eqL_eq : ∀ (l m : List AV), eqL l m = true → l = m := by
  intro l
  induction l with
  | nil =>
    intro m h
    have h1 : m.isEmpty = true := h
    cases m with
    | nil => rfl
    | cons a r => cases h1
  | cons a r ih =>
    intro m h
    have h1 : eqLC a (eqL r) m = true := h
    cases m with
    | nil => cases h1
    | cons b s =>
      have h2 : (eqAV a b && eqL r s) = true := h1
      rw [Bool.and_eq_true] at h2
      rw [eqAV_eq h2.1, ih s h2.2]
theorem eqF_eq (f f' : Nat → List AV) : ∀ n, eqF f f' n = true → ∀ i, i < n → f i = f' i := by
  intro n
  induction n with
  | zero => intro _ i hi; omega
  | succ n ih =>
    intro h i hi
    have h1 : (eqL (f n) (f' n) && eqF f f' n) = true := h
    rw [Bool.and_eq_true] at h1
    by_cases e : i = n
    · rw [e]; exact eqL_eq _ _ h1.1
    · exact ih h1.2 i (by omega)
section
variable {P : Program}
/-- a row that reads so reads so -/
theorem rows_congr {ρ : Rn} {D : Nat → Prop} {b : Nat} {e sz n : Nat} {f f' : Nat → List AV} {r : Obj} (h : ∀ i, i < n → f i = f' i) (ho : OR P ρ D b (.rows e sz n f) r) : OR P ρ D b (.rows e sz n f') r := by
  cases ho with
  | rows e e2 sz n f arr fz hl hh =>
    refine .rows e e2 sz n f' arr fz (fun i hi => by rw [← h i hi]; exact hl i hi) (fun i j x hi hx => ?_)
    rw [← h i hi] at hx
    exact hh i j x hi hx
theorem eqRows_some {o o' : Option AObj} (h : eqRows o o' = true) : ∃ x x', o = some x ∧ o' = some x' ∧ x.fixed = true ∧ x'.fixed = true ∧ ∀ (ρ : Rn) (D : Nat → Prop) (b : Nat) (r : Obj), OR P ρ D b x r → OR P ρ D b x' r := by
  unfold eqRows at h
  split at h
  · rename_i e sz n f e' sz' n' f'
    simp only [Bool.and_eq_true, beq_iff] at h
    obtain ⟨rfl, rfl, rfl, h⟩ := h
    exact ⟨_, _, rfl, rfl, rfl, rfl, fun ρ D b r ho => rows_congr (eqF_eq f f' n h) ho⟩
  · cases h
/-- what hangs on the first blocks alone -/
def nearV (n : Nat) (a : AV) : Bool := match a with
  | .int _ _ _ => true
  | .str _ _ => true
  | .bool _ _ => true
  | .osl b _ => b.blt n
  | _ => false
noncomputable def nearL (k : Nat) (l : List AV) : Bool := l.all (nearV k)
noncomputable def nearF (k : Nat) (f : Nat → List AV) (n : Nat) : Bool := Nat.rec (motive := fun _ => Bool) true (fun i ih => nearL k (f i) && ih) n
noncomputable def nearO (k : Nat) (o : AObj) : Bool := match o with
  | .rows _ _ n f => nearF k f n
  | _ => false
theorem nearV_ok {k : Nat} {a : AV} (h : nearV k a = true) {ρ : Rn} {D D' : Nat → Prop} (hD : ∀ q, q < k → D' q) {x : Value} (hx : VR ρ D a x) : VR ρ D' a x := by
  unfold nearV at h
  split at h
  · cases hx; exact .int _ _ _
  · cases hx; exact .str _ _
  · cases hx; exact .bool _ _
  · cases hx with | osl _ _ as c hd ha => exact .osl _ _ _ _ (hD _ (blt_iff.1 h)) ha
  · cases h
theorem nearF_ok {k : Nat} (f : Nat → List AV) : ∀ n, nearF k f n = true → ∀ i, i < n → ∀ x ∈ f i, nearV k x = true := by
  intro n
  induction n with
  | zero => intro _ i hi; omega
  | succ n ih =>
    intro h i hi
    have h1 : (nearL k (f n) && nearF k f n) = true := h
    rw [Bool.and_eq_true] at h1
    by_cases e : i = n
    · subst e; exact List.all_eq_true.1 h1.1
    · exact ih h1.2 i (by omega)
theorem nearO_ok {k : Nat} {o : AObj} (h : nearO k o = true) {ρ : Rn} {D D' : Nat → Prop} {b : Nat} {r : Obj} (hD : ∀ q, q < k → D' q) (ho : OR P ρ D b o r) : o.fixed = true ∧ OR P ρ D' b o r := by
  cases ho with
  | rows e e2 sz n f arr fz hl hh =>
    refine ⟨rfl, .rows e e2 sz n f arr fz hl (fun i j x hi hx => ?_)⟩
    obtain ⟨a, ha, hv⟩ := hh i j x hi hx
    exact ⟨a, ha, nearV_ok (nearF_ok f n h i hi x (List.mem_of_getElem? hx)) hD hv⟩
  | _ => cases h
theorem nearO_fixed {k : Nat} {o : AObj} (h : nearO k o = true) : o.fixed = true := by
  cases o <;> first | rfl | cases h
/-- a memory laid out of a list -/
theorem mkT_mem : ∀ (l : List (Nat × Option AObj)), (∀ p ∈ l, p.1 < 16000000) → ∀ b o, (mkT l).get b = some o → (b, some o) ∈ l := by
  intro l
  induction l with
  | nil => intro _ b o h; rw [show mkT [] = Tr.e from rfl, get_e] at h; cases h
  | cons p r ih =>
    intro hp b o h
    have e : mkT (p :: r) = (mkT r).put p.1 p.2 := rfl
    rw [e, get_put _ _ _ _ (hp p (List.mem_cons_self ..))] at h
    split at h
    · rename_i hb; subst hb
      obtain ⟨a, c⟩ := p
      simp only at h
      subst h
      exact List.mem_cons_self ..
    · exact List.mem_cons_of_mem _ (ih (fun q hq => hp q (List.mem_cons_of_mem _ hq)) b o h)
theorem mkH_mem (l : List (Nat × Option AObj)) (hl : l.all (fun p => p.1.blt 16000000) = true) (b : Nat) (o : AObj) (h : (mkH l).get b = some o) : (b, some o) ∈ l := by
  rw [Mem.get_eq] at h
  split at h
  · exact mkT_mem l (fun p hp => blt_iff.1 (List.all_eq_true.1 hl p hp)) b o h
  · cases h
end
end Go.Proofs.YtkclgbccnbiojaaGreatDoor.SX

namespace Go.Proofs.YtkclgbccnbiojaaGreatDoor.SX
/-! ### a run's result, carried to other numbers -/
/-- where a number stands in a list, counted from k on -/
noncomputable def idxL (b : Nat) (l : List Nat) : Nat → Option Nat := List.rec (motive := fun _ => Nat → Option Nat) (fun _ => none) (fun a _ ih k => Bool.rec (motive := fun _ => Option Nat) (ih (k + 1)) (some k) (a.beq b)) l
noncomputable def rnId (sel : List Nat) (n0 n b : Nat) (f : Nat → AV) : AV := Bool.rec (motive := fun _ => AV) (Option.rec (motive := fun _ => AV) .bad (fun i => f (n + i)) (idxL b sel 0)) (f b) (b.blt n0)
noncomputable def rn1 (sel : List Nat) (n0 n : Nat) (v : AV) : AV := match v with
  | .und => .und
  | .bool s b => .bool s b
  | .int s k m => .int s k m
  | .str s l => .str s l
  | .nilp => .nilp
  | .nils => .nils
  | .nilm => .nilm
  | .nilf => .nilf
  | .nili => .nili
  | .unk => .unk
  | .ptr b o => rnId sel n0 n b fun b => .ptr b o
  | .rptr b sz i j => rnId sel n0 n b fun b => .rptr b sz i j
  | .sl s b o k c => rnId sel n0 n b fun b => .sl s b o k c
  | .mp b => rnId sel n0 n b fun b => .mp b
  | .osl b k => rnId sel n0 n b fun b => .osl b k
  | .optr b sz i j => rnId sel n0 n b fun b => .optr b sz i j
  | _ => .bad
noncomputable def rn2 (sel : List Nat) (n0 n : Nat) (v : AV) : AV := match v with
  | .agg cs => .agg (cs.map (rn1 sel n0 n))
  | v => rn1 sel n0 n v
noncomputable def rn3 (sel : List Nat) (n0 n : Nat) (v : AV) : AV := match v with
  | .tup cs => .tup (cs.map (rn2 sel n0 n))
  | v => rn2 sel n0 n v
noncomputable def rnO (sel : List Nat) (n0 n : Nat) (o : AObj) : AObj := match o with
  | .cells e cs gr => .cells e (cs.map (rn1 sel n0 n)) gr
  | o => o
def isCells (o : Option AObj) : Bool := match o with | some (.cells _ _ _) => true | some (.nums _ _ _ _) => true | _ => false
theorem idxL_some {b : Nat} : ∀ (l : List Nat) (k i : Nat), idxL b l k = some i → k ≤ i ∧ l[i - k]? = some b := by
  intro l
  induction l with
  | nil => intro k i h; cases h
  | cons a r ih =>
    intro k i h
    have h1 : Bool.rec (motive := fun _ => Option Nat) (idxL b r (k + 1)) (some k) (a.beq b) = some i := h
    cases hb : a.beq b with
    | true =>
      rw [hb] at h1
      injection h1 with h1
      subst h1
      rw [beq_iff.1 hb]
      exact ⟨Nat.le_refl _, by simp⟩
    | false =>
      rw [hb] at h1
      obtain ⟨h2, h3⟩ := ih _ _ h1
      refine ⟨by omega, ?_⟩
      rw [show i - k = (i - (k + 1)) + 1 from by omega]
      simpa using h3
theorem rnId_ok {sel : List Nat} {n0 n b : Nat} {v : AV} {f : Nat → AV} (h : ∀ b', selS sel n0 n b b' → RV (selS sel n0 n) v (f b')) : RV (selS sel n0 n) v (rnId sel n0 n b f) := by
  unfold rnId
  cases hb : b.blt n0 with
  | true => exact h b (.inr ⟨rfl, blt_iff.1 hb⟩)
  | false =>
    show RV _ v (Option.rec (motive := fun _ => AV) .bad (fun i => f (n + i)) (idxL b sel 0))
    cases hi : idxL b sel 0 with
    | none => exact .bad _
    | some i =>
      obtain ⟨_, h2⟩ := idxL_some _ _ _ hi
      exact h (n + i) (.inl ⟨i, by simpa using h2, rfl⟩)
theorem rn1_ok (sel : List Nat) (n0 n : Nat) (v : AV) : RV (selS sel n0 n) v (rn1 sel n0 n v) := by
  unfold rn1
  split
  · exact .und
  · exact .bool rfl
  · exact .int rfl
  · exact .str rfl
  · exact .nilp
  · exact .nils
  · exact .nilm
  · exact .nilf
  · exact .nili
  · exact .unk rfl
  · exact rnId_ok fun b' h => .ptr h rfl
  · exact rnId_ok fun b' h => .rptr h rfl
  · rename_i s b o k c
    cases c with
    | kn c => exact rnId_ok fun b' h => .slk h rfl rfl rfl
    | un c => exact rnId_ok fun b' h => .slu h rfl rfl rfl
  · exact rnId_ok fun b' h => .mp h
  · exact rnId_ok fun b' h => .osl h rfl
  · exact rnId_ok fun b' h => .optr h rfl
  · exact .bad _
theorem rnL_ok {f : AV → AV} {σ : Nat → Nat → Prop} (h : ∀ v, RV σ v (f v)) (l : List AV) : RL σ l (l.map f) := by
  refine ⟨by simp, fun i x y hx hy => ?_⟩
  rw [List.getElem?_map, hx] at hy
  injection hy with hy
  rw [← hy]; exact h x
theorem rn2_ok (sel : List Nat) (n0 n : Nat) (v : AV) : RV (selS sel n0 n) v (rn2 sel n0 n v) := by
  unfold rn2
  split
  · exact RV.aggL (rnL_ok (rn1_ok sel n0 n) _)
  · exact rn1_ok sel n0 n _
theorem rn3_ok (sel : List Nat) (n0 n : Nat) (v : AV) : RV (selS sel n0 n) v (rn3 sel n0 n v) := by
  unfold rn3
  split
  · exact RV.tupL (rnL_ok (rn2_ok sel n0 n) _)
  · exact rn2_ok sel n0 n _
theorem rnO_ok (sel : List Nat) (n0 n : Nat) {o : AObj} (h : isCells (some o) = true) : RO (selS sel n0 n) o (rnO sel n0 n o) := by
  cases o with
  | cells e cs gr => exact .cells (rnL_ok (rn1_ok sel n0 n) cs)
  | nums e k xs gr => exact .nums rfl
  | _ => cases h
/-- a run's value, the blocks that are kept, the conditions -/
noncomputable def grab (sel : List Nat) (r : Option (CR × PM × G)) : Option (AV × List (Option AObj) × Cs) := match r with
  | some (.ret v, _, g) => some (v, sel.map (fun k => g.h.get k), g.pc)
  | _ => none
theorem grab_some {sel : List Nat} {r : Option (CR × PM × G)} {v : AV} {os : List (Option AObj)} {p : Cs} (h : grab sel r = some (v, os, p)) : ∃ pm g, r = some (.ret v, pm, g) ∧ (∀ (i b : Nat), sel[i]? = some b → os[i]? = some (g.h.get b)) ∧ g.pc = p := by
  unfold grab at h
  split at h
  · rename_i v' pm g
    injection h with h
    have e1 := (Prod.mk.inj h).1
    have e2 := (Prod.mk.inj (Prod.mk.inj h).2).1
    have e3 := (Prod.mk.inj (Prod.mk.inj h).2).2
    exact ⟨pm, g, by rw [e1], fun i b hi => by rw [← e2, List.getElem?_map, hi]; rfl, e3⟩
  · cases h
noncomputable def obAt (os : List (Option AObj)) (i : Nat) : AObj := match os[i]? with | some (some o) => o | _ => .map []
/-- what a run makes of any memory -/
noncomputable def grown (sel : List Nat) (n0 : Nat) (v : AV) (os : List (Option AObj)) (g : G) : AV × G :=
  (rn3 sel n0 g.nx v, { g with h := putAll g.h g.nx (fun i => rnO sel n0 g.nx (obAt os i)) sel.length, nx := g.nx + sel.length })
def selOk (sel : List Nat) (n0 : Nat) : Bool := sel.all (fun b => n0.ble b) && nodupN' sel
  where nodupN' : List Nat → Bool | [] => true | a :: r => r.all (fun b => !(a.beq b)) && nodupN' r
theorem nodup_ix : ∀ (l : List Nat), selOk.nodupN' l = true → ∀ (i j b : Nat), l[i]? = some b → l[j]? = some b → i = j := by
  intro l
  induction l with
  | nil => intro _ i j b h; simp at h
  | cons a r ih =>
    intro h i j b hi hj
    have h1 : r.all (fun b => !(a.beq b)) = true ∧ selOk.nodupN' r = true := by rw [← Bool.and_eq_true]; exact h
    have no : ∀ k, r[k]? ≠ some a := fun k hk => by
      have := List.all_eq_true.1 h1.1 a (List.mem_of_getElem? hk)
      rw [Nat.beq_refl] at this; cases this
    cases i with
    | zero =>
      simp at hi
      subst hi
      cases j with
      | zero => rfl
      | succ j => exact absurd (by simpa using hj) (no j)
    | succ i =>
      cases j with
      | zero => simp at hj; subst hj; exact absurd (by simpa using hi) (no i)
      | succ j => rw [ih h1.2 i j b (by simpa using hi) (by simpa using hj)]
section
variable {P : Program}
theorem graft_run {call : CallT} {f : FuncId} {args : List AV} {g0 : G} {sel : List Nat} {v : AV} {os : List (Option AObj)} (hc : CallOk P call) (hrun : grab sel (call .no f args g0) = some (v, os, [])) (hlo : 1000 ≤ g0.nx) (hsel : selOk sel g0.nx = true) (hos : os.all isCells = true)
    (hpre : ∀ b o, g0.h.get b = some o → b < g0.nx ∧ nearO g0.nx o = true) {g : G} (hgn : g0.nx ≤ g.nx)
    (hmem : ∀ b o, g0.h.get b = some o → ∃ o', g.h.get b = some o' ∧ o'.fixed = true ∧ ∀ (ρ : Rn) (D : Nat → Prop) (r : Obj), OR P ρ D b o' r → OR P ρ D b o r)
    {E : Nat → Prop} {ρ : Rn} {vs : List Value} {w : World} (hE : ∀ b, E b → (grown sel g0.nx v os g).2.nx ≤ b) (hgl : Gl ρ g.nx) (hL : LR ρ (Dm (fun _ => False) g0.nx) args vs) (hw : GR P ρ (Dm E g.nx) g.h.get w) :
    Calls P f vs.toArray w fun e w' => ∃ ρ', Eff P E ρ g w ρ' (grown sel g0.nx v os g).2 w' ∧ EndR ρ' (Dm E (grown sel g0.nx v os g).2.nx) (.ret (grown sel g0.nx v os g).1) e := by
  obtain ⟨pm, g1, hr, hg1, hpc⟩ := grab_some hrun
  have hs : sel.all (fun b => g0.nx.ble b) = true ∧ selOk.nodupN' sel = true := by rw [← Bool.and_eq_true]; exact hsel
  exact graft_call hc hr (by rw [hpc]; trivial) hlo (fun b o hb => ⟨(hpre b o hb).1, nearO_fixed (hpre b o hb).2, fun ρ D D' r hD ho => (nearO_ok (hpre b o hb).2 hD ho).2⟩) sel (fun n => rn3 sel g0.nx n v) (fun n i => rnO sel g0.nx n (obAt os i))
    (fun i b hi => ble_iff.1 (List.all_eq_true.1 hs.1 b (List.mem_of_getElem? hi))) (nodup_ix sel hs.2)
    (fun n i b hi => by
      have h1 := hg1 i b hi
      have h2 := List.all_eq_true.1 hos _ (List.mem_of_getElem? h1)
      cases ho : g1.h.get b with
      | none => rw [ho] at h2; cases h2
      | some o =>
        rw [ho] at h1 h2
        have h3 : obAt os i = o := by unfold obAt; rw [h1]
        refine ⟨o, rfl, ?_, by rw [h3]; exact rnO_ok sel g0.nx n h2⟩
        cases o <;> first | rfl | cases h2)
    (fun n => rn3_ok sel g0.nx n v) hgn hmem hE hgl hL hw
end
end Go.Proofs.YtkclgbccnbiojaaGreatDoor.SX

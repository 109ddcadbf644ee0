import Derived.Test.YtkclgbccnbiojaaGreatDoorSx3
import Derived.Recover
import Derived.KernelRfl
set_option linter.unusedVariables false
set_option linter.unusedSimpArgs false
namespace Go.Proofs.YtkclgbccnbiojaaGreatDoor.SX
section
variable {P : Program} {T : Tab} {E : Nat → Prop} {ρ : Rn} {D : Nat → Prop}
structure EnvR (ρ : Rn) (D : Nat → Prop) (env : Tr AV) (a : Act) (N : Nat) : Prop where
  size : a.tmps.size = N
  small : N < 16000000
  get : ∀ t, VR ρ D (evT env t) (a.tmps.getD t undef)
/-- the program's own variables -/
structure Gl (ρ : Rn) (n : Nat) : Prop where
  le : 1000 ≤ n
  at_ : ∀ g, g < 1000 → ρ.b g = g
  c0 : ∀ g, g < 1000 → ρ.c g = 0
theorem evT_eq (env : Tr AV) (t : Nat) : evT env t = match env.get t with | some v => v | none => .und := by
  unfold evT
  cases env.get t <;> rfl
theorem EnvR.mono {ρ' : Rn} {D' : Nat → Prop} {env : Tr AV} {a : Act} {N : Nat} (h : EnvR ρ D env a N) (hD : ∀ b, D b → D' b ∧ ρ'.b b = ρ.b b ∧ ρ'.c b = ρ.c b) : EnvR ρ' D' env a N := ⟨h.size, h.small, fun t => (h.get t).mono hD⟩
theorem EnvR.put {env : Tr AV} {a : Act} {N : Nat} (h : EnvR ρ D env a N) {d : Nat} (hd : d < N) {v : AV} {x : Value} (hv : VR ρ D v x) : EnvR ρ D (env.put d (some v)) (a.put (some d) x) N := by
  refine ⟨by simp [Act.put, h.size], h.small, fun t => ?_⟩
  have hs := h.small
  rw [evT_eq, get_put _ _ _ _ (by omega)]
  by_cases ht : t = d
  · subst ht
    rw [if_pos rfl]
    have : (a.put (some t) x).tmps.getD t undef = x := by
      simp only [Act.put, Array.getD_eq_getD_getElem?]
      rw [Array.getElem?_setIfInBounds_self_of_lt (by rw [h.size]; exact hd)]; rfl
    rw [this]; exact hv
  · rw [if_neg ht, ← evT_eq]
    have : (a.put (some d) x).tmps.getD t undef = a.tmps.getD t undef := by
      simp only [Act.put, Array.getD_eq_getD_getElem?]
      rw [Array.getElem?_setIfInBounds_ne (fun e => ht e.symm)]
    rw [this]; exact h.get t
def DstOk (N : Nat) (d : Option Nat) : Prop := ∀ t, d = some t → t < N
theorem EnvR.setD {st : St} {g : G} {a : Act} {N : Nat} (h : EnvR ρ D st.env a N) {d : Option Nat} (hd : DstOk N d) {v : AV} {x : Value} (hv : VR ρ D v x) : EnvR ρ D (setD d v st g).env (a.put d x) N := by
  cases d with
  | none => exact h
  | some t => exact h.put (hd t rfl) hv
theorem glob_ok {n : Nat} (hg : Gl ρ n) (g : Nat) : VR ρ (Dm E n) (glob g) (.pointer (some ⟨g, 0, none⟩)) := by
  unfold glob
  split
  · rename_i h
    have h' := blt_iff.1 h
    have := VR.optr (ρ := ρ) (D := Dm E n) g 0 0 0 (.inl (Nat.lt_of_lt_of_le h' hg.le))
    rw [hg.at_ g h', hg.c0 g h'] at this
    exact this
  · exact .bad _
theorem ev_ok {env : Tr AV} {a : Act} {N n : Nat} (he : EnvR ρ (Dm E n) env a N) (hg : Gl ρ n) (x : Operand) : VR ρ (Dm E n) (ev env x) (a.eval x) := by
  cases x with
  | tmp t => exact he.get t
  | const v => exact ofV_ok ρ _ v
  | global g => exact glob_ok hg g
  | func f => exact .fn _ [] [] #[] #[] rfl (fun i x a hx => by simp at hx) rfl (fun i x a hx => by simp at hx)
theorem evs_ok {env : Tr AV} {a : Act} {N n : Nat} (he : EnvR ρ (Dm E n) env a N) (hg : Gl ρ n) (xs : List Operand) : LR ρ (Dm E n) (xs.map (ev env)) (xs.map a.eval) := by
  induction xs with
  | nil => exact LR.nil _ _
  | cons x r ih => exact LR.cons (ev_ok he hg x) ih
theorem parts_okV {env : Tr AV} {a : Act} {ps : Array (Nat × Operand)} (he : ∀ p ∈ ps, VR ρ D (ev env p.2) (a.eval p.2)) : PR ρ D (parts env ps) (ps.map fun (i, x) => (i, a.eval x)).toList := by
  refine ⟨by simp [parts], fun i p q hp hq => ?_⟩
  unfold parts at hp
  rw [List.getElem?_map] at hp
  rw [Array.toList_map, List.getElem?_map] at hq
  cases hx : ps.toList[i]? with
  | none => rw [hx] at hp; cases hp
  | some y =>
    rw [hx] at hp hq
    simp only [Option.map_some, Option.some.injEq] at hp hq
    subst hp; subst hq
    exact ⟨rfl, he y (Array.mem_def.2 (List.mem_of_getElem? hx))⟩
theorem evs_okV {env : Tr AV} {a : Act} {xs : List Operand} (he : ∀ x ∈ xs, VR ρ D (ev env x) (a.eval x)) : LR ρ D (xs.map (ev env)) (xs.map a.eval) := by
  induction xs with
  | nil => exact LR.nil _ _
  | cons x r ih => exact LR.cons (he x (List.mem_cons_self ..)) (ih fun y hy => he y (List.mem_cons_of_mem _ hy))
theorem ov_okV {env : Tr AV} {a : Act} {x : Option Operand} (he : ∀ y, x = some y → VR ρ D (ev env y) (a.eval y)) : OV ρ D (x.map (ev env)) (x.map a.eval) := by
  cases x with
  | none => exact .inl ⟨rfl, rfl⟩
  | some y => exact .inr ⟨_, _, rfl, rfl, he y rfl⟩
/-- what an operation does -/
def OpDoes (P : Program) (E : Nat → Prop) (ρ : Rn) (g : G) (r : AV × G) (s : Sem Next) : Prop :=
  (r.2.pc → g.pc) ∧ g.nx ≤ r.2.nx ∧ (r.2.pc → (∀ b, E b → r.2.nx ≤ b) → ∀ w, GR P ρ (Dm E g.nx) g.h.get w → ∃ n w' ρ', s.run P w = .ok n w' ∧ Eff P E ρ g w ρ' r.2 w' ∧ ((∃ x, n = .value x ∧ VR ρ' (Dm E r.2.nx) r.1 x) ∨ (n = .skip ∧ r.1 = .und)))
theorem Does.op {g : G} {r : AV × G} {s : Sem Value} (h : Does P E ρ g r s) : OpDoes P E ρ g r (do pure (Next.value (← s))) := by
  refine ⟨h.1, h.2.1, fun p hE w hw => ?_⟩
  obtain ⟨x, w', ρ', hx, he, hv⟩ := h.2.2 p hE w hw
  exact ⟨_, w', ρ', by rw [Sem.run_bind, hx]; rfl, he, .inl ⟨x, rfl, hv⟩⟩
theorem DoesU.op {g g' : G} {s : Sem Unit} (h : DoesU P E ρ g g' s) : OpDoes P E ρ g (.und, g') (do s; pure .skip) := by
  refine ⟨h.1, h.2.1, fun p hE w hw => ?_⟩
  obtain ⟨w', ρ', hx, he⟩ := h.2.2 p hE w hw
  exact ⟨_, w', ρ', by rw [Sem.run_bind, hx]; rfl, he, .inr ⟨rfl, rfl⟩⟩
theorem Gives.op {g : G} {r : AV × G} {s : Sem Value} (h : Gives P ρ (Dm E g.nx) g r s) : OpDoes P E ρ g r (do pure (Next.value (← s))) := h.reads.does.op
theorem Reads.op {g : G} {r : AV × G} {s : Sem Value} (h : Reads P ρ (Dm E g.nx) g r s) : OpDoes P E ρ g r (do pure (Next.value (← s))) := h.does.op
theorem move_does {g : G} {v : AV} {x : Value} (h : VR ρ (Dm E g.nx) v x) : OpDoes P E ρ g (v, g) (pure (Next.value x)) :=
  ⟨id, Nat.le_refl _, fun p hE w hw => ⟨_, w, ρ, rfl, .refl hw, .inl ⟨x, rfl, h⟩⟩⟩
theorem oV_some {d : Option Nat} {st : St} {r : R AV} {q : Option AV × St} (h : oV d st r = some q) : ∃ v g, r = some (v, g) ∧ q = (none, setD d v st g) := by
  cases r with
  | none => cases h
  | some p => injection h with h; exact ⟨p.1, p.2, rfl, h.symm⟩
theorem oU_some {d : Option Nat} {st : St} {r : R Unit} {q : Option AV × St} (h : oU d st r = some q) : ∃ g, r = some ((), g) ∧ q = (none, setD d .und st g) := by
  cases r with
  | none => cases h
  | some p => injection h with h; exact ⟨p.2, rfl, h.symm⟩
theorem oConv_ok (hT : TabOk P T) {s d : Nat} {x : AV} {g : G} {r : AV × G} {a : Value} (hx : VR ρ (Dm E g.nx) x a) (h : oConv T s d x g = some r) : Does P E ρ g r (convert s d a) := by
  obtain ⟨si, hsi, h1⟩ := ti_some h
  obtain ⟨sinfo, sz, sd, a1, a2, a3, hse⟩ := hT.ti s si hsi
  subst hse
  obtain ⟨di, hdi, h2⟩ := ti_some h1
  obtain ⟨dinfo, dz, dd, b1, b2, b3, hde⟩ := hT.ti d di hdi
  subst hde
  unfold oConvK at h2
  split at h2
  · rename_i k hk
    obtain rfl := tk_int hk
    exact (toInt_ok a3 b3 hx h2).reads.does
  · rename_i hk
    obtain rfl := tk_string hk
    unfold convStr at h2
    split at h2
    · rename_i e he
      obtain rfl := tk_slice he
      obtain ⟨info, z, e1, e2, e3, hsz, hzc, h3⟩ := isU8_some hT h2
      exact (toStr_ok a3 e3 b3 hx h3).does
    · rename_i he
      obtain rfl := tk_string he
      exact (strKeep_ok a3 b3 hx h2).reads.does
    · cases h2
  · rename_i e hk
    obtain rfl := tk_slice hk
    exact fromStr_ok hT a3 b3 hx h2
  · cases h2
theorem oNil_ok {x : AV} {g : G} {r : AV × G} {a : Value} (hx : VR ρ (Dm E g.nx) x a) (h : oNil x g = some r) : ((∃ A, a = .pointer (some A)) ∨ ∃ f as bs, a = .func (.func f) as bs) ∧ r.2 = g ∧ VR ρ (Dm E g.nx) r.1 a := by
  unfold oNil at h
  split at h
  · obtain rfl := rok_some h
    obtain ⟨rfl, hB⟩ := hx.ptr_inv
    exact ⟨.inl ⟨_, rfl⟩, rfl, hx⟩
  · obtain rfl := rok_some h
    refine ⟨.inr ?_, rfl, hx⟩
    cases hx
    exact ⟨_, _, _, rfl⟩
  · cases h
theorem oPick_ok {c x y : AV} {g : G} {r : AV × G} {a b d : Value} (hc : VR ρ (Dm E g.nx) c a) (hx : VR ρ (Dm E g.nx) x b) (hy : VR ρ (Dm E g.nx) y d) (h : oPick c x y g = some r) : OpDoes P E ρ g r (do pure (Next.value (if ← asBool a then b else d))) := by
  obtain ⟨s, t, rfl, h1⟩ := boolOf_some h
  obtain rfl := hc.bool_inv
  obtain ⟨z, g1, hp, hcc, h2⟩ := test_some h1
  obtain rfl := rok_some h2
  refine ⟨hp.pc, by rw [hp.nx]; exact Nat.le_refl _, fun p hE w hw => ⟨.value (if t then b else d), w, ρ, ?_, (Eff.refl hw).pcR hp, .inl ⟨_, rfl, ?_⟩⟩⟩
  · simp [asBool]
  · rw [hcc p, hp.nx]
    cases z with
    | true => exact hx
    | false => exact hy
noncomputable def plainOp : Op → Bool
  | .call c => (match c.callee with | .builtin b => !isRecover b | _ => false)
  | .defer _ => false
  | .panic _ => false
  | _ => true
theorem ev1_some {env : Tr AV} {as : List Operand} {f : AV → R AV} {r : AV × G} (h : ev1 env as f = some r) : ∃ x, as = [x] ∧ f (ev env x) = some r := by
  unfold ev1 at h
  split at h
  · exact ⟨_, rfl, h⟩
  · cases h
theorem ev2_some {env : Tr AV} {as : List Operand} {f : AV → AV → R AV} {r : AV × G} (h : ev2 env as f = some r) : ∃ x y, as = [x, y] ∧ f (ev env x) (ev env y) = some r := by
  unfold ev2 at h
  split at h
  · exact ⟨_, _, rfl, h⟩
  · cases h
theorem arr1 {α : Type} {as : Array α} {x : α} (h : as.toList = [x]) : as = #[x] := by apply Array.toList_inj.1; rw [h]
theorem arr2 {α : Type} {as : Array α} {x y : α} (h : as.toList = [x, y]) : as = #[x, y] := by apply Array.toList_inj.1; rw [h]
theorem oBuiltin_ok (hT : TabOk P T) {env : Tr AV} {a : Act} {b : Builtin} {args : Array Operand} {ts : Array TypeId} {ty : Nat} {cs : Array Bool} {g : G} {r : AV × G} (he : ∀ x ∈ args.toList, VR ρ (Dm E g.nx) (ev env x) (a.eval x)) (h : oBuiltin T env b args.toList ts.toList g = some r) :
    OpDoes P E ρ g r (builtin b ts ty cs (args.map a.eval)) := by
  unfold oBuiltin at h
  split at h
  · obtain ⟨t, l, hl, h1⟩ := ty1_some h
    obtain ⟨x, hx, h2⟩ := ev1_some h1
    obtain rfl := arr1 hx
    rw [show Array.map a.eval #[x] = #[a.eval x] from by simp]
    exact (oLen_ok hT hl (he x (by simp)) h2).op
  · obtain ⟨x, y, hx, h2⟩ := ev2_some h
    obtain rfl := arr2 hx
    rw [show Array.map a.eval #[x, y] = #[a.eval x, a.eval y] from by simp]
    exact (oMin_ok (he x (by simp)) (he y (by simp)) h2).op
  · obtain ⟨x, y, hx, h2⟩ := ev2_some h
    obtain rfl := arr2 hx
    rw [show Array.map a.eval #[x, y] = #[a.eval x, a.eval y] from by simp]
    exact (oMax_ok (he x (by simp)) (he y (by simp)) h2).op
  · obtain ⟨x, y, hx, h2⟩ := ev2_some h
    obtain rfl := arr2 hx
    rw [show Array.map a.eval #[x, y] = #[a.eval x, a.eval y] from by simp]
    exact (oAppend_ok hT (he x (by simp)) (he y (by simp)) h2).op
  · obtain ⟨x, y, hx, h2⟩ := ev2_some h
    obtain rfl := arr2 hx
    rw [show Array.map a.eval #[x, y] = #[a.eval x, a.eval y] from by simp]
    exact (oCopy_ok hT (he x (by simp)) (he y (by simp)) h2).op
  · cases h
theorem mem_parts1 {t : Nat} {ps : Array (Nat × Operand)} {p : Nat × Operand} (hp : p ∈ ps) : p.2 ∈ (Op.build t ps).operands := by
  simp only [Op.operands]
  simp
  exact ⟨p.1, by simpa using hp⟩
theorem mem_parts2 {t n : Nat} {ps : Array (Nat × Operand)} {p : Nat × Operand} (hp : p ∈ ps) : p.2 ∈ (Op.buildSlice t n ps).operands := by
  simp only [Op.operands]
  simp
  exact ⟨p.1, by simpa using hp⟩
theorem plain_okV (hT : TabOk P T) {call : CallT} {st : St} {a : Act} {o : Oper} {q : Option AV × St} (he : ∀ x ∈ o.op.operands, VR ρ (Dm E st.g.nx) (ev st.env x) (a.eval x)) (hp : plainOp o.op = true) (h : opRun o.op T call o.dst st = some q) :
    ∃ v g', q = (none, setD o.dst v st g') ∧ OpDoes P E ρ st.g (v, g') (execOp a.eval o) := by
  obtain ⟨dst, op, type, pos, after, guard⟩ := o
  simp only at hp h he ⊢
  cases op <;> simp only [opRun, fV, fU] at h
  case move x => obtain ⟨v, g', h1, rfl⟩ := oV_some h; obtain ⟨rfl, rfl⟩ := Prod.mk.inj (rok_some h1); exact ⟨_, _, rfl, move_does (he x (by simp [Op.operands]))⟩
  case assign x => obtain ⟨v, g', h1, rfl⟩ := oV_some h; obtain ⟨rfl, rfl⟩ := Prod.mk.inj (rok_some h1); exact ⟨_, _, rfl, move_does (he x (by simp [Op.operands]))⟩
  case pick c x y => obtain ⟨v, g', h1, rfl⟩ := oV_some h; exact ⟨_, _, rfl, oPick_ok (he c (by simp [Op.operands])) (he x (by simp [Op.operands])) (he y (by simp [Op.operands])) h1⟩
  case alloc t => obtain ⟨v, g', h1, rfl⟩ := oV_some h; exact ⟨_, _, rfl, (oAlloc_ok hT h1 _).op⟩
  case box t x => obtain ⟨v, g', h1, rfl⟩ := oV_some h; exact ⟨_, _, rfl, (oBox_ok (he x (by simp [Op.operands])) h1).op⟩
  case build t ps => obtain ⟨v, g', h1, rfl⟩ := oV_some h; exact ⟨_, _, rfl, (oBuild_ok hT (parts_okV (fun p hp => he p.2 (mem_parts1 hp))) h1).op⟩
  case buildSlice t n ps => obtain ⟨v, g', h1, rfl⟩ := oV_some h; exact ⟨_, _, rfl, (oBuildSlice_ok hT (parts_okV (fun p hp => he p.2 (mem_parts2 hp))) h1).op⟩
  case load t x => obtain ⟨v, g', h1, rfl⟩ := oV_some h; exact ⟨_, _, rfl, (oLoad_ok hT (he x (by simp [Op.operands])) h1).op⟩
  case store t p x => obtain ⟨g', h1, rfl⟩ := oU_some h; exact ⟨_, _, rfl, (oStore_ok hT (he p (by simp [Op.operands])) (he x (by simp [Op.operands])) h1).op⟩
  case nilCheck x =>
    obtain ⟨v, g', h1, rfl⟩ := oV_some h
    obtain ⟨hh, rfl, hv⟩ := oNil_ok (he x (by simp [Op.operands])) h1
    refine ⟨_, _, rfl, ?_⟩
    rcases hh with ⟨A, hA⟩ | ⟨f, as, bs, hA⟩
    · rw [hA] at hv
      have : execOp a.eval ⟨dst, .nilCheck x, type, pos, after, guard⟩ = pure (Next.value (.pointer (some A))) := by simp [execOp, hA]
      rw [this]; exact move_does hv
    · rw [hA] at hv
      have : execOp a.eval ⟨dst, .nilCheck x, type, pos, after, guard⟩ = pure (Next.value (.func (.func f) as bs)) := by simp [execOp, hA]
      rw [this]; exact move_does hv
  case binOp op t x y k => 
    obtain ⟨v, g', h1, rfl⟩ := oV_some h
    exact ⟨_, _, rfl, (bin_ok hT (X := x) (Y := y) (fun hh => by rwa [Bool.or_eq_true] at hh) (he x (by simp [Op.operands])) (he y (by simp [Op.operands])) h1).op⟩
  case unOp op t x => obtain ⟨v, g', h1, rfl⟩ := oV_some h; exact ⟨_, _, rfl, (un_ok (he x (by simp [Op.operands])) h1).op⟩
  case convert s d x => obtain ⟨v, g', h1, rfl⟩ := oV_some h; exact ⟨_, _, rfl, (oConv_ok hT (he x (by simp [Op.operands])) h1).op⟩
  case makeInterface t x =>
    obtain ⟨v, g', h1, rfl⟩ := oV_some h
    obtain ⟨i, hi, h2⟩ := ti_some h1
    obtain ⟨info, z, d, e1, e2, e3, hee⟩ := hT.ti t i hi
    subst hee
    obtain ⟨hb, h3⟩ := guardB_some h2
    obtain ⟨rfl, rfl⟩ := Prod.mk.inj (rok_some h3)
    refine ⟨_, _, rfl, (Does.op (s := Instr.makeInterface t (a.eval x)) ⟨id, Nat.le_refl _, fun p hE w hw => ⟨.iface t (a.eval x), w, ρ, ?_, .refl hw, .ifc _ _ _ (he x (by simp [Op.operands]))⟩⟩)⟩
    simp only [Instr.makeInterface, Sem.run_bind, run_underlying e3, Result.andThen_ok]
    cases d <;> first | rfl | (exact absurd hb (by simp [tkD, TK.tag]))
  case makeFunc f xs ys =>
    obtain ⟨v, g', h1, rfl⟩ := oV_some h
    obtain ⟨rfl, rfl⟩ := Prod.mk.inj (rok_some h1)
    have e1 := evs_okV (fun x (hx : x ∈ xs.toList) => he x (by simp only [Op.operands]; exact Array.mem_append_left _ (Array.mem_def.2 hx)))
    have e2 := evs_okV (fun x (hx : x ∈ ys.toList) => he x (by simp only [Op.operands]; exact Array.mem_append_right _ (Array.mem_def.2 hx)))
    refine ⟨_, _, rfl, (Does.op (s := Instr.makeFunc f (xs.map a.eval) (ys.map a.eval)) ⟨id, Nat.le_refl _, fun p hE w hw => ⟨_, w, ρ, rfl, .refl hw, ?_⟩⟩)⟩
    exact .fn f _ _ _ _ (by simp) (fun i x b hx hb => e1.2 i x b hx (by simpa using hb)) (by simp) (fun i x b hx hb => e2.2 i x b hx (by simpa using hb))
  case makeMap t x =>
    obtain ⟨v, g', h1, rfl⟩ := oV_some h
    obtain ⟨i, hi, h2⟩ := ti_some h1
    obtain ⟨info, z, d, e1, e2, e3, hee⟩ := hT.ti t i hi
    subst hee
    obtain ⟨hb, h3⟩ := guardB_some h2
    obtain ⟨kt, e, rfl⟩ : ∃ kt e, d = .map kt e := by
      have := beq_iff.1 hb
      cases d <;> first | exact ⟨_, _, rfl⟩ | (exact absurd this (by simp [tkD, TK.tag]))
    exact ⟨_, _, rfl, (oMakeMap_ok e3 (ov_okV (fun y hy => he y (by subst hy; simp [Op.operands]))) h3).op⟩
  case makeSlice t n c => obtain ⟨v, g', h1, rfl⟩ := oV_some h; exact ⟨_, _, rfl, (oMakeSlice_ok hT (he n (by simp [Op.operands])) (he c (by simp [Op.operands])) h1).op⟩
  case slice t x lo hi mx =>
    cases mx with
    | none => obtain ⟨v, g', h1, rfl⟩ := oV_some h; exact ⟨_, _, rfl, (oSlice_ok hT (he x (by simp [Op.operands])) (ov_okV (fun y hy => he y (by subst hy; simp [Op.operands]))) (ov_okV (fun y hy => he y (by subst hy; simp [Op.operands]))) h1).op⟩
    | some m => cases h
  case fieldAddr t x f => obtain ⟨v, g', h1, rfl⟩ := oV_some h; exact ⟨_, _, rfl, (oFieldAddr_ok hT (he x (by simp [Op.operands])) h1).op⟩
  case field t x f => obtain ⟨v, g', h1, rfl⟩ := oV_some h; exact ⟨_, _, rfl, (oField_ok hT (he x (by simp [Op.operands])) h1).op⟩
  case indexAddr t x i => obtain ⟨v, g', h1, rfl⟩ := oV_some h; exact ⟨_, _, rfl, (oIndexAddr_ok hT (he x (by simp [Op.operands])) (he i (by simp [Op.operands])) h1).op⟩
  case index t x i => obtain ⟨v, g', h1, rfl⟩ := oV_some h; exact ⟨_, _, rfl, (oIndex_ok hT (he x (by simp [Op.operands])) (he i (by simp [Op.operands])) h1).op⟩
  case lookup t m k ok => obtain ⟨v, g', h1, rfl⟩ := oV_some h; exact ⟨_, _, rfl, (oLookup_ok hT (he m (by simp [Op.operands])) (he k (by simp [Op.operands])) h1).op⟩
  case mapUpdate t m k x => obtain ⟨g', h1, rfl⟩ := oU_some h; exact ⟨_, _, rfl, (oMapUpdate_ok hT (he m (by simp [Op.operands])) (he k (by simp [Op.operands])) (he x (by simp [Op.operands])) h1).op⟩
  case insert t m k x => obtain ⟨g', h1, rfl⟩ := oU_some h; exact ⟨_, _, rfl, (oMapUpdate_ok hT (he m (by simp [Op.operands])) (he k (by simp [Op.operands])) (he x (by simp [Op.operands])) h1).op⟩
  case typeAssert x xt t ok => obtain ⟨v, g', h1, rfl⟩ := oV_some h; exact ⟨_, _, rfl, (oAssert_ok hT (he x (by simp [Op.operands])) h1).op⟩
  case extract t i => obtain ⟨v, g', h1, rfl⟩ := oV_some h; exact ⟨_, _, rfl, (oExtract_ok (he t (by simp [Op.operands])) h1).op⟩
  case call c =>
    obtain ⟨callee, args, ats⟩ := c
    cases callee with
    | value f => cases hp
    | invoke r m => cases hp
    | builtin b =>
      have hr : isRecover b = false := by simpa [plainOp] using hp
      have h0 : oCall ⟨.builtin b, args, ats⟩ T call dst st = oV dst st (oBuiltin T st.env b args.toList ats.toList st.g) := by
        simp only [oCall, hr]
      have h1 : oCall ⟨.builtin b, args, ats⟩ T call dst st = some q := h
      rw [h0] at h1
      obtain ⟨v, g', h2, rfl⟩ := oV_some h1
      exact ⟨_, _, rfl, oBuiltin_ok hT (fun x hx => he x (by simp only [Op.operands, Call.operands]; simpa using hx)) h2⟩
  case defer c => cases hp
  case panic x => cases hp
  all_goals cases h
theorem plain_ok (hT : TabOk P T) {call : CallT} {st : St} {a : Act} {N : Nat} {o : Oper} {q : Option AV × St} (he : EnvR ρ (Dm E st.g.nx) st.env a N) (hg : Gl ρ st.g.nx) (hp : plainOp o.op = true) (h : opRun o.op T call o.dst st = some q) :
    ∃ v g', q = (none, setD o.dst v st g') ∧ OpDoes P E ρ st.g (v, g') (execOp a.eval o) := plain_okV hT (fun x _ => ev_ok he hg x) hp h
end
end Go.Proofs.YtkclgbccnbiojaaGreatDoor.SX

namespace Go.Proofs.YtkclgbccnbiojaaGreatDoor.SX
/-- later: more is told, more blocks are known -/
structure Le (g g' : G) : Prop where
  pc : g'.pc → g.pc
  nx : g.nx ≤ g'.nx
theorem Le.refl (g : G) : Le g g := ⟨id, Nat.le_refl _⟩
theorem Le.trans {g g1 g2 : G} (h : Le g g1) (k : Le g1 g2) : Le g g2 := ⟨fun p => h.pc (k.pc p), Nat.le_trans h.nx k.nx⟩
theorem Le.set {g g1 : G} (h : Le g g1) (b : Nat) (o : Option AObj) : Le g (g1.set b o) := ⟨h.pc, h.nx⟩
theorem Le.pcs {g g1 g2 : G} (h : Le g g1) (k : Pc g1 g2) : Le g g2 := ⟨fun p => h.pc (k.pc p), by rw [k.nx]; exact h.nx⟩
def Mo {α : Type} (g : G) (r : R α) : Prop := ∀ a g', r = some (a, g') → Le g g'
section
variable {α β : Type} {T : Tab} {g g1 : G}
theorem Mo.none : Mo g (none : R α) := fun a g' h => by cases h
theorem Mo.some {a : α} (h : Le g g1) : Mo g (some (a, g1)) := fun a g' e => by injection e with e; obtain ⟨rfl, rfl⟩ := Prod.mk.inj e; exact h
theorem Mo.rok {a : α} (h : Le g g1) : Mo g (rok a g1) := Mo.some h
theorem Mo.guardB {b : Bool} {r : R α} (h : Mo g r) : Mo g (guardB b r) := fun a g' e => h a g' (guardB_some e).2
theorem Mo.chk {s c : Bool} {k : G → R α} (hg : Le g g1) (h : ∀ g2, Le g g2 → Mo g (k g2)) : Mo g (chk s c g1 k) := fun a g' e => by
  obtain ⟨g2, hp, _, e1⟩ := chk_some e
  exact h g2 (hg.pcs hp) a g' e1
theorem Mo.test {s c : Bool} {k : Bool → G → R α} (hg : Le g g1) (h : ∀ b g2, Le g g2 → Mo g (k b g2)) : Mo g (test s c g1 k) := fun a g' e => by
  obtain ⟨b, g2, hp, _, e1⟩ := test_some e
  exact h b g2 (hg.pcs hp) a g' e1
theorem Mo.ti {t : Nat} {f : TI → R α} (h : ∀ i, Mo g (f i)) : Mo g (ti T t f) := fun a g' e => by
  obtain ⟨i, _, e1⟩ := ti_some e
  exact h i a g' e1
theorem Mo.elem {i : TI} {f : Nat → R α} (h : ∀ e, Mo g (f e)) : Mo g (i.elem f) := fun a g' e => by
  obtain ⟨x, _, e1⟩ := elem_some e
  exact h x a g' e1
theorem Mo.obj {b : Nat} {f : AObj → R α} (h : ∀ o, Mo g (f o)) : Mo g (obj g1 b f) := fun a g' e => by
  obtain ⟨o, _, e1⟩ := obj_some e
  exact h o a g' e1
theorem Mo.obind {x : Option β} {f : β → R α} (h : ∀ b, Mo g (f b)) : Mo g (obind x f) := fun a g' e => by
  obtain ⟨b, _, e1⟩ := obind_some e
  exact h b a g' e1
theorem Mo.alloc {o : AObj} {k : Nat → G → R α} (hg : Le g g1) (h : ∀ n g2, Le g g2 → Mo g (k n g2)) : Mo g (alloc g1 o k) := fun a g' e => by
  obtain ⟨_, e1⟩ := alloc_some e
  refine h _ _ ?_ a g' e1
  exact ⟨hg.pc, Nat.le_trans hg.nx (Nat.le_succ _)⟩
theorem Mo.int {v : AV} {f : Bool → IntKind → Int → R α} (h : ∀ s k n, Mo g (f s k n)) : Mo g (intOf v f) := fun a g' e => by
  obtain ⟨s, k, n, _, e1⟩ := intOf_some e
  exact h s k n a g' e1
theorem Mo.str {v : AV} {f : Bool → List Nat → R α} (h : ∀ s b, Mo g (f s b)) : Mo g (strOf v f) := fun a g' e => by
  obtain ⟨s, n, _, e1⟩ := strOf_some e
  exact h s n a g' e1
theorem Mo.bool {v : AV} {f : Bool → Bool → R α} (h : ∀ s b, Mo g (f s b)) : Mo g (boolOf v f) := fun a g' e => by
  obtain ⟨s, n, _, e1⟩ := boolOf_some e
  exact h s n a g' e1
theorem Mo.at {cs : List AV} {o : Nat} (h : Le g g1) : Mo g (at_ cs o g1) := fun a g' e => by
  obtain ⟨_, e1⟩ := at_some e
  subst e1; exact h
theorem Mo.ptr {v : AV} {f : Nat → Nat → R α} (h : ∀ s b, Mo g (f s b)) : Mo g (ptrOf v f) := fun a g' e => by
  obtain ⟨s, n, _, e1⟩ := ptrOf_some e
  exact h s n a g' e1
theorem Mo.optInt {d : Nat} {v : Option AV} {f : Bool → Int → R AV} (h : ∀ s n, Mo g (f s n)) : Mo g (optInt d v f) := by
  unfold SX.optInt
  split
  · exact h _ _
  · exact Mo.int fun s _ n => h s n
theorem Mo.agg {v : AV} {f : List AV → R AV} (h : ∀ cs, Mo g (f cs)) : Mo g (aggOf v f) := fun a g' e => by
  obtain ⟨s, _, e1⟩ := aggOf_some e
  exact h s a g' e1
theorem Mo.ite {c : Bool} {a b : R α} (h : Mo g a) (k : Mo g b) : Mo g (bif c then a else b) := by cases c <;> assumption
theorem mo_isK {t tag : Nat} {r : R AV} (h : Mo g r) : Mo g (isK T t tag r) := Mo.ti fun i => Mo.guardB h
theorem mo_loadFrom {t o : Nat} {cs : List AV} (h : Le g g1) : Mo g (loadFrom T t cs o g1) := Mo.ti fun i => by
  split
  · exact Mo.guardB (Mo.rok h)
  · exact Mo.at h
theorem mo_fieldOf {i : TI} {f : Nat} {k : Nat → Nat → R AV} (h : ∀ o t, Mo g (k o t)) : Mo g (fieldOf i f k) := fun a g' e => by
  obtain ⟨fs, o, t, _, _, e1⟩ := fieldOf_some e
  exact h o t a g' e1
theorem mo_oLoad {t : Nat} {p : AV} : Mo g (oLoad T t p g) := by
  unfold oLoad
  split
  · refine Mo.obj fun o => ?_
    unfold ldCell
    split
    · exact mo_loadFrom (.refl g)
    · exact mo_isK (Mo.chk (.refl g) fun g2 h => Mo.rok h)
    · exact Mo.none
  · refine Mo.obj fun o => ?_
    unfold ldRow
    split
    · exact mo_isK (Mo.guardB (Mo.chk (.refl g) fun g2 h => Mo.rok h))
    · exact Mo.guardB (Mo.chk (.refl g) fun g2 h => mo_loadFrom h)
    · exact Mo.none
  · refine Mo.obj fun o => ?_
    unfold ldOut
    split
    · exact Mo.guardB (Mo.chk (.refl g) fun g2 h => mo_loadFrom h)
    · exact Mo.none
  · exact Mo.none
theorem mo_stNum {b e i : Nat} {k : IntKind} {xs : List Int} {gr : Bool} {x : AV} : Mo g (stNum b e k xs gr i x g) := by
  unfold stNum
  split
  · exact Mo.guardB (Mo.chk (.refl g) fun g2 h => Mo.rok (h.set _ _))
  · exact Mo.none
theorem mo_fits {t : Nat} {v : AV} {r : R Unit} (h : Mo g r) : Mo g (fits T t v r) := Mo.ti fun i => Mo.guardB h
theorem mo_oStore {t : Nat} {p x : AV} : Mo g (oStore T t p x g) := by
  unfold oStore
  split
  · refine Mo.obj fun o => ?_
    unfold stCell
    split
    · exact mo_fits (Mo.guardB (Mo.rok ((Le.refl g).set _ _)))
    · exact mo_fits mo_stNum
    · exact Mo.none
  · refine Mo.obj fun o => ?_
    unfold stRow
    split
    · exact mo_fits (Mo.guardB mo_stNum)
    · exact Mo.none
  · exact Mo.none
theorem mo_binInt {op : BinOp} {s s' : Bool} {k : IntKind} {a b : Int} : Mo g (binInt op s s' k a b g) := by
  cases op <;> first | exact Mo.rok (.refl g) | exact Mo.chk (.refl g) fun g2 h => Mo.rok h
theorem mo_binEq {op : BinOp} {s b : Bool} (h : Le g g1) : Mo g (binEq op s b g1) := by
  cases op <;> first | exact Mo.rok h | exact Mo.none
theorem mo_bin {op : BinOp} {t : Nat} {c : Bool} {x y : AV} : Mo g (bin T op t c x y g) := by
  have nl : ∀ n, Mo g (binNil op n g) := fun n => by cases n <;> first | exact mo_binEq (.refl g) | exact Mo.none
  have onl : ∀ n, Mo g (onlyNil op n g) := fun n => by cases n <;> first | exact mo_binEq (.refl g) | exact Mo.none
  unfold bin
  split
  · exact Mo.int fun _ _ _ => Mo.guardB mo_binInt
  · refine Mo.str fun s b => ?_
    cases op <;> first | exact Mo.rok (.refl g) | exact Mo.none | exact Mo.chk (.refl g) fun g2 h => Mo.rok h
  · exact Mo.bool fun _ _ => mo_isK (mo_binEq (.refl g))
  all_goals first | exact mo_isK (nl _) | exact mo_isK (onl _) | exact mo_isK (Mo.guardB (nl _)) | exact Mo.none
theorem mo_un {op : UnOp} {v : AV} : Mo g (un op v g) := by
  cases op <;> simp only [un]
  case not => unfold unNot; split <;> first | exact Mo.rok (.refl g) | exact Mo.none
  case neg => exact Mo.int fun _ _ _ => Mo.rok (.refl g)
  case xor => exact Mo.int fun _ _ _ => Mo.rok (.refl g)
  all_goals exact Mo.none
theorem mo_convert {s d : Nat} {x : AV} : Mo g (oConv T s d x g) := by
  have u8 : ∀ {e : Nat} {r : R AV}, Mo g r → Mo g (isU8 T e r) := fun h => Mo.ti fun i => by
    split
    · exact h
    · exact Mo.none
  refine Mo.ti fun si => Mo.ti fun di => ?_
  unfold oConvK
  split
  · exact Mo.int fun _ _ _ => Mo.rok (.refl g)
  · unfold convStr
    split
    · refine u8 ?_
      unfold toStr
      split
      · exact Mo.rok (.refl g)
      · refine Mo.obj fun o => ?_
        unfold toStrO
        split
        · exact Mo.guardB (Mo.obind fun _ => Mo.rok (.refl g))
        · exact Mo.chk (.refl g) fun g2 h => Mo.rok h
        · exact Mo.none
      · exact Mo.none
    · unfold strKeep
      split
      · exact Mo.rok (.refl g)
      · exact Mo.none
    · exact Mo.none
  · refine u8 ?_
    unfold fromStr
    split
    · exact Mo.alloc (.refl g) fun _ _ h => Mo.rok h
    · exact Mo.alloc (.refl g) fun _ _ h => Mo.rok h
    · exact Mo.none
  · exact Mo.none
theorem mo_oFieldAddr {t f : Nat} {x : AV} : Mo g (oFieldAddr T t x f g) := by
  unfold oFieldAddr
  split
  · exact Mo.ti fun _ => mo_fieldOf fun _ _ => Mo.ti fun _ => Mo.guardB (Mo.rok (.refl g))
  · exact Mo.ti fun _ => mo_fieldOf fun _ _ => Mo.ti fun _ => Mo.guardB (Mo.rok (.refl g))
  · exact Mo.ti fun _ => mo_fieldOf fun _ _ => Mo.ti fun _ => Mo.guardB (Mo.rok (.refl g))
  · exact Mo.none
theorem mo_oField {t f : Nat} {x : AV} : Mo g (oField T t x f g) := Mo.agg fun _ => Mo.ti fun _ => mo_fieldOf fun _ _ => mo_loadFrom (.refl g)
theorem mo_ixAddr {s : Bool} {b o sz j : Nat} (h : Le g g1) : Mo g (ixAddr s b o sz j g1) := by
  unfold ixAddr
  split
  · exact Mo.rok h
  · split
    · exact Mo.rok h
    · exact Mo.guardB (Mo.rok h)
theorem mo_oIndexAddr {t : Nat} {x i : AV} : Mo g (oIndexAddr T t x i g) := Mo.int fun _ _ _ => Mo.ti fun _ => by
  unfold oIndexAddrK
  split
  · unfold ixSlice
    split
    · exact Mo.chk (.refl g) fun g2 h => Mo.ti fun _ => mo_ixAddr h
    · exact Mo.chk (.refl g) fun g2 h => Mo.ti fun _ => Mo.rok h
    · exact Mo.none
  · unfold ixArr
    split
    · exact Mo.chk (.refl g) fun g2 h => Mo.ti fun _ => mo_ixAddr h
    · exact Mo.guardB (Mo.guardB (Mo.ti fun _ => Mo.rok (.refl g)))
    · exact Mo.none
  · exact Mo.none
theorem mo_oIndex {t : Nat} {x i : AV} : Mo g (oIndex T t x i g) := Mo.int fun _ _ _ => Mo.ti fun _ => by
  unfold oIndexK
  split
  · exact Mo.str fun _ _ => Mo.chk (.refl g) fun g2 h => Mo.rok h
  · exact Mo.agg fun _ => Mo.chk (.refl g) fun g2 h => Mo.ti fun _ => mo_loadFrom h
  · exact Mo.none
theorem mo_cutSl {s : Bool} {sz b o n : Nat} {c : Cap} {l h : Int} : Mo g (cutSl s sz b o n c l h g) := by
  unfold cutSl
  split
  · refine Mo.chk (.refl g) fun g2 h2 => ?_
    exact Mo.test h2 fun z g3 h3 => by cases z <;> exact Mo.rok h3
  · refine Mo.chk (.refl g) fun g2 h2 => ?_
    exact Mo.test h2 fun z g3 h3 => by cases z <;> exact Mo.rok h3
theorem mo_oSlice {t : Nat} {x : AV} {lo hi : Option AV} : Mo g (oSlice T t x lo hi g) := by
  unfold oSlice
  split
  · exact mo_isK (Mo.optInt fun _ _ => Mo.optInt fun _ _ => Mo.chk (.refl g) fun g2 h => Mo.rok h)
  · exact Mo.ti fun _ => Mo.elem fun _ => Mo.ti fun _ => Mo.optInt fun _ _ => Mo.optInt fun _ _ => Mo.guardB (Mo.rok (.refl g))
  · exact Mo.ti fun _ => Mo.elem fun _ => Mo.ti fun _ => Mo.optInt fun _ _ => Mo.optInt fun _ _ => mo_cutSl
  · refine Mo.ti fun _ => ?_
    unfold cutArr
    split
    · exact Mo.ti fun _ => Mo.optInt fun _ _ => Mo.optInt fun _ _ => mo_cutSl
    · exact Mo.none
  · exact Mo.none
theorem mo_oMakeSlice {t : Nat} {n c : AV} : Mo g (oMakeSlice T t n c g) := by
  refine Mo.int fun _ _ _ => Mo.int fun _ _ _ => Mo.chk (.refl g) fun g2 h => Mo.ti fun _ => Mo.elem fun _ => Mo.ti fun _ => Mo.chk h fun g3 h3 => ?_
  unfold mkSl
  split
  · exact Mo.alloc h3 fun _ _ h => Mo.rok h
  · unfold mkNums
    split
    · exact Mo.guardB (Mo.alloc h3 fun _ _ h => Mo.rok h)
    · exact Mo.none
theorem mo_entries {m : AV} {f : List (AV × AV) → R AV} (h : ∀ es, Mo g (f es)) : Mo g (entries m g f) := by
  unfold entries
  split
  · exact h _
  · refine Mo.obj fun o => ?_
    unfold AObj.mapD
    split
    · exact h _
    · exact Mo.none
  · exact Mo.none
theorem mo_oLookup {t : Nat} {m k : AV} {ok : Bool} : Mo g (oLookup T t m k ok g) := Mo.ti fun _ => by
  split
  · refine Mo.ti fun _ => Mo.guardB (Mo.ti fun _ => mo_entries fun es => ?_)
    unfold foundV
    split
    · exact Mo.rok (.refl g)
    · exact Mo.rok (.refl g)
    · exact Mo.none
  · exact Mo.none
theorem mo_oMapUpdate {t : Nat} {m k v : AV} : Mo g (oMapUpdate T t m k v g) := Mo.ti fun _ => by
  split
  · refine Mo.ti fun _ => Mo.guardB ?_
    unfold mapPut
    split
    · refine Mo.obj fun o => ?_
      unfold AObj.mapD
      split
      · exact Mo.obind fun _ => Mo.rok ((Le.refl g).set _ _)
      · exact Mo.none
    · exact Mo.none
  · exact Mo.none
theorem mo_oAssert {x : AV} {a : Nat} {ok : Bool} : Mo g (oAssert T x a ok g) := by
  unfold oAssert
  split
  · exact Mo.ti fun _ => Mo.guardB (Mo.ite (Mo.rok (.refl g)) Mo.none)
  · exact Mo.none
theorem mo_srcOf {sz : Nat} {x : AV} {f : List AV → Nat → R AV} (h : ∀ cs n, Mo g (f cs n)) : Mo g (srcOf sz x g1 f) := by
  unfold srcOf
  split
  · exact h _ _
  · exact Mo.guardB (h _ _)
  · refine Mo.obj fun o => ?_
    unfold srcO
    split
    · exact Mo.guardB (h _ _)
    · exact Mo.none
  · exact Mo.none
theorem mo_nsrcOf {k : IntKind} {x : AV} {f : List Int → Nat → G → R AV} (hg : Le g g1) (h : ∀ xs n g2, Le g g2 → Mo g (f xs n g2)) : Mo g (nsrcOf k x g1 f) := by
  unfold nsrcOf
  split
  · exact h _ _ _ hg
  · exact Mo.guardB (h _ _ _ hg)
  · refine Mo.obj fun o => ?_
    unfold nsrcO
    split
    · exact Mo.guardB (Mo.obind fun _ => h _ _ _ hg)
    · exact Mo.guardB (Mo.chk hg fun g2 h2 => h _ _ _ h2)
    · exact Mo.none
  · exact Mo.none
theorem mo_appNew {e n bytes : Nat} {cs : List AV} (h : Le g g1) : Mo g (appNew e cs n bytes g1) := by
  unfold appNew room
  exact Mo.chk h fun _ h2 => Mo.alloc h2 fun _ _ h3 => Mo.rok h3
theorem mo_nappNew {e n bytes : Nat} {k : IntKind} {xs : List Int} (h : Le g g1) : Mo g (nappNew e k xs n bytes g1) := by
  unfold nappNew room
  exact Mo.chk h fun _ h2 => Mo.alloc h2 fun _ _ h3 => Mo.rok h3
theorem mo_appTo {e sz bytes : Nat} {k : TK} {s x : AV} : Mo g (appTo e sz bytes k s x g) := by
  unfold appTo
  split
  · unfold appNil
    split
    · split
      · exact Mo.guardB (Mo.test (.refl g) fun z g2 h => by
          cases z with
          | true => exact Mo.rok h
          | false => exact mo_nappNew h)
      · exact Mo.none
    · exact mo_srcOf fun _ _ => Mo.ite (Mo.rok (.refl g)) (mo_appNew (.refl g))
  · refine Mo.obj fun o => ?_
    unfold appO
    split
    · refine Mo.guardB (mo_srcOf fun cs n => ?_)
      split
      · exact Mo.guardB (Mo.ite (Mo.guardB (Mo.rok ((Le.refl g).set _ _))) (Mo.guardB (mo_appNew (.refl g))))
      · exact Mo.ite (Mo.rok (.refl g)) (Mo.guardB (mo_appNew ((Le.refl g).set _ _)))
    · refine Mo.guardB (mo_nsrcOf (.refl g) fun xs n g2 h => ?_)
      split
      · exact Mo.none
      · exact Mo.test h fun z g3 h3 => by
          cases z with
          | true => exact Mo.rok h3
          | false => exact Mo.guardB (Mo.chk h3 fun g4 h4 => mo_nappNew (h4.set _ _))
    · refine mo_srcOf fun cs n => ?_
      unfold appG room
      split
      · exact Mo.none
      · exact Mo.guardB (Mo.chk (.refl g) fun g2 h2 => Mo.chk (h2.set _ _) fun g3 h3 => Mo.alloc h3 fun _ _ h4 => Mo.rok h4)
    · exact Mo.none
  · exact Mo.none
theorem mo_copyTo {sz : Nat} {d x : AV} : Mo g (copyTo sz d x g) := by
  unfold copyTo
  split
  · exact mo_srcOf fun _ _ => Mo.rok (.refl g)
  · refine Mo.obj fun o => ?_
    unfold copyO
    split
    · exact Mo.guardB (mo_srcOf fun _ _ => Mo.guardB (Mo.rok ((Le.refl g).set _ _)))
    · exact Mo.guardB (mo_nsrcOf (.refl g) fun _ _ g2 h => Mo.chk h fun g3 h3 => Mo.rok (h3.set _ _))
    · exact Mo.none
  · exact Mo.none
theorem mo_oBuiltin {env : Tr AV} {b : Builtin} {as : List Operand} {ts : List TypeId} : Mo g (oBuiltin T env b as ts g) := by
  have t1 : ∀ {f : TypeId → R AV}, (∀ t, Mo g (f t)) → Mo g (ty1 ts f) := fun h => by
    unfold ty1
    split
    · exact h _
    · exact Mo.none
  have e1 : ∀ {f : AV → R AV}, (∀ t, Mo g (f t)) → Mo g (ev1 env as f) := fun h => by
    unfold ev1
    split
    · exact h _
    · exact Mo.none
  have e2 : ∀ {f : AV → AV → R AV}, (∀ t u, Mo g (f t u)) → Mo g (ev2 env as f) := fun h => by
    unfold ev2
    split
    · exact h _ _
    · exact Mo.none
  unfold oBuiltin
  split
  · refine t1 fun t => e1 fun x => ?_
    unfold oLen
    split
    · exact mo_isK (Mo.rok (.refl g))
    · exact mo_isK (Mo.rok (.refl g))
    · exact mo_isK (Mo.rok (.refl g))
    · exact mo_isK (Mo.rok (.refl g))
    · exact mo_isK (Mo.rok (.refl g))
    · refine mo_isK (Mo.obj fun o => ?_)
      unfold AObj.mapD
      split
      · exact Mo.rok (.refl g)
      · exact Mo.none
    · exact Mo.none
  · exact e2 fun x y => Mo.int fun _ _ _ => Mo.int fun _ _ _ => Mo.rok (.refl g)
  · exact e2 fun x y => Mo.int fun _ _ _ => Mo.int fun _ _ _ => Mo.rok (.refl g)
  · refine e2 fun x y => ?_
    unfold oAppend srcTy
    split
    · exact Mo.ti fun _ => Mo.guardB (Mo.ti fun _ => Mo.elem fun _ => Mo.ti fun _ => mo_appTo)
    · exact Mo.none
  · refine e2 fun x y => t1 fun t => Mo.ti fun _ => Mo.elem fun _ => Mo.ti fun _ => mo_copyTo
  · exact Mo.none
def MoO (g : G) (r : O) : Prop := ∀ v st', r = some (v, st') → Le g st'.g
theorem setD_g (d : Option Nat) (v : AV) (st : St) (g : G) : (setD d v st g).g = g := by cases d <;> rfl
theorem MoO.v {d : Option Nat} {st : St} {r : R AV} (h : Mo g r) : MoO g (oV d st r) := fun v st' e => by
  obtain ⟨x, g', h1, h2⟩ := oV_some e
  obtain ⟨_, rfl⟩ := Prod.mk.inj h2
  rw [setD_g]
  exact h x g' h1
theorem MoO.u {d : Option Nat} {st : St} {r : R Unit} (h : Mo g r) : MoO g (oU d st r) := fun v st' e => by
  obtain ⟨g', h1, h2⟩ := oU_some e
  obtain ⟨_, rfl⟩ := Prod.mk.inj h2
  rw [setD_g]
  exact h () g' h1
theorem MoO.none : MoO g Option.none := fun v st' e => by cases e
theorem MoO.some {v : Option AV} {st : St} (h : Le g st.g) : MoO g (Option.some (v, st)) := fun v st' e => by injection e with e; obtain ⟨_, rfl⟩ := Prod.mk.inj e; exact h
def CallMo (call : CallT) : Prop := ∀ pm f args g cr pm' g', call pm f args g = some (cr, pm', g') → Le g g'
theorem opRun_mo {call : CallT} (hc : CallMo call) {op : Op} {d : Option Nat} {st : St} : MoO st.g (opRun op T call d st) := by
  cases op <;> simp only [opRun, fV, fU]
  case move x => exact .v (Mo.rok (.refl _))
  case assign x => exact .v (Mo.rok (.refl _))
  case pick c x y => exact .v (Mo.bool fun _ _ => Mo.test (.refl _) fun _ _ h => Mo.rok h)
  case alloc t => exact .v (Mo.ti fun _ => Mo.alloc (.refl _) fun _ _ h => Mo.rok h)
  case box t x => exact .v (Mo.guardB (Mo.alloc (.refl _) fun _ _ h => Mo.rok h))
  case build t ps =>
    refine .v (Mo.ti fun _ => ?_)
    unfold oBuildK
    split
    · exact Mo.guardB (Mo.obind fun _ => Mo.rok (.refl _))
    · exact Mo.ti fun _ => Mo.obind fun _ => Mo.rok (.refl _)
    · exact Mo.none
  case buildSlice t n ps => exact .v (Mo.ti fun _ => Mo.elem fun _ => Mo.ti fun _ => Mo.guardB (Mo.obind fun _ => Mo.alloc (.refl _) fun _ _ h => Mo.rok h))
  case load t x => exact .v mo_oLoad
  case store t p x => exact .u mo_oStore
  case nilCheck x =>
    refine .v ?_
    unfold oNil
    split
    · exact Mo.rok (.refl _)
    · exact Mo.rok (.refl _)
    · exact Mo.none
  case binOp op t x y k => exact .v mo_bin
  case unOp op t x => exact .v mo_un
  case convert s d x => exact .v mo_convert
  case makeInterface t x => exact .v (Mo.ti fun _ => Mo.guardB (Mo.rok (.refl _)))
  case makeFunc f xs ys => exact .v (Mo.rok (.refl _))
  case makeMap t x => exact .v (mo_isK (Mo.optInt fun _ _ => Mo.alloc (.refl _) fun _ _ h => Mo.rok h))
  case makeSlice t n c => exact .v mo_oMakeSlice
  case slice t x lo hi mx =>
    cases mx with
    | none => exact .v mo_oSlice
    | some m => exact .none
  case fieldAddr t x f => exact .v mo_oFieldAddr
  case field t x f => exact .v mo_oField
  case indexAddr t x i => exact .v mo_oIndexAddr
  case index t x i => exact .v mo_oIndex
  case lookup t m k ok => exact .v mo_oLookup
  case mapUpdate t m k x => exact .u mo_oMapUpdate
  case insert t m k x => exact .u mo_oMapUpdate
  case typeAssert x xt t ok => exact .v mo_oAssert
  case extract t i =>
    refine .v ?_
    unfold oExtract
    split
    · exact Mo.at (.refl _)
    · exact Mo.none
  case call c =>
    obtain ⟨callee, args, ats⟩ := c
    cases callee with
    | value f =>
      simp only [oCall]
      unfold oCallV
      split
      · unfold oCallR
        split
        · rename_i h
          refine .some ?_
          rw [setD_g]
          exact hc _ _ _ _ _ _ _ h
        · rename_i h
          exact .some (hc _ _ _ _ _ _ _ h)
        · exact .none
      · exact .none
    | builtin b =>
      simp only [oCall]
      cases isRecover b with
      | true =>
        simp only
        unfold oRecover
        split
        · exact .some (by simp only [setD_g]; exact .refl _)
        · exact .some (by rw [setD_g]; exact .refl _)
        · exact .some (by rw [setD_g]; exact .refl _)
        · exact .none
      | false => exact .v mo_oBuiltin
    | invoke r m => exact .none
  case defer c =>
    obtain ⟨callee, args, ats⟩ := c
    cases callee with
    | value f =>
      simp only [oDefer]
      unfold deferOp
      split
      · exact .some (by simp only [setD_g]; exact .refl _)
      · exact .none
    | builtin b => exact .none
    | invoke r m => exact .none
  case panic x =>
    unfold panicOp
    split
    · exact .some (.refl _)
    · exact .none
  all_goals exact .none
end
end Go.Proofs.YtkclgbccnbiojaaGreatDoor.SX

namespace Go.Proofs.YtkclgbccnbiojaaGreatDoor.SX
def ChainR (ρ : Rn) (D : Nat → Prop) (v : AV) (chain : List PanicEntry) : Prop := ∃ x older, chain = { v := x, recovered := false } :: older ∧ VR ρ D v x ∧ ∀ p ∈ older, p.goexit = false
def MR (ρ : Rn) (D : Nat → Prop) : PM → FrameMode → Prop
  | .no, _ => False
  | .ret, u => u = .returning
  | .pan v r, u => ∃ x older, u = .panicking ({ v := x, recovered := r } :: older) ∧ VR ρ D v x ∧ ∀ p ∈ older, p.goexit = false
def EndR (ρ : Rn) (D : Nat → Prop) : CR → Ending → Prop
  | .ret v, .returned x => VR ρ D v x
  | .pan v, .panicked chain => ChainR ρ D v chain
  | _, _ => False
def FnOk (P : Program) (f : FuncId) : Prop := ∃ fn c, P.funcs[f]? = some fn ∧ fn.body = some c ∧ (fn.name == "runtime.NumGoroutine") = false
structure CallOk (P : Program) (call : CallT) : Prop where
  mo : CallMo call
  ok : ∀ pm f args g cr pm' g', call pm f args g = some (cr, pm', g') → FnOk P f ∧ ∀ (E : Nat → Prop) (ρ : Rn) (vs : List Value) (w : World), g'.pc → (∀ b, E b → g'.nx ≤ b) → Gl ρ g.nx → LR ρ (Dm E g.nx) args vs → GR P ρ (Dm E g.nx) g.h.get w →
    (isNo pm = true → Calls P f vs.toArray w fun e w' => ∃ ρ', Eff P E ρ g w ρ' g' w' ∧ EndR ρ' (Dm E g'.nx) cr e) ∧
    (isNo pm = false → ∀ u, MR ρ (Dm E g.nx) pm u → CallsD P f vs.toArray u w fun e u' w' => ∃ ρ', Eff P E ρ g w ρ' g' w' ∧ EndR ρ' (Dm E g'.nx) cr e ∧ MR ρ' (Dm E g'.nx) pm' u')
def DR (ρ : Rn) (D : Nat → Prop) (p : AV × List AV) (d : Deferred) : Prop := ∃ f fs cs as, VR ρ D p.1 (.func f fs cs) ∧ LR ρ D p.2 as ∧ d = { target := .fn f cs, args := fs ++ as.toArray }
inductive DfR (ρ : Rn) (D : Nat → Prop) : List (AV × List AV) → List Deferred → Prop
  | nil : DfR ρ D [] []
  | cons {p : AV × List AV} {d : Deferred} {ps : List (AV × List AV)} {ds : List Deferred} (h : DR ρ D p d) (r : DfR ρ D ps ds) : DfR ρ D (p :: ps) (d :: ds)
def PMR (ρ : Rn) (D : Nat → Prop) (pm : PM) (kd : CallKind) (cs : List Frame) : Prop := isNo pm = true ∨ (kd = .deferred ∧ ∃ c rest, cs = c :: rest ∧ MR ρ D pm c.mode)
def Keep (pm : PM) (cs cs' : List Frame) : Prop := cs' = cs ∨ (isNo pm = false ∧ ∃ c rest u, cs = c :: rest ∧ cs' = { c with mode := u } :: rest)
section
variable {P : Program} {T : Tab} {E : Nat → Prop} {ρ ρ' : Rn} {D D' : Nat → Prop}
theorem ChainR.mono {v : AV} {c : List PanicEntry} (h : ChainR ρ D v c) (hD : ∀ b, D b → D' b ∧ ρ'.b b = ρ.b b ∧ ρ'.c b = ρ.c b) : ChainR ρ' D' v c := let ⟨x, o, h1, h2, h3⟩ := h; ⟨x, o, h1, h2.mono hD, h3⟩
theorem MR.mono {pm : PM} {u : FrameMode} (h : MR ρ D pm u) (hD : ∀ b, D b → D' b ∧ ρ'.b b = ρ.b b ∧ ρ'.c b = ρ.c b) : MR ρ' D' pm u := by
  cases pm with
  | no => exact h
  | ret => exact h
  | pan v r => obtain ⟨x, o, h1, h2, h3⟩ := h; exact ⟨x, o, h1, h2.mono hD, h3⟩
theorem DfR.mono {ps : List (AV × List AV)} {ds : List Deferred} (h : DfR ρ D ps ds) (hD : ∀ b, D b → D' b ∧ ρ'.b b = ρ.b b ∧ ρ'.c b = ρ.c b) : DfR ρ' D' ps ds := by
  induction h with
  | nil => exact .nil
  | cons h r ih =>
    obtain ⟨f, fs, cs, as, h1, h2, h3⟩ := h
    exact .cons ⟨f, fs, cs, as, h1.mono hD, h2.mono hD, h3⟩ ih
theorem PMR.mono {pm : PM} {kd : CallKind} {cs : List Frame} (h : PMR ρ D pm kd cs) (hD : ∀ b, D b → D' b ∧ ρ'.b b = ρ.b b ∧ ρ'.c b = ρ.c b) : PMR ρ' D' pm kd cs := h.imp id fun ⟨h1, c, r, h2, h3⟩ => ⟨h1, c, r, h2, h3.mono hD⟩
theorem Gl.mono {g g' : G} {w w' : World} (h : Gl ρ g.nx) (he : Eff P E ρ g w ρ' g' w') : Gl ρ' g'.nx := ⟨Nat.le_trans h.le he.nx, fun q hq => by rw [(he.ext q (.inl (Nat.lt_of_lt_of_le hq h.le))).1]; exact h.at_ q hq, fun q hq => by rw [(he.ext q (.inl (Nat.lt_of_lt_of_le hq h.le))).2]; exact h.c0 q hq⟩
theorem Keep.refl (pm : PM) (cs : List Frame) : Keep pm cs cs := .inl rfl
theorem Keep.trans {pm pm1 : PM} {cs cs1 cs2 : List Frame} (h : Keep pm cs cs1) (hn : isNo pm1 = isNo pm) (k : Keep pm1 cs1 cs2) : Keep pm cs cs2 := by
  rcases k with rfl | ⟨k1, c, r, u, k2, k3⟩
  · exact h
  · rw [hn] at k1
    rcases h with rfl | ⟨h1, c', r', u', h2, h3⟩
    · exact .inr ⟨k1, c, r, u, k2, k3⟩
    · refine .inr ⟨k1, c', r', u, h2, ?_⟩
      rw [h3] at k2
      obtain ⟨rfl, rfl⟩ := List.cons.inj k2
      exact k3
structure SR (P : Program) (E : Nat → Prop) (ρ : Rn) (st : St) (N : Nat) (a : Act) (w : World) (kd : CallKind) (cs : List Frame) : Prop where
  env : EnvR ρ (Dm E st.g.nx) st.env a N
  gl : Gl ρ st.g.nx
  df : DfR ρ (Dm E st.g.nx) st.df a.defers
  pm : PMR ρ (Dm E st.g.nx) st.pm kd cs
  gr : GR P ρ (Dm E st.g.nx) st.g.h.get w
structure To (P : Program) (E : Nat → Prop) (N : Nat) (kd : CallKind) (ρ : Rn) (st : St) (w : World) (cs : List Frame) (ρ' : Rn) (st' : St) (a' : Act) (w' : World) (cs' : List Frame) : Prop where
  sr : SR P E ρ' st' N a' w' kd cs'
  eff : Eff P E ρ st.g w ρ' st'.g w'
  no : isNo st'.pm = isNo st.pm
  keep : Keep st.pm cs cs'
variable {st st' : St} {N : Nat} {a a' : Act} {w w' : World} {kd : CallKind} {cs cs' : List Frame}
theorem SR.refl (h : SR P E ρ st N a w kd cs) : To P E N kd ρ st w cs ρ st a w cs := ⟨h, .refl h.gr, rfl, .refl _ _⟩
theorem To.trans {ρ1 ρ2 : Rn} {st1 st2 : St} {a1 a2 : Act} {w1 w2 : World} {cs1 cs2 : List Frame} (h : To P E N kd ρ st w cs ρ1 st1 a1 w1 cs1) (k : To P E N kd ρ1 st1 w1 cs1 ρ2 st2 a2 w2 cs2) : To P E N kd ρ st w cs ρ2 st2 a2 w2 cs2 :=
  ⟨k.sr, h.eff.trans k.eff, k.no.trans h.no, h.keep.trans h.no k.keep⟩
theorem SR.step {g' : G} (hs : SR P E ρ st N a w kd cs) (he : Eff P E ρ st.g w ρ' g' w') : To P E N kd ρ st w cs ρ' { st with g := g' } a w' cs :=
  ⟨⟨hs.env.mono he.use, hs.gl.mono he, hs.df.mono he.use, hs.pm.mono he.use, he.gr⟩, he, rfl, .refl _ _⟩
theorem put_defers (a : Act) (d : Option Nat) (x : Value) : (a.put d x).defers = a.defers := by cases d <;> rfl
theorem setD_eq (d : Option Nat) (v : AV) (st : St) (g : G) : setD d v st g = { st with env := (match d with | some d => st.env.put d (some v) | none => st.env), g := g } := by cases d <;> rfl
theorem SR.set (hs : SR P E ρ st N a w kd cs) {d : Option Nat} (hd : DstOk N d) {v : AV} {x : Value} (hv : VR ρ (Dm E st.g.nx) v x) : SR P E ρ (setD d v st st.g) N (a.put d x) w kd cs := by
  refine ⟨?_, ?_, ?_, ?_, ?_⟩
  · rw [setD_g]; exact hs.env.setD hd hv
  · rw [setD_g]; exact hs.gl
  · rw [setD_g, put_defers]; cases d <;> exact hs.df
  · rw [setD_g]; cases d <;> exact hs.pm
  · rw [setD_g]; exact hs.gr
theorem SR.stepSet {g' : G} (hs : SR P E ρ st N a w kd cs) (he : Eff P E ρ st.g w ρ' g' w') {d : Option Nat} (hd : DstOk N d) {v : AV} {x : Value} (hv : VR ρ' (Dm E g'.nx) v x) : To P E N kd ρ st w cs ρ' (setD d v st g') (a.put d x) w' cs := by
  have h1 := hs.step he
  have h2 := h1.sr.set hd hv
  have e : setD d v { st with g := g' } ({ st with g := g' } : St).g = setD d v st g' := by cases d <;> rfl
  rw [e] at h2
  exact ⟨h2, by rw [setD_g]; exact he, by cases d <;> rfl, .refl _ _⟩
/-! ### the machine's steps in a region -/
section
variable {b : Frame} {k : List Item} {ops : Array Oper} {i : Nat} {rest : List Nat} {o : Oper}
theorem fin_at (ho : ops[i]? = some o) (v : Value) : (b.at a (.inRegion ops (i :: rest) :: k)).finish v = b.at (a.put o.dst v) (.inRegion ops rest :: k) := by rw [Frame.finish_at, ho]; rfl
theorem step_value {v : Value} (ho : ops[i]? = some o) (hw : Region.wanted o (yielded ops a.tmps) = true) (hr : (execOp a.eval o).run P w = .ok (.value v) w') :
    step P (lone (b.at a (.inRegion ops (i :: rest) :: k)) cs w) = .next (lone (b.at (a.put o.dst v) (.inRegion ops rest :: k)) cs w') :=
  step_lone_go (by rw [stepG_op ho hw, ← fin_at ho]; simp [stepG.apply, hr])
theorem step_skipped (ho : ops[i]? = some o) (hw : Region.wanted o (yielded ops a.tmps) = true) (hr : (execOp a.eval o).run P w = .ok .skip w') :
    step P (lone (b.at a (.inRegion ops (i :: rest) :: k)) cs w) = .next (lone (b.at (a.put o.dst undef) (.inRegion ops rest :: k)) cs w') :=
  step_lone_go (by rw [stepG_op ho hw, ← fin_at ho]; simp [stepG.apply, hr])
theorem step_deferred {d : Deferred} (ho : ops[i]? = some o) (hw : Region.wanted o (yielded ops a.tmps) = true) (hr : (execOp a.eval o).run P w = .ok (.defer d) w') :
    step P (lone (b.at a (.inRegion ops (i :: rest) :: k)) cs w) = .next (lone (b.at ({ a with defers := d :: a.defers }.put o.dst undef) (.inRegion ops rest :: k)) cs w') := by
  refine step_lone_go ?_
  have : ({ b.at a (.inRegion ops (i :: rest) :: k) with defers := d :: a.defers } : Frame).finish undef = b.at ({ a with defers := d :: a.defers }.put o.dst undef) (.inRegion ops rest :: k) := fin_at (b := b) (a := { a with defers := d :: a.defers }) ho undef
  rw [stepG_op ho hw]
  simp only [stepG.apply, Sem.runT_eq, hr, GStep.bare_after]
  exact congrArg (fun fr => GStep.go { frame := fr, callers := cs, status := .running, dying := none } w') this
theorem step_recover_some {v : Value} (hb : b.kind = .deferred) (ho : ops[i]? = some o) (hw : Region.wanted o (yielded ops a.tmps) = true) (hr : (execOp a.eval o).run P w = .ok .recover w') (hrec : recoverD cs = some (v, cs')) :
    step P (lone (b.at a (.inRegion ops (i :: rest) :: k)) cs w) = .next (lone (b.at (a.put o.dst v) (.inRegion ops rest :: k)) cs' w') := by
  refine step_lone_go ?_
  have hk : (b.at a (.inRegion ops (i :: rest) :: k)).kind = .deferred := hb
  have htr := tryRecover_deferred hk cs
  rw [stepG_op ho hw, ← fin_at ho]
  simp only [Frame.at] at htr ⊢
  simp [stepG.apply, hr, htr, hrec]
theorem step_recover_none (hb : b.kind = .deferred) (ho : ops[i]? = some o) (hw : Region.wanted o (yielded ops a.tmps) = true) (hr : (execOp a.eval o).run P w = .ok .recover w') (hrec : recoverD cs = none) :
    step P (lone (b.at a (.inRegion ops (i :: rest) :: k)) cs w) = .next (lone (b.at (a.put o.dst .nilIface) (.inRegion ops rest :: k)) cs w') := by
  refine step_lone_go ?_
  have hk : (b.at a (.inRegion ops (i :: rest) :: k)).kind = .deferred := hb
  have htr := tryRecover_deferred hk cs
  rw [stepG_op ho hw, ← fin_at ho]
  simp only [Frame.at] at htr ⊢
  simp [stepG.apply, hr, htr, hrec]
theorem step_panics {v : Value} (ho : ops[i]? = some o) (hw : Region.wanted o (yielded ops a.tmps) = true) (hr : (execOp a.eval o).run P w = .halt (.panic v) w') :
    step P (lone (b.at a (.inRegion ops (i :: rest) :: k)) cs w) = .next (lone { b.at a (.inRegion ops (i :: rest) :: k) with mode := .panicking [{ v, recovered := false }] } cs w') :=
  step_lone_go (by rw [stepG_op ho hw, ← Frame.raise_at]; simp [stepG.apply, hr])
theorem step_enters {f : FuncId} {args : Array Value} (ho : ops[i]? = some o) (hw : Region.wanted o (yielded ops a.tmps) = true) (hr : (execOp a.eval o).run P w = .ok (.enter f args) w') :
    step P (lone (b.at a (.inRegion ops (i :: rest) :: k)) cs w) = .next (lone (Frame.enter P f args .normal) (b.at a (.inRegion ops (i :: rest) :: k) :: cs) w') :=
  step_lone_go (by rw [stepG_op ho hw]; simp [stepG.apply, hr, Frame.at])
end
theorem run_callFunc {f : FuncId} (h : FnOk P f) (args : Array Value) (w : World) : (callFunc f args).run P w = .ok (.enter f args) w := by
  obtain ⟨fn, c, h1, h2, h3⟩ := h
  have h3' : ¬ fn.name = "runtime.NumGoroutine" := by simpa using h3
  simp [callFunc, h1, h2, h3']
end
end Go.Proofs.YtkclgbccnbiojaaGreatDoor.SX

namespace Go.Proofs.YtkclgbccnbiojaaGreatDoor.SX
section
variable {P : Program} {T : Tab} {E : Nat → Prop} {ρ ρ' : Rn}
variable {st st' : St} {N : Nat} {a a' : Act} {w w' : World} {cs cs' : List Frame}
/-- where an operation of a region brings the machine -/
def Lands (P : Program) (E : Nat → Prop) (N : Nat) (b : Frame) (k : List Item) (ops : Array Oper) (i : Nat) (rest : List Nat) (ρ : Rn) (st : St) (a : Act) (w : World) (cs : List Frame) : Option AV × St → Prop
  | (none, st') => ∃ ρ' a' w' cs', To P E N b.kind ρ st w cs ρ' st' a' w' cs' ∧ Steps P (lone (b.at a (.inRegion ops (i :: rest) :: k)) cs w) (lone (b.at a' (.inRegion ops rest :: k)) cs' w')
  | (some v, st') => ∃ ρ' w' chain todo, To P E N b.kind ρ st w cs ρ' st' a w' cs ∧ ChainR ρ' (Dm E st'.g.nx) v chain ∧ Steps P (lone (b.at a (.inRegion ops (i :: rest) :: k)) cs w) (lone { b.at a todo with mode := .panicking chain } cs w')
/-- what does not hang on the variables -/
structure SR0 (P : Program) (E : Nat → Prop) (ρ : Rn) (st : St) (ds : List Deferred) (w : World) (kd : CallKind) (cs : List Frame) : Prop where
  gl : Gl ρ st.g.nx
  df : DfR ρ (Dm E st.g.nx) st.df ds
  pm : PMR ρ (Dm E st.g.nx) st.pm kd cs
  gr : GR P ρ (Dm E st.g.nx) st.g.h.get w
structure To0 (P : Program) (E : Nat → Prop) (kd : CallKind) (ρ : Rn) (st : St) (w : World) (cs : List Frame) (ρ' : Rn) (st' : St) (ds : List Deferred) (w' : World) (cs' : List Frame) : Prop where
  sr : SR0 P E ρ' st' ds w' kd cs'
  eff : Eff P E ρ st.g w ρ' st'.g w'
  no : isNo st'.pm = isNo st.pm
  keep : Keep st.pm cs cs'
  sn : st'.sn = st.sn
theorem setD_sn (d : Option Nat) (v : AV) (st : St) (g : G) : (setD d v st g).sn = st.sn := by cases d <;> rfl
theorem setD_env (d : Option Nat) (v : AV) (st : St) (g g' : G) : (setD d v st g).env = (setD d v st g').env := by cases d <;> rfl
theorem SR0.to {kd : CallKind} {ds : List Deferred} {g' : G} (hs : SR0 P E ρ st ds w kd cs) (he : Eff P E ρ st.g w ρ' g' w') (d : Option Nat) (v : AV) : To0 P E kd ρ st w cs ρ' (setD d v st g') ds w' cs := by
  refine ⟨⟨?_, ?_, ?_, ?_⟩, ?_, ?_, .refl _ _, setD_sn _ _ _ _⟩
  · rw [setD_g]; exact hs.gl.mono he
  · rw [setD_g]; cases d <;> exact hs.df.mono he.use
  · rw [setD_g]; cases d <;> exact hs.pm.mono he.use
  · rw [setD_g]; exact he.gr
  · rw [setD_g]; exact he
  · cases d <;> rfl
/-- .. told of its operands alone -/
def LandsV (P : Program) (E : Nat → Prop) (b : Frame) (k : List Item) (ops : Array Oper) (i : Nat) (rest : List Nat) (o : Oper) (ρ : Rn) (st : St) (a : Act) (w : World) (cs : List Frame) : Option AV × St → Prop
  | (none, st') => ∃ v x ρ' a' w' cs', st'.env = (setD o.dst v st st.g).env ∧ a'.tmps = (a.put o.dst x).tmps ∧ VR ρ' (Dm E st'.g.nx) v x ∧ To0 P E b.kind ρ st w cs ρ' st' a'.defers w' cs' ∧ Steps P (lone (b.at a (.inRegion ops (i :: rest) :: k)) cs w) (lone (b.at a' (.inRegion ops rest :: k)) cs' w')
  | (some v, st') => ∃ ρ' w' chain todo, st'.env = st.env ∧ To0 P E b.kind ρ st w cs ρ' st' a.defers w' cs ∧ ChainR ρ' (Dm E st'.g.nx) v chain ∧ Steps P (lone (b.at a (.inRegion ops (i :: rest) :: k)) cs w) (lone { b.at a todo with mode := .panicking chain } cs w')
theorem isRecover_eq {b : Builtin} (h : isRecover b = true) : b = .recover := by cases b <;> first | rfl | cases h
theorem recover_ret {c : Frame} {r : List Frame} (h : c.mode = .returning) : recoverD (c :: r) = none := by simp [recoverD, h]
theorem recover_pan {c : Frame} {r : List Frame} {x : Value} {old : List PanicEntry} (h : c.mode = .panicking ({ v := x, recovered := false } :: old)) : recoverD (c :: r) = some (x, { c with mode := .panicking ({ v := x, recovered := true } :: old) } :: r) := by simp [recoverD, h]
theorem recover_rec {c : Frame} {r : List Frame} {x : Value} {old : List PanicEntry} (h : c.mode = .panicking ({ v := x, recovered := true } :: old)) : recoverD (c :: r) = none := by simp [recoverD, h]
theorem op_okV (hT : TabOk P T) {call : CallT} (hc : CallOk P call) {o : Oper} {q : Option AV × St} {b : Frame} {k : List Item} {ops : Array Oper} {i : Nat} {rest : List Nat} (h : opRun o.op T call o.dst st = some q) (p : q.2.g.pc) (hE : ∀ b, E b → q.2.g.nx ≤ b)
    (hv : ∀ x ∈ o.op.operands, VR ρ (Dm E st.g.nx) (ev st.env x) (a.eval x)) (hs : SR0 P E ρ st a.defers w b.kind cs) (ho : ops[i]? = some o) (hw : Region.wanted o (yielded ops a.tmps) = true) : LandsV P E b k ops i rest o ρ st a w cs q := by
  by_cases hp : plainOp o.op = true
  · obtain ⟨v, g', rfl, h1, h2, h3⟩ := plain_okV hT hv hp h
    simp only [setD_g] at p hE
    obtain ⟨n, w', ρ', hr, he, hvx⟩ := h3 p hE w hs.gr
    rcases hvx with ⟨x, rfl, hvx⟩ | ⟨rfl, rfl⟩
    · exact ⟨v, x, ρ', _, w', cs, setD_env _ _ _ _ _, rfl, by rw [setD_g]; exact hvx, by rw [put_defers]; exact hs.to he _ _, .one (step_value ho hw hr)⟩
    · exact ⟨.und, undef, ρ', _, w', cs, setD_env _ _ _ _ _, rfl, .und, by rw [put_defers]; exact hs.to he _ _, .one (step_skipped ho hw hr)⟩
  · cases hop : o.op <;> rw [hop] at hp h <;> try exact absurd rfl hp
    case call c =>
      obtain ⟨callee, args, ats⟩ := c
      cases callee with
      | invoke r m => cases h
      | builtin bi =>
        cases hb : isRecover bi with
        | false => exact absurd (by simp [plainOp, hb]) hp
        | true =>
          obtain rfl := isRecover_eq hb
          have hrun : (execOp a.eval o).run P w = .ok .recover w := by
            obtain ⟨dst, op, type, pos, after, guard⟩ := o
            simp only at hop
            subst hop
            rfl
          have h1 : oRecover o.dst st = some q := h
          unfold oRecover at h1
          split at h1
          · rename_i v hpm
            injection h1 with h1
            subst h1
            rcases hs.pm with hn | ⟨hk, c, r, hcs, hm⟩
            · rw [hpm] at hn; cases hn
            · subst hcs
              rw [hpm] at hm
              obtain ⟨x, old, hm, hv, hold⟩ := hm
              have h2 := hs.to (.refl hs.gr) o.dst v
              refine ⟨v, x, ρ, a.put o.dst x, w, { c with mode := .panicking ({ v := x, recovered := true } :: old) } :: r, rfl, rfl, ?_, ⟨⟨h2.sr.gl, ?_, ?_, h2.sr.gr⟩, h2.eff, ?_, ?_, h2.sn⟩, .one (step_recover_some hk ho hw hrun (recover_pan hm))⟩
              · show VR ρ (Dm E (setD o.dst v st st.g).g.nx) v x
                rw [setD_g]; exact hv
              · rw [put_defers]; exact h2.sr.df
              · show PMR ρ (Dm E (setD o.dst v st st.g).g.nx) (.pan v true) b.kind _
                rw [setD_g]; exact .inr ⟨hk, _, r, rfl, x, old, rfl, hv, hold⟩
              · rw [hpm]; rfl
              · exact .inr ⟨by rw [hpm]; rfl, c, r, _, rfl, rfl⟩
          · rename_i v hpm
            injection h1 with h1
            subst h1
            rcases hs.pm with hn | ⟨hk, c, r, hcs, hm⟩
            · rw [hpm] at hn; cases hn
            · subst hcs
              rw [hpm] at hm
              obtain ⟨x, old, hm, hv, hold⟩ := hm
              exact ⟨.nili, .nilIface, ρ, _, w, _, rfl, rfl, .nili, by rw [put_defers]; exact hs.to (.refl hs.gr) _ _, .one (step_recover_none hk ho hw hrun (recover_rec hm))⟩
          · rename_i hpm
            injection h1 with h1
            subst h1
            rcases hs.pm with hn | ⟨hk, c, r, hcs, hm⟩
            · rw [hpm] at hn; cases hn
            · subst hcs
              rw [hpm] at hm
              exact ⟨.nili, .nilIface, ρ, _, w, _, rfl, rfl, .nili, by rw [put_defers]; exact hs.to (.refl hs.gr) _ _, .one (step_recover_none hk ho hw hrun (recover_ret hm))⟩
          · cases h1
      | value f =>
        have h1 : oCallV call o.dst (ev st.env f) (args.toList.map (ev st.env)) st = some q := h
        unfold oCallV at h1
        split at h1
        · rename_i ff first cap hf
          have hfv := hv f (by rw [hop]; simp [Op.operands, Call.operands])
          rw [hf] at hfv
          have hargs := evs_okV (fun x (hx : x ∈ args.toList) => hv x (by rw [hop]; simp only [Op.operands, Call.operands]; simp; right; simpa using hx))
          generalize hfe : a.eval f = fe at hfv
          cases hfv with
          | fn _ _ _ as bs l1 e1 l2 e2 =>
            have hL1 : LR ρ (Dm E st.g.nx) first as.toList := ⟨by simpa using l1, fun i x a hx ha => e1 i x a hx (by simpa using ha)⟩
            have hL2 : LR ρ (Dm E st.g.nx) cap bs.toList := ⟨by simpa using l2, fun i x a hx ha => e2 i x a hx (by simpa using ha)⟩
            have hL := hL1.append (hargs.append hL2)
            cases hcall : call .no ff (first ++ (args.toList.map (ev st.env) ++ cap)) st.g with
            | none => rw [hcall] at h1; cases h1
            | some t =>
              obtain ⟨cr, pm', g'⟩ := t
              rw [hcall] at h1
              obtain ⟨hfn, hok⟩ := hc.ok _ _ _ _ _ _ _ hcall
              have hvs : (as.toList ++ (args.toList.map a.eval ++ bs.toList)).toArray = as ++ args.map a.eval ++ bs := by
                apply Array.toList_inj.1; simp
              have hrun : (execOp a.eval o).run P w = .ok (.enter ff (as ++ args.map a.eval ++ bs)) w := by
                obtain ⟨dst, op, type, pos, after, guard⟩ := o
                simp only at hop
                subst hop
                simp [execOp, resolve, hfe, Deferred.ofValue, invoke, run_callFunc hfn]
              have key : ∀ (pp : g'.pc) (hEE : ∀ b, E b → g'.nx ≤ b), Calls P ff (as ++ args.map a.eval ++ bs) w fun e w' => ∃ ρ', Eff P E ρ st.g w ρ' g' w' ∧ EndR ρ' (Dm E g'.nx) cr e := by
                intro pp hEE
                have := (hok E ρ _ w pp hEE hs.gl hL hs.gr).1 rfl
                rw [hvs] at this
                exact this
              unfold oCallR at h1
              cases cr with
              | ret v =>
                injection h1 with h1
                subst h1
                simp only [setD_g] at p hE
                obtain ⟨e, w', fr, ⟨ρ', he, hend⟩, hcomes, hfr, hleave⟩ := key p hE (b.at a (.inRegion ops (i :: rest) :: k) :: cs)
                cases e with
                | returned x => exact ⟨v, x, ρ', _, w', cs, setD_env _ _ _ _ _, rfl, by rw [setD_g]; exact hend, by rw [put_defers]; exact hs.to he _ _, .head (step_enters ho hw hrun) (hcomes.trans (.one (by rw [← fin_at ho]; exact step_leave_returned hleave)))⟩
                | panicked c => exact hend.elim
                | outgrown => exact hend.elim
              | pan v =>
                injection h1 with h1
                subst h1
                simp only at p hE
                obtain ⟨e, w', fr, ⟨ρ', he, hend⟩, hcomes, hfr, hleave⟩ := key p hE (b.at a (.inRegion ops (i :: rest) :: k) :: cs)
                cases e with
                | returned x => exact hend.elim
                | panicked c => exact ⟨ρ', w', c, _, rfl, hs.to he none .und, hend, .head (step_enters ho hw hrun) (hcomes.trans (.one (by rw [← Frame.raise_at]; exact step_leave_panicked hleave)))⟩
                | outgrown => exact hend.elim
        · cases h1
    case defer c =>
      obtain ⟨callee, args, ats⟩ := c
      cases callee with
      | invoke r m => cases h
      | builtin bi => cases h
      | value f =>
        have h1 : deferOp o.dst (ev st.env f) (args.toList.map (ev st.env)) st = some q := h
        unfold deferOp at h1
        split at h1
        · rename_i ff first cap hf
          injection h1 with h1
          subst h1
          have hfv := hv f (by rw [hop]; simp [Op.operands, Call.operands])
          rw [hf] at hfv
          have hargs := evs_okV (fun x (hx : x ∈ args.toList) => hv x (by rw [hop]; simp only [Op.operands, Call.operands]; simp; right; simpa using hx))
          generalize hfe : a.eval f = fe at hfv
          cases hfv with
          | fn _ _ _ as bs l1 e1 l2 e2 =>
            have hrun : (execOp a.eval o).run P w = .ok (.defer { target := .fn ff bs, args := as ++ args.map a.eval }) w := by
              obtain ⟨dst, op, type, pos, after, guard⟩ := o
              simp only at hop
              subst hop
              simp [execOp, resolve, hfe, Deferred.ofValue]
            have h2 := hs.to (.refl hs.gr) o.dst .und
            refine ⟨.und, undef, ρ, _, w, cs, rfl, ?_, .und, ⟨⟨h2.sr.gl, ?_, h2.sr.pm, h2.sr.gr⟩, h2.eff, h2.no, .refl _ _, h2.sn⟩, .one (step_deferred ho hw hrun)⟩
            · cases o.dst <;> rfl
            · rw [put_defers]
              refine .cons ⟨ff, as, bs, args.toList.map a.eval, ?_, ?_, ?_⟩ ?_
              · simp only [setD_g]; rw [hf]; exact .fn _ _ _ as bs l1 e1 l2 e2
              · simp only [setD_g]; exact hargs
              · congr 2; apply Array.toList_inj.1; simp
              · simp only [setD_g]; exact hs.df
        · cases h1
    case panic x =>
      have h1 : panicOp (ev st.env x) st = some q := h
      unfold panicOp at h1
      split at h1
      · rename_i t v hvx
        injection h1 with h1
        subst h1
        have hev := hv x (by rw [hop]; simp [Op.operands])
        obtain ⟨y, hy⟩ : ∃ y, a.eval x = .iface t y := by
          rw [hvx] at hev
          generalize a.eval x = z at hev
          cases hev
          exact ⟨_, rfl⟩
        have hrun : (execOp a.eval o).run P w = .halt (.panic (.iface t y)) w := by
          obtain ⟨dst, op, type, pos, after, guard⟩ := o
          simp only at hop
          subst hop
          simp [execOp, hy, Instr.panic, goPanic]
        refine ⟨ρ, w, _, _, rfl, hs.to (.refl hs.gr) none .und, ⟨_, [], rfl, ?_, by simp⟩, .one (step_panics ho hw hrun)⟩
        rw [← hy]; exact hev
      · cases h1
theorem op_ok (hT : TabOk P T) {call : CallT} (hc : CallOk P call) {o : Oper} {q : Option AV × St} {b : Frame} {k : List Item} {ops : Array Oper} {i : Nat} {rest : List Nat} (h : opRun o.op T call o.dst st = some q) (p : q.2.g.pc) (hE : ∀ b, E b → q.2.g.nx ≤ b)
    (hs : SR P E ρ st N a w b.kind cs) (hd : DstOk N o.dst) (ho : ops[i]? = some o) (hw : Region.wanted o (yielded ops a.tmps) = true) : Lands P E N b k ops i rest ρ st a w cs q := by
  have := op_okV (k := k) (rest := rest) hT hc h p hE (fun x _ => ev_ok hs.env hs.gl x) ⟨hs.gl, hs.df, hs.pm, hs.gr⟩ ho hw
  obtain ⟨v, st'⟩ := q
  cases v with
  | none =>
    obtain ⟨v, x, ρ', a', w', cs', e1, e2, e3, e4, e5⟩ := this
    refine ⟨ρ', a', w', cs', ⟨⟨?_, e4.sr.gl, e4.sr.df, e4.sr.pm, e4.sr.gr⟩, e4.eff, e4.no, e4.keep⟩, e5⟩
    have h1 := (hs.env.mono e4.eff.use).setD (g := st.g) hd e3
    rw [← e1] at h1
    exact ⟨by rw [e2]; exact h1.size, h1.small, fun t => by rw [e2]; exact h1.get t⟩
  | some v =>
    obtain ⟨ρ', w', chain, todo, e1, e4, e3, e5⟩ := this
    refine ⟨ρ', w', chain, todo, ⟨⟨?_, e4.sr.gl, e4.sr.df, e4.sr.pm, e4.sr.gr⟩, e4.eff, e4.no, e4.keep⟩, e3, e5⟩
    rw [e1]
    exact hs.env.mono e4.eff.use
end
end Go.Proofs.YtkclgbccnbiojaaGreatDoor.SX

namespace Go.Proofs.YtkclgbccnbiojaaGreatDoor.SX
def ExR (ρ : Rn) (D : Nat → Prop) : Ex → Exit → Prop
  | .normal, .normal => True
  | .exit i, .exit j => i = j
  | .ret, .ret => True
  | .pan v, .panic c => ChainR ρ D v c
  | _, _ => False
section
variable {P : Program} {T : Tab} {E : Nat → Prop} {ρ ρ' : Rn}
variable {st st' : St} {N : Nat} {a a' : Act} {w w' : World} {cs cs' : List Frame}
/-- where a piece of code brings the machine -/
def Goes (P : Program) (E : Nat → Prop) (N : Nat) (b : Frame) (k : List Item) (ρ : Rn) (st : St) (w : World) (cs : List Frame) (m : Machine) (e : Ex) (st' : St) : Prop :=
  ∃ ρ' a' w' cs' x, To P E N b.kind ρ st w cs ρ' st' a' w' cs' ∧ ExR ρ' (Dm E st'.g.nx) e x ∧ Arrives P m b k cs' x a' w'
theorem Goes.head {b : Frame} {k : List Item} {ρ1 : Rn} {st1 : St} {a1 : Act} {w1 : World} {cs1 : List Frame} {m m1 : Machine} {e : Ex} (h : To P E N b.kind ρ st w cs ρ1 st1 a1 w1 cs1) (hs : Steps P m m1) (k1 : Goes P E N b k ρ1 st1 w1 cs1 m1 e st') : Goes P E N b k ρ st w cs m e st' := by
  obtain ⟨ρ', a', w', cs', x, h1, h2, h3⟩ := k1
  exact ⟨ρ', a', w', cs', x, h.trans h1, h2, .of_steps hs h3⟩
def exOf : Option AV → Ex | none => .normal | some v => .pan v
theorem wanted_none {o : Oper} {f : Nat → Option Bool} (h : o.guard = none) : Region.wanted o f = true := by simp [Region.wanted, h]
theorem yielded_at {ops : Array Oper} {tmps : Array Value} {j gd : Nat} (h : dstOf ops.toList j = some gd) : yielded ops tmps j = match tmps.getD gd undef with | .bool b => some b | _ => none := by
  unfold dstOf at h
  cases ho : ops.toList[j]? with
  | none => rw [ho] at h; cases h
  | some o =>
    rw [ho] at h
    have h1 : ops[j]? = some o := by simpa using ho
    unfold yielded
    rw [h1]
    have h2 : o.dst = some gd := h
    simp only [Option.bind_some, h2]
    cases ht : tmps[gd]? with
    | none => simp [Array.getD_eq_getD_getElem?, ht, undef]
    | some v => simp only [Array.getD_eq_getD_getElem?, ht, Option.getD_some]; cases v <;> rfl
theorem wanted_und {o : Oper} {ops : Array Oper} {tmps : Array Value} {j gd : Nat} {want : Bool} (hg : o.guard = some (j, want)) (h : dstOf ops.toList j = some gd) (hv : tmps.getD gd undef = undef) : Region.wanted o (yielded ops tmps) = false := by
  simp only [Region.wanted, hg, yielded_at h, hv]; rfl
theorem wanted_bool {o : Oper} {ops : Array Oper} {tmps : Array Value} {j gd : Nat} {want t : Bool} (hg : o.guard = some (j, want)) (h : dstOf ops.toList j = some gd) (hv : tmps.getD gd undef = .bool t) : Region.wanted o (yielded ops tmps) = (t == want) := by
  simp [Region.wanted, hg, yielded_at h, hv]
theorem onRes_some {ih : St → O} {r : O} {q : Option AV × St} (h : onRes ih r = some q) : (∃ st1, r = some (none, st1) ∧ ih st1 = some q) ∨ (∃ v st1, r = some (some v, st1) ∧ q = (some v, st1)) := by
  cases r with
  | none => cases h
  | some p =>
    obtain ⟨v, st1⟩ := p
    cases v with
    | none => exact .inl ⟨st1, rfl, h⟩
    | some v => injection h with h; exact .inr ⟨v, st1, rfl, h.symm⟩
def MoF (f : St → O) : Prop := ∀ st, MoO st.g (f st)
theorem MoO.bind {g : G} {ih : St → O} {r : O} (h : MoO g r) (k : MoF ih) : MoO g (onRes ih r) := by
  intro v st' e
  rcases onRes_some e with ⟨st1, h1, h2⟩ | ⟨v', st1, h1, h2⟩
  · exact (h Option.none st1 h1).trans (k st1 v st' h2)
  · obtain ⟨rfl, rfl⟩ := Prod.mk.inj h2
    exact h _ _ h1
theorem MoO.le {g g1 : G} {r : O} (hg : Le g g1) (h : MoO g1 r) : MoO g r := fun v st' e => hg.trans (h v st' e)
theorem MoO.test {s c : Bool} {g : G} {k : Bool → G → O} (h : ∀ b g2, Le g g2 → MoO g (k b g2)) : MoO g (test s c g k) := fun v st' e => by
  obtain ⟨b, g2, hp, _, e1⟩ := test_some e
  exact h b g2 ((Le.refl g).pcs hp) v st' e1
theorem skip_mo {d : Option Nat} {ih : St → O} (k : MoF ih) (st : St) : MoO st.g (skipOp d ih st) := by
  unfold skipOp
  have := k (setD d .und st st.g)
  rw [setD_g] at this
  exact this
theorem opOne_mo {call : CallT} (hc : CallMo call) {ops : List Oper} {o : Oper} {ih : StF} (k : MoF (ih T call)) : MoF (opOne ops o ih T call) := by
  intro st
  rcases hg : o.guard with _ | ⟨j, want⟩
  · have e : opOne ops o ih = opPlain (opRun o.op) o.dst ih := by unfold opOne; rw [hg]
    rw [e]
    exact (opRun_mo hc).bind k
  · have e : opOne ops o ih = opGuarded (opRun o.op) o.dst want (dstOf ops j) ih := by unfold opOne; rw [hg]
    rw [e]
    cases hd : dstOf ops j with
    | none => exact .none
    | some gd =>
      show MoO st.g (guardRun (opRun o.op T call o.dst) o.dst want (ih T call) st (evT st.env gd))
      unfold guardRun
      split
      · exact skip_mo k st
      · refine MoO.test fun b g2 hg => ?_
        split
        · exact MoO.bind (.le hg (opRun_mo (st := { st with g := g2 }) hc)) k
        · exact .le hg (skip_mo k { st with g := g2 })
      · exact .none
theorem opsRun_mo {call : CallT} (hc : CallMo call) {ops : List Oper} : ∀ l : List Oper, MoF (opsRun ops l T call) := by
  intro l
  induction l with
  | nil => exact fun st => .some (.refl _)
  | cons o r ih => exact opOne_mo hc ih
theorem range'_head {n m : Nat} (h : n < m) : List.range' n (m - n) = n :: List.range' (n + 1) (m - (n + 1)) := by
  rw [show m - n = (m - (n + 1)) + 1 from by omega, List.range'_succ]
theorem ops_ok (hT : TabOk P T) {call : CallT} (hc : CallOk P call) {b : Frame} {k : List Item} {ops : Array Oper} : ∀ (l : List Oper) (n : Nat) (ρ : Rn) (st : St) (a : Act) (w : World) (cs : List Frame) (q : Option AV × St), ops.toList.drop n = l → opsRun ops.toList l T call st = some q → q.2.g.pc → (∀ b, E b → q.2.g.nx ≤ b) → SR P E ρ st N a w b.kind cs → (∀ o ∈ l, DstOk N o.dst) →
    Goes P E N b k ρ st w cs (lone (b.at a (.inRegion ops (List.range' n (ops.size - n)) :: k)) cs w) (exOf q.1) q.2 := by
  intro l
  induction l with
  | nil =>
    intro n ρ st a w cs q hn h p hE hs hd
    injection h with h
    subst h
    have : ops.size ≤ n := by
      have h0 := congrArg List.length hn
      rw [List.length_drop] at h0
      simp at h0
      omega
    rw [show ops.size - n = 0 from by omega]
    exact ⟨ρ, a, w, cs, .normal, hs.refl, trivial, .one step_region_end⟩
  | cons o r ih =>
    intro n ρ st a w cs q hn h p hE hs hd
    have hlt : n < ops.size := by
      rcases Nat.lt_or_ge n ops.size with h0 | h0
      · exact h0
      · rw [List.drop_eq_nil_of_le (by simpa using h0)] at hn; cases hn
    have ho : ops[n]? = some o := by
      have : ops.toList[n]? = some o := by rw [← List.head?_drop, hn]; rfl
      simpa using this
    have hn1 : ops.toList.drop (n + 1) = r := by rw [← List.drop_drop, hn]; rfl
    rw [range'_head hlt]
    have hdo := hd o (List.mem_cons_self ..)
    have hdr : ∀ o ∈ r, DstOk N o.dst := fun o h => hd o (List.mem_cons_of_mem _ h)
    -- what is run
    have run : ∀ (st1 : St) (hs1 : SR P E ρ st1 N a w b.kind cs) (hw : Region.wanted o (yielded ops a.tmps) = true), onRes (opsRun ops.toList r T call) (opRun o.op T call o.dst st1) = some q →
        Goes P E N b k ρ st1 w cs (lone (b.at a (.inRegion ops (n :: List.range' (n + 1) (ops.size - (n + 1))) :: k)) cs w) (exOf q.1) q.2 := by
      intro st1 hs1 hw h1
      rcases onRes_some h1 with ⟨st2, h2, h3⟩ | ⟨v, st2, h2, h3⟩
      · have hle := opsRun_mo (T := T) hc.mo (ops := ops.toList) r st2 q.1 q.2 h3
        obtain ⟨ρ2, a2, w2, cs2, hto, hst⟩ := op_ok (k := k) (rest := List.range' (n + 1) (ops.size - (n + 1))) hT hc h2 (hle.pc p) (fun b hb => Nat.le_trans hle.nx (hE b hb)) hs1 hdo ho hw
        exact .head hto hst (ih (n + 1) ρ2 st2 a2 w2 cs2 q hn1 h3 p hE hto.sr hdr)
      · subst h3
        obtain ⟨ρ2, w2, chain, todo, hto, hch, hst⟩ := op_ok (k := k) (rest := List.range' (n + 1) (ops.size - (n + 1))) hT hc h2 p hE hs1 hdo ho hw
        exact ⟨ρ2, a, w2, cs, .panic chain, hto, hch, todo, hst⟩
    have skip : ∀ (st1 : St) (hs1 : SR P E ρ st1 N a w b.kind cs) (hw : Region.wanted o (yielded ops a.tmps) = false), skipOp o.dst (opsRun ops.toList r T call) st1 = some q →
        Goes P E N b k ρ st1 w cs (lone (b.at a (.inRegion ops (n :: List.range' (n + 1) (ops.size - (n + 1))) :: k)) cs w) (exOf q.1) q.2 := by
      intro st1 hs1 hw h1
      have hto := hs1.stepSet (.refl hs1.gr) hdo (v := .und) (x := undef) .und
      refine .head hto (.one ?_) (ih (n + 1) ρ (setD o.dst .und st1 st1.g) (a.put o.dst undef) w cs q hn1 h1 p hE hto.sr hdr)
      have := step_op_skip (P := P) (b := b) (a := a) (k := k) (cs := cs) (w := w) (ops := ops) (i := n) (rest := List.range' (n + 1) (ops.size - (n + 1))) (by simp [ho, hw])
      rw [ho] at this
      exact this
    have h0 : opOne ops.toList o (opsRun ops.toList r) T call st = some q := h
    rcases hg : o.guard with _ | ⟨j, want⟩
    · have e : opOne ops.toList o (opsRun ops.toList r) = opPlain (opRun o.op) o.dst (opsRun ops.toList r) := by unfold opOne; rw [hg]
      rw [e] at h0
      exact run st hs (wanted_none hg) h0
    · have e : opOne ops.toList o (opsRun ops.toList r) = opGuarded (opRun o.op) o.dst want (dstOf ops.toList j) (opsRun ops.toList r) := by unfold opOne; rw [hg]
      rw [e] at h0
      cases hgd : dstOf ops.toList j with
      | none => rw [hgd] at h0; cases h0
      | some gd =>
        rw [hgd] at h0
        have hv := hs.env.get gd
        have h3 : guardRun (opRun o.op T call o.dst) o.dst want (opsRun ops.toList r T call) st (evT st.env gd) = some q := h0
        unfold guardRun at h3
        split at h3
        · rename_i he
          rw [he] at hv
          exact skip st hs (wanted_und hg hgd (by generalize a.tmps.getD gd undef = z at hv; cases hv; rfl)) h3
        · rename_i s t he
          rw [he] at hv
          obtain ⟨z, g1, hp, hcz, h1⟩ := test_some h3
          have hto := hs.step ((Eff.refl hs.gr).pcR hp)
          have hwb := wanted_bool hg hgd hv.bool_inv
          have hz : g1.pc → t = z := hcz
          have hle : Le g1 q.2.g := by
            split at h1
            · exact (MoO.bind (opRun_mo (T := T) (st := { st with g := g1 }) hc.mo) (opsRun_mo hc.mo r)) q.1 q.2 h1
            · exact (skip_mo (opsRun_mo (T := T) hc.mo r) { st with g := g1 }) q.1 q.2 h1
          obtain rfl := hz (hle.pc p)
          split at h1
          · rename_i hzw
            exact .head hto (Steps.refl P _) (run _ hto.sr (by rw [hwb]; exact hzw) h1)
          · rename_i hzw
            exact .head hto (Steps.refl P _) (skip _ hto.sr (by rw [hwb]; exact hzw) h1)
        · cases h3
end
end Go.Proofs.YtkclgbccnbiojaaGreatDoor.SX

namespace Go.Proofs.YtkclgbccnbiojaaGreatDoor.SX
section
variable {P : Program} {T : Tab} {E : Nat → Prop} {ρ ρ' : Rn}
variable {st st' : St} {N : Nat} {a a' : Act} {w w' : World} {cs cs' : List Frame}
def MoX (g : G) (r : X) : Prop := ∀ e st', r = some (e, st') → Le g st'.g
/-- a statement whose order is open -/
structure DrawOk (P : Program) (T : Tab) (call : CallT) : Prop where
  mo : ∀ ops st, MoX st.g (runDraw T call ops (drawInfo T ops) st)
  ok : ∀ (E : Nat → Prop) (N : Nat) (ops : Array Oper) (id : Nat) (ρ : Rn) (st : St) (a : Act) (w : World) (b : Frame) (cs : List Frame) (k : List Item) (e : Ex) (st' : St), runDraw T call ops.toList (drawInfo T ops.toList) st = some (e, st') → st'.g.pc → (∀ b, E b → st'.g.nx ≤ b) →
    SR P E ρ st N a w b.kind cs → (∀ o ∈ ops.toList, DstOk N o.dst) → Goes P E N b k ρ st w cs (lone (b.at a (.code (.region id ops true) :: k)) cs w) e st'
theorem opsOk_all {ops : List Oper} (h : opsOk N ops = true) : ∀ o ∈ ops, DstOk N o.dst := by
  intro o ho d hd
  have h1 := List.all_eq_true.1 h o ho
  unfold dstOk at h1
  rw [hd] at h1
  exact blt_iff.1 h1
theorem regEnd_some {r : O} {e : Ex} (h : regEnd r = some (e, st')) : ∃ v, r = some (v, st') ∧ e = exOf v := by
  cases r with
  | none => cases h
  | some p =>
    obtain ⟨v, s⟩ := p
    cases v with
    | none => injection h with h; obtain ⟨rfl, rfl⟩ := Prod.mk.inj h; exact ⟨none, rfl, rfl⟩
    | some v => injection h with h; obtain ⟨rfl, rfl⟩ := Prod.mk.inj h; exact ⟨some v, rfl, rfl⟩
theorem seqEnd_some {k : St → X} {r : X} {q : Ex × St} (h : seqEnd k r = some q) : (∃ st1, r = some (.normal, st1) ∧ k st1 = some q) ∨ (r = some q ∧ q.1 ≠ .normal) := by
  cases r with
  | none => cases h
  | some p =>
    obtain ⟨e, s⟩ := p
    cases e with
    | normal => exact .inl ⟨s, rfl, h⟩
    | exit i => injection h with h; subst h; exact .inr ⟨rfl, by simp⟩
    | ret => injection h with h; subst h; exact .inr ⟨rfl, by simp⟩
    | pan v => injection h with h; subst h; exact .inr ⟨rfl, by simp⟩
theorem condEnd_some {f k : St → X} {v : AV} {q : Ex × St} (h : condEnd f k st v = some q) : ∃ s t g1, v = .bool s t ∧ Pc st.g g1 ∧ ((g1.pc → t = true) ∧ f { st with g := g1 } = some q ∨ (g1.pc → t = false) ∧ k { st with g := g1 } = some q) := by
  cases v <;> first | (cases h; done) | skip
  rename_i s t
  have h' : test s t st.g (fun t g => Bool.rec (motive := fun _ => X) (k (St.mk st.env g st.df st.pm st.sn)) (f (St.mk st.env g st.df st.pm st.sn)) t) = some q := h
  obtain ⟨z, g1, hp, hc, h1⟩ := test_some h'
  cases z with
  | true => exact ⟨s, t, g1, rfl, hp, .inl ⟨hc, h1⟩⟩
  | false => exact ⟨s, t, g1, rfl, hp, .inr ⟨hc, h1⟩⟩
theorem blockEnd_some {id : Nat} {r : X} {q : Ex × St} (h : blockEnd id r = some q) : (∃ st1, r = some (.exit id, st1) ∧ q = (.normal, st1)) ∨ (r = some q ∧ q.1 ≠ .exit id) := by
  unfold blockEnd at h
  split at h
  · rename_i j s
    cases hj : j.beq id with
    | true =>
      rw [hj] at h
      obtain rfl := beq_iff.1 hj
      injection h with h
      exact .inl ⟨s, rfl, h.symm⟩
    | false =>
      rw [hj] at h
      injection h with h
      subst h
      refine .inr ⟨rfl, fun e => ?_⟩
      injection e with e
      subst e
      rw [Nat.beq_refl] at hj
      cases hj
  · rename_i r' hr
    refine .inr ⟨h, fun e => ?_⟩
    obtain ⟨e', s⟩ := q
    subst e
    exact hr _ _ h
theorem MoX.seq {g : G} {k : St → X} {r : X} (h : MoX g r) (hk : ∀ st, MoX st.g (k st)) : MoX g (seqEnd k r) := fun e st' hh => by
  rcases seqEnd_some hh with ⟨st1, h1, h2⟩ | ⟨h1, _⟩
  · exact (h _ _ h1).trans (hk st1 _ _ h2)
  · exact h _ _ h1
theorem exec_mo {call : CallT} (hc : CallMo call) (hd : ∀ ops st, MoX st.g (runDraw T call ops (drawInfo T ops) st)) : ∀ (c : Code) (n : Nat) (st : St), MoX st.g (exec c T call n st) := by
  have none : ∀ (g : G), MoX g none := fun g e st' h => by cases h
  have out : ∀ (e : Ex) (st : St), MoX st.g (some (e, st)) := fun e st e' st' h => by injection h with h; obtain ⟨rfl, rfl⟩ := Prod.mk.inj h; exact .refl _
  intro c
  induction c with
  | skip => intro n st; exact out _ _
  | region id ops d =>
    intro n st
    cases d with
    | false =>
      intro e st' h
      obtain ⟨v, h1, _⟩ := regEnd_some (r := opsRun ops.toList ops.toList T call st) h
      exact opsRun_mo hc ops.toList st v st' h1
    | true => exact hd ops.toList st
  | seq x y ihx ihy => intro n st; exact (ihx n st).seq (ihy n)
  | cond c x y ihx ihy =>
    intro n st e st' h
    obtain ⟨s, t, g1, _, hp, h1⟩ := condEnd_some h
    rcases h1 with ⟨_, h1⟩ | ⟨_, h1⟩
    · exact ((Le.refl st.g).pcs hp).trans (ihx n _ e st' h1)
    · exact ((Le.refl st.g).pcs hp).trans (ihy n _ e st' h1)
  | block id x ih =>
    intro n st e st' h
    rcases blockEnd_some h with ⟨st1, h1, h2⟩ | ⟨h1, _⟩
    · obtain ⟨_, rfl⟩ := Prod.mk.inj h2
      exact ih n st _ _ h1
    · exact ih n st _ _ h1
  | loop x ih =>
    intro n st
    have key : ∀ m st, MoX st.g (iter (exec x T call n) m st) := by
      intro m
      induction m with
      | zero => exact fun st => none _
      | succ m ihm => exact fun st => (ih n st).seq ihm
    exact key n st
  | exit id => intro n st; exact out _ _
  | ret => intro n st; exact out _ _
  | _ => intros; exact none _
theorem ExR.normal {D : Nat → Prop} {x : Exit} (h : ExR ρ D .normal x) : x = .normal := by cases x <;> first | rfl | cases h
theorem ExR.notNormal {D : Nat → Prop} {e : Ex} (h : ExR ρ D e .normal) : e = .normal := by cases e <;> first | rfl | cases h
theorem exec_ok (hT : TabOk P T) {call : CallT} (hc : CallOk P call) (hd : DrawOk P T call) : ∀ (c : Code), wf N c = true → ∀ (n : Nat) (ρ : Rn) (st : St) (a : Act) (w : World) (b : Frame) (cs : List Frame) (k : List Item) (q : Ex × St), exec c T call n st = some q → q.2.g.pc → (∀ b, E b → q.2.g.nx ≤ b) → SR P E ρ st N a w b.kind cs →
    Goes P E N b k ρ st w cs (lone (b.at a (.code c :: k)) cs w) q.1 q.2 := by
  intro c
  induction c with
  | skip =>
    intro hw n ρ st a w b cs k q h p hE hs
    injection h with h
    subst h
    exact ⟨ρ, a, w, cs, .normal, hs.refl, trivial, .one step_skip⟩
  | region id ops d =>
    intro hw n ρ st a w b cs k q h p hE hs
    cases d with
    | false =>
      obtain ⟨v, h1, h2⟩ := regEnd_some (r := opsRun ops.toList ops.toList T call st) (e := q.1) (st' := q.2) h
      have := ops_ok (k := k) hT hc ops.toList 0 ρ st a w cs (v, q.2) rfl h1 p hE hs (opsOk_all hw)
      simp only [Nat.sub_zero, ← List.range_eq_range'] at this
      rw [← h2] at this
      exact .head hs.refl (.one step_region) this
    | true => exact hd.ok E N ops id ρ st a w b cs k q.1 q.2 h p hE hs (opsOk_all hw)
  | seq x y ihx ihy =>
    intro hw n ρ st a w b cs k q h p hE hs
    have hw' : wf N x = true ∧ wf N y = true := by rw [← Bool.and_eq_true]; exact hw
    rcases seqEnd_some (k := exec y T call n) (r := exec x T call n st) h with ⟨st1, h1, h2⟩ | ⟨h1, h2⟩
    · have hle := exec_mo hc.mo hd.mo y n st1 q.1 q.2 h2
      obtain ⟨ρ1, a1, w1, cs1, e1, hto, hex, harr⟩ := ihx hw'.1 n ρ st a w b cs (.code y :: k) (.normal, st1) h1 (hle.pc p) (fun b hb => Nat.le_trans hle.nx (hE b hb)) hs
      obtain rfl := hex.normal
      exact .head hto (.head step_seq harr) (ihy hw'.2 n ρ1 st1 a1 w1 b cs1 k q h2 p hE hto.sr)
    · obtain ⟨ρ1, a1, w1, cs1, e1, hto, hex, harr⟩ := ihx hw'.1 n ρ st a w b cs (.code y :: k) q h1 p hE hs
      refine ⟨ρ1, a1, w1, cs1, e1, hto, hex, .of_steps (.one step_seq) (.pass (x := .code y) rfl (fun _ _ => .inl ?_) harr)⟩
      intro he; subst he; exact h2 hex.notNormal
  | cond c x y ihx ihy =>
    intro hw n ρ st a w b cs k q h p hE hs
    have hw' : wf N x = true ∧ wf N y = true := by rw [← Bool.and_eq_true]; exact hw
    obtain ⟨s, t, g1, hv, hp, h1⟩ := condEnd_some h
    have hev := ev_ok hs.env hs.gl c
    rw [hv] at hev
    have hto := hs.step ((Eff.refl hs.gr).pcR hp)
    rcases h1 with ⟨ht, h1⟩ | ⟨ht, h1⟩
    · have hle := exec_mo hc.mo hd.mo x n _ q.1 q.2 h1
      obtain rfl := ht (hle.pc p)
      exact .head hto (.one (step_cond hev.bool_inv)) (ihx hw'.1 n ρ _ a w b cs k q h1 p hE hto.sr)
    · have hle := exec_mo hc.mo hd.mo y n _ q.1 q.2 h1
      obtain rfl := ht (hle.pc p)
      exact .head hto (.one (step_cond hev.bool_inv)) (ihy hw'.2 n ρ _ a w b cs k q h1 p hE hto.sr)
  | block id x ih =>
    intro hw n ρ st a w b cs k q h p hE hs
    rcases blockEnd_some (r := exec x T call n st) h with ⟨st1, h1, h2⟩ | ⟨h1, h2⟩
    · subst h2
      obtain ⟨ρ1, a1, w1, cs1, e1, hto, hex, harr⟩ := ih hw n ρ st a w b cs (.inBlock id :: k) (.exit id, st1) h1 p hE hs
      cases e1 with
      | exit j =>
        obtain rfl : id = j := hex
        exact ⟨ρ1, a1, w1, cs1, .normal, hto, trivial, .head step_block (harr k (by simp [exitTo]))⟩
      | _ => exact hex.elim
    · obtain ⟨ρ1, a1, w1, cs1, e1, hto, hex, harr⟩ := ih hw n ρ st a w b cs (.inBlock id :: k) q h1 p hE hs
      refine ⟨ρ1, a1, w1, cs1, e1, hto, hex, ?_⟩
      cases e1 with
      | normal => exact .head step_block (Steps.trans harr (.one step_inBlock))
      | exit j =>
        obtain ⟨e, s⟩ := q
        cases e with
        | exit i =>
          obtain rfl : i = j := hex
          have hne : ¬ i = id := fun e => h2 (by rw [e])
          intro k' hk
          refine .head step_block (harr k' ?_)
          have : (id == i) = false := by simp; exact fun h => hne h.symm
          simp [exitTo, this, hk]
        | _ => exact hex.elim
      | goto l => exact fun k' hk => .head step_block (harr k' (by simp [gotoIn, hk]))
      | ret => exact .of_steps (b := b) (k := k) (cs := cs1) (e := .ret) (.one step_block) harr
      | panic ch => exact .of_steps (b := b) (k := k) (cs := cs1) (e := .panic ch) (.one step_block) harr
      | outgrown => exact absurd hex (by obtain ⟨e, s⟩ := q; cases e <;> exact fun hh => hh)
  | loop x ih =>
    intro hw n ρ st a w b cs k q h p hE hs
    have key : ∀ m (ρ : Rn) (st : St) (a : Act) (w : World) (cs : List Frame), iter (exec x T call n) m st = some q → SR P E ρ st N a w b.kind cs → Goes P E N b k ρ st w cs (lone (b.at a (.code x :: .inLoop x :: k)) cs w) q.1 q.2 := by
      intro m
      induction m with
      | zero => intro ρ st a w cs h; cases h
      | succ m ihm =>
        intro ρ st a w cs h hs
        rcases seqEnd_some (k := iter (exec x T call n) m) (r := exec x T call n st) h with ⟨st1, h1, h2⟩ | ⟨h1, h2⟩
        · have hle : Le st1.g q.2.g := by
            have hm : ∀ m st, MoX st.g (iter (exec x T call n) m st) := by
              intro m
              induction m with
              | zero => intro st e st' h; cases h
              | succ m ihm => exact fun st => (exec_mo hc.mo hd.mo x n st).seq ihm
            exact hm m st1 q.1 q.2 h2
          obtain ⟨ρ1, a1, w1, cs1, e1, hto, hex, harr⟩ := ih hw n ρ st a w b cs (.inLoop x :: k) (.normal, st1) h1 (hle.pc p) (fun b hb => Nat.le_trans hle.nx (hE b hb)) hs
          obtain rfl := hex.normal
          exact .head hto (Steps.trans harr (.one step_inLoop)) (ihm ρ1 st1 a1 w1 cs1 h2 hto.sr)
        · obtain ⟨ρ1, a1, w1, cs1, e1, hto, hex, harr⟩ := ih hw n ρ st a w b cs (.inLoop x :: k) q h1 p hE hs
          refine ⟨ρ1, a1, w1, cs1, e1, hto, hex, .pass (x := .inLoop x) rfl (fun _ _ => .inl ?_) harr⟩
          intro he; subst he; exact h2 hex.notNormal
    exact .head hs.refl (.one step_loop) (key n ρ st a w cs h hs)
  | exit id =>
    intro hw n ρ st a w b cs k q h p hE hs
    injection h with h
    subst h
    exact ⟨ρ, a, w, cs, .exit id, hs.refl, rfl, fun _ hk => .one (step_exit hk)⟩
  | ret =>
    intro hw n ρ st a w b cs k q h p hE hs
    injection h with h
    subst h
    exact ⟨ρ, a, w, cs, .ret, hs.refl, trivial, _, .one step_ret⟩
  | _ => intro hw n ρ st a w b cs k q h; cases h
end
end Go.Proofs.YtkclgbccnbiojaaGreatDoor.SX

namespace Go.Proofs.YtkclgbccnbiojaaGreatDoor.SX
section
variable {P : Program} {T : Tab} {E : Nat → Prop} {ρ ρ' : Rn} {N : Nat}
/-! ### what is handed back -/
theorem run_mapM1 {α : Type} {F : α → Sem Value} {w : World} (x : α) (l : List α) {v : Value} {vs : List Value} (h : (F x).run P w = .ok v w) (hl : (l.mapM F).run P w = .ok vs w) : ((x :: l).mapM F).run P w = .ok (v :: vs) w := by
  rw [List.mapM_cons]
  simp [Sem.run_bind, h, hl]
theorem resOne_ok (hT : TabOk P T) {env : Tr AV} {a : Act} {g : G} {w : World} {r : ResultVar} {v : AV} {F : ResultVar → Sem Value} (hF1 : ∀ t, F (.tmp t) = pure (a.tmps.getD t undef)) (hF2 : ∀ c t, F (.cell c t) = (do loadVar t (← asAddr (a.tmps.getD c undef))))
    (he : EnvR ρ (Dm E g.nx) env a N) (p : g.pc) (hw : GR P ρ (Dm E g.nx) g.h.get w) (h : resOne T env g r = some v) : ∃ x, (F r).run P w = .ok x w ∧ VR ρ (Dm E g.nx) v x := by
  cases r with
  | tmp t =>
    injection h with h
    subst h
    exact ⟨_, by rw [hF1]; rfl, he.get t⟩
  | cell c t =>
    unfold resOne at h
    simp only at h
    split at h
    · rename_i v' g' hc
      injection h with h
      subst h
      have hv := he.get c
      unfold resCell at hc
      split at hc
      · rename_i b o hp
        rw [hp] at hv
        obtain ⟨ob, hob, h1⟩ := obj_some hc
        split at h1
        · rename_i e cs gr
          have hl : oLoad T t (.ptr b o) g = some (v', g') := by
            show obj g b (ldCell T t o g) = _
            unfold obj
            rw [hob]
            exact h1
          have hg := loadFrom_g h1
          simp only at hg
          subst hg
          obtain ⟨_, hr⟩ := oLoad_ok hT hv hl
          obtain ⟨x, hx, hvx⟩ := hr p w hw
          refine ⟨x, ?_, hvx⟩
          obtain ⟨ha, _⟩ := hv.ptr_inv
          rw [hF2, ha]
          rw [ha, run_loadAt] at hx
          simpa [asAddr] using hx
        · cases h1
      · cases hc
    · cases h
theorem results_list_ok (hT : TabOk P T) {env : Tr AV} {a : Act} {g : G} {w : World} {F : ResultVar → Sem Value} (hF1 : ∀ t, F (.tmp t) = pure (a.tmps.getD t undef)) (hF2 : ∀ c t, F (.cell c t) = (do loadVar t (← asAddr (a.tmps.getD c undef))))
    (he : EnvR ρ (Dm E g.nx) env a N) (p : g.pc) (hw : GR P ρ (Dm E g.nx) g.h.get w) : ∀ (rs : List ResultVar) (l : List AV), SX.results T env g rs = some l → ∃ xs, (rs.mapM F).run P w = .ok xs w ∧ LR ρ (Dm E g.nx) l xs := by
  intro rs
  induction rs with
  | nil =>
    intro l h
    injection h with h
    subst h
    exact ⟨[], rfl, LR.nil _ _⟩
  | cons r rs ih =>
    intro l h
    have h1 : resCons (resOne T env g r) (SX.results T env g rs) = some l := h
    unfold resCons at h1
    split at h1
    · rename_i v hv
      split at h1
      · rename_i l' hl'
        injection h1 with h1
        subst h1
        obtain ⟨x, hx, hvx⟩ := resOne_ok hT hF1 hF2 he p hw hv
        obtain ⟨xs, hxs, hL⟩ := ih l' hl'
        exact ⟨x :: xs, run_mapM1 r rs hx hxs, LR.cons hvx hL⟩
      · cases h1
    · cases h1
theorem oneOr_ok {D : Nat → Prop} {l : List AV} {xs : List Value} (h : LR ρ D l xs) : VR ρ D (oneOr l) (if h : xs.toArray.size = 1 then xs.toArray[0] else .tuple xs.toArray) := by
  cases l with
  | nil =>
    obtain rfl : xs = [] := List.length_eq_zero_iff.1 h.1.symm
    exact h.tup
  | cons x r =>
    cases xs with
    | nil => have := h.1; simp at this
    | cons y ys =>
      cases r with
      | nil =>
        obtain rfl : ys = [] := List.length_eq_zero_iff.1 (by have := h.1; simp at this; simp [← this])
        exact h.2 0 x y rfl rfl
      | cons x2 r2 =>
        cases ys with
        | nil => have := h.1; simp at this
        | cons y2 ys2 =>
          rw [dif_neg (by simp)]
          exact h.tup
theorem results_ok (hT : TabOk P T) {env : Tr AV} {a : Act} {g : G} {w : World} {fn : Func} {l : List AV} (he : EnvR ρ (Dm E g.nx) env a N) (p : g.pc) (hw : GR P ρ (Dm E g.nx) g.h.get w) (h : SX.results T env g fn.results.toList = some l) : ∃ x, (Go.results fn a.tmps).run P w = .ok x w ∧ VR ρ (Dm E g.nx) (oneOr l) x := by
  unfold Go.results
  rw [Array.mapM_eq_mapM_toList]
  obtain ⟨xs, hxs, hL⟩ := results_list_ok hT (F := fun x => match x with | .tmp t => pure (a.tmps.getD t undef) | .cell c t => (do loadVar t (← asAddr (a.tmps.getD c undef)))) (fun _ => rfl) (fun _ _ => rfl) he p hw fn.results.toList l h
  refine ⟨_, ?_, oneOr_ok hL⟩
  simp only [Sem.run_bind]
  have : ∀ (s : Sem (List Value)), s.run P w = .ok xs w → (List.toArray <$> s).run P w = .ok xs.toArray w := by
    intro s hs
    rw [map_eq_pure_bind, Sem.run_bind, hs]; rfl
  have e := this _ hxs
  refine Eq.trans (congrArg (fun r => Result.andThen r _) e) ?_
  rfl
/-! ### deferred calls -/
theorem leave_some {call : CallT} {d : AV × List AV} {ds : List (AV × List AV)} {m : PM} {g : G} {q : PM × G} (h : leave call (d :: ds) m g = some q) : ∃ f first cap cr m' g', d.1 = .fn (.func f) first cap ∧ call m f (first ++ (d.2 ++ cap)) g = some (cr, m', g') ∧
    ((∃ v x, cr = .ret v ∧ m' = .pan x true ∧ leave call ds .ret g' = some q) ∨ (∃ v, cr = .ret v ∧ (∀ x, m' ≠ .pan x true) ∧ leave call ds m' g' = some q) ∨ (∃ v, cr = .pan v ∧ leave call ds (.pan v false) g' = some q)) := by
  have h1 : leaveOne call d (leave call ds) m g = some q := h
  unfold leaveOne at h1
  split at h1
  · rename_i f first cap hd
    cases hc : call m f (first ++ (d.2 ++ cap)) g with
    | none => rw [hc] at h1; cases h1
    | some t =>
      obtain ⟨cr, m', g'⟩ := t
      rw [hc] at h1
      refine ⟨f, first, cap, cr, m', g', hd, hc, ?_⟩
      cases cr with
      | pan v => exact .inr (.inr ⟨v, rfl, h1⟩)
      | ret v =>
        cases m' with
        | pan x r =>
          cases r with
          | true => exact .inl ⟨v, x, rfl, rfl, h1⟩
          | false => exact .inr (.inl ⟨v, rfl, (fun y e => (by cases e)), h1⟩)
        | no => exact .inr (.inl ⟨v, rfl, (fun y e => (by cases e)), h1⟩)
        | ret => exact .inr (.inl ⟨v, rfl, (fun y e => (by cases e)), h1⟩)
  · cases h1
theorem leave_mo {call : CallT} (hc : CallMo call) : ∀ (ds : List (AV × List AV)) (m : PM) (g : G) (q : PM × G), leave call ds m g = some q → Le g q.2 := by
  intro ds
  induction ds with
  | nil => intro m g q h; injection h with h; subst h; exact .refl g
  | cons d r ih =>
    intro m g q h
    obtain ⟨f, first, cap, cr, m', g', _, h1, h2⟩ := leave_some h
    have := hc _ _ _ _ _ _ _ h1
    rcases h2 with ⟨v, x, _, _, h2⟩ | ⟨v, _, _, h2⟩ | ⟨v, _, h2⟩
    · exact this.trans (ih _ _ _ h2)
    · exact this.trans (ih _ _ _ h2)
    · exact this.trans (ih _ _ _ h2)
theorem settle_rec {x : Value} {old : List PanicEntry} (h : ∀ p ∈ old, p.goexit = false) : settle (.panicking ({ v := x, recovered := true } :: old)) = .returning := by
  have : old.dropWhile (fun p => !p.goexit) = [] := by
    induction old with
    | nil => rfl
    | cons q r ih =>
      rw [List.dropWhile_cons_of_pos (by simp [h q (List.mem_cons_self ..)])]
      exact ih fun p hp => h p (List.mem_cons_of_mem _ hp)
  simp [settle, this]
theorem settle_not {x : Value} {old : List PanicEntry} : settle (.panicking ({ v := x, recovered := false } :: old)) = .panicking ({ v := x, recovered := false } :: old) := rfl
theorem raised_MR {D : Nat → Prop} {v : AV} {c : List PanicEntry} {m : PM} {u : FrameMode} (hc : ChainR ρ D v c) (hm : MR ρ D m u) : MR ρ D (.pan v false) (raised u c) := by
  obtain ⟨x, old, rfl, hv, ho⟩ := hc
  cases m with
  | no => exact hm.elim
  | ret => obtain rfl : u = .returning := hm; exact ⟨x, old, rfl, hv, ho⟩
  | pan y r =>
    obtain ⟨z, old2, rfl, _, ho2⟩ := hm
    refine ⟨x, old ++ { v := z, recovered := r } :: old2, rfl, hv, fun p hp => ?_⟩
    rcases List.mem_append.1 hp with h | h
    · exact ho p h
    · rcases List.mem_cons.1 h with rfl | h
      · rfl
      · exact ho2 p h
theorem MR.notRun {D : Nat → Prop} {m : PM} {u : FrameMode} (h : MR ρ D m u) : u ≠ .run ∧ isNo m = false := by
  cases m with
  | no => exact h.elim
  | ret => obtain rfl : u = .returning := h; exact ⟨by simp, rfl⟩
  | pan y r => obtain ⟨z, old2, rfl, _⟩ := h; exact ⟨by simp, rfl⟩
/-- what stands at the end -/
def EndsR (P : Program) (E : Nat → Prop) (ρ : Rn) (g : G) (w : World) (g' : G) (cr : CR) (e : Ending) (w' : World) : Prop := ∃ ρ', Eff P E ρ g w ρ' g' w' ∧ EndR ρ' (Dm E g'.nx) cr e
theorem finish_some {rs : List ResultVar} {env : Tr AV} {pm : PM} {r : L} {q : CR × PM × G} (h : finish T rs env pm r = some q) : (∃ g l, r = some (.ret, g) ∧ SX.results T env g rs = some l ∧ q = (.ret (oneOr l), pm, g)) ∨ (∃ v g, r = some (.pan v false, g) ∧ q = (.pan v, pm, g)) := by
  unfold finish at h
  split at h
  · rename_i g
    split at h
    · rename_i l hl
      injection h with h
      exact .inl ⟨g, l, rfl, hl, h.symm⟩
    · cases h
  · rename_i v g
    injection h with h
    exact .inr ⟨v, g, rfl, h.symm⟩
  · cases h
  · cases h
  · cases h
theorem leaves_ok (hT : TabOk P T) {call : CallT} (hc : CallOk P call) {fn : Func} {a : Act} {env : Tr AV} {pm : PM} {q : CR × PM × G} {g0 : G} {w0 : World} {ρ0 : Rn} (p : q.2.2.pc) (hE : ∀ b, E b → q.2.2.nx ≤ b) : ∀ (ps : List (AV × List AV)) (ds : List Deferred) (m : PM) (u : FrameMode) (g : G) (w : World) (ρ : Rn),
    finish T fn.results.toList env pm (leave call ps m g) = some q → Eff P E ρ0 g0 w0 ρ g w → Gl ρ g.nx → EnvR ρ (Dm E g.nx) env a N → DfR ρ (Dm E g.nx) ps ds → MR ρ (Dm E g.nx) m u →
    Leaves P fn a.tmps (EndsR P E ρ0 g0 w0 q.2.2 q.1) ds u w := by
  intro ps
  induction ps with
  | nil =>
    intro ds m u g w ρ h he hg henv hd hm
    cases hd
    rcases finish_some h with ⟨g', l, h1, h2, rfl⟩ | ⟨v, g', h1, rfl⟩
    · injection h1 with h1
      obtain ⟨rfl, rfl⟩ := Prod.mk.inj h1
      obtain rfl : u = .returning := hm
      obtain ⟨x, hx, hv⟩ := results_ok (fn := fn) hT henv p he.gr h2
      exact ⟨x, hx, ρ, he, hv⟩
    · injection h1 with h1
      obtain ⟨rfl, rfl⟩ := Prod.mk.inj h1
      obtain ⟨x, old, rfl, hv, ho⟩ := hm
      exact ⟨ρ, he, x, old, rfl, hv, ho⟩
  | cons d r ih =>
    intro ds m u g w ρ h he hg henv hd hm
    cases hd with
    | cons hd hr =>
      rename_i dd dds
      have hlv : ∃ z, leave call (d :: r) m g = some z := by
        rcases finish_some h with ⟨g', l, h1, _⟩ | ⟨v, g', h1, _⟩
        · exact ⟨_, h1⟩
        · exact ⟨_, h1⟩
      obtain ⟨z, hz⟩ := hlv
      have hzg : z.2 = q.2.2 := by
        rw [hz] at h
        rcases finish_some h with ⟨g', l, h1, _, h2⟩ | ⟨v, g', h1, h2⟩
        · injection h1 with h1; rw [h1, h2]
        · injection h1 with h1; rw [h1, h2]
      obtain ⟨f, first, cap, cr, m', g', hf, hcall, hnext⟩ := leave_some hz
      obtain ⟨ff, fs, cs, as, q1, q2, rfl⟩ := hd
      rw [hf] at q1
      obtain ⟨hnr, hno⟩ := hm.notRun
      obtain ⟨hfn, hok⟩ := hc.ok _ _ _ _ _ _ _ hcall
      have hle : Le g' q.2.2 := by
        rw [← hzg]
        rcases hnext with ⟨v, x, _, _, h2⟩ | ⟨v, _, _, h2⟩ | ⟨v, _, h2⟩ <;> exact leave_mo hc.mo _ _ _ _ h2
      cases q1 with
      | fn _ _ _ _ _ l1 e1 l2 e2 =>
        have hL1 : LR ρ (Dm E g.nx) first fs.toList := ⟨by simpa using l1, fun i x a hx ha => e1 i x a hx (by simpa using ha)⟩
        have hL2 : LR ρ (Dm E g.nx) cap cs.toList := ⟨by simpa using l2, fun i x a hx ha => e2 i x a hx (by simpa using ha)⟩
        have hL := hL1.append (q2.append hL2)
        have hvs : (fs.toList ++ (as ++ cs.toList)).toArray = fs ++ as.toArray ++ cs := by apply Array.toList_inj.1; simp
        have hcd := (hok E ρ _ w (hle.pc p) (fun b hb => Nat.le_trans hle.nx (hE b hb)) hg hL he.gr).2 hno u hm
        rw [hvs] at hcd
        refine ⟨hnr, .func f, cs, f, fs ++ as.toArray ++ cs, rfl, ?_, CallsD.mono hcd fun e u' w' hh => ?_⟩
        · show (invoke (.fn (.func f) cs) (fs ++ as.toArray)).run P w = _
          simp [invoke, run_callFunc hfn]
        · obtain ⟨ρ', he', hend, hm'⟩ := hh
          have fwd : ∀ m2 u2, leave call r m2 g' = some z → MR ρ' (Dm E g'.nx) m2 u2 → Leaves P fn a.tmps (EndsR P E ρ0 g0 w0 q.2.2 q.1) dds u2 w' := by
            intro m2 u2 hl hm2
            refine ih dds m2 u2 g' w' ρ' ?_ (he.trans he') (hg.mono he') (henv.mono he'.use) (hr.mono he'.use) hm2
            rw [hl, ← hz]; exact h
          cases e with
          | returned x =>
            simp only
            rcases hnext with ⟨v, y, rfl, rfl, h2⟩ | ⟨v, rfl, hnp, h2⟩ | ⟨v, rfl, h2⟩
            · obtain ⟨y', old, rfl, _, ho⟩ := hm'
              rw [settle_rec ho]
              exact fwd .ret .returning h2 rfl
            · cases m' with
              | no => exact hm'.elim
              | ret => obtain rfl : u' = .returning := hm'; exact fwd .ret .returning h2 rfl
              | pan y rr =>
                cases rr with
                | true => exact absurd rfl (hnp y)
                | false =>
                  obtain ⟨y', old, rfl, hv, ho⟩ := hm'
                  rw [settle_not]
                  exact fwd _ _ h2 ⟨y', old, rfl, hv, ho⟩
            · exact hend.elim
          | panicked c =>
            simp only
            rcases hnext with ⟨v, y, rfl, rfl, h2⟩ | ⟨v, rfl, hnp, h2⟩ | ⟨v, rfl, h2⟩
            · exact hend.elim
            · exact hend.elim
            · exact fwd _ _ h2 (raised_MR hend hm')
          | outgrown => cases cr <;> exact hend.elim
end
end Go.Proofs.YtkclgbccnbiojaaGreatDoor.SX

namespace Go.Proofs.YtkclgbccnbiojaaGreatDoor.SX
section
variable {P : Program} {T : Tab} {E : Nat → Prop} {ρ ρ' : Rn} {N : Nat}
theorem argsEnv_get : ∀ (l : List AV) (i : Nat) (t : Tr AV), i + l.length ≤ 16000000 → ∀ q, (argsEnv l i t).get q = if i ≤ q ∧ q < i + l.length then l[q - i]? else t.get q := by
  intro l
  induction l with
  | nil =>
    intro i t h q
    rw [if_neg (by rintro ⟨h1, h2⟩; rw [List.length_nil] at h2; omega)]
    rfl
  | cons v r ih =>
    intro i t h q
    simp only [List.length_cons] at h
    have e : argsEnv (v :: r) i t = argsEnv r (i + 1) (t.put i (some v)) := rfl
    rw [e, ih _ _ (by omega), get_put _ _ _ _ (by omega)]
    simp only [List.length_cons]
    by_cases h1 : q = i
    · subst h1
      rw [if_neg (by omega), if_pos rfl, if_pos (by omega)]
      simp
    · by_cases h2 : i + 1 ≤ q ∧ q < i + 1 + r.length
      · rw [if_pos h2, if_pos (by omega), show q - i = (q - (i + 1)) + 1 from by omega, List.getElem?_cons_succ]
      · rw [if_neg h2, if_neg h1, if_neg (by omega)]
theorem args_env {D : Nat → Prop} {args : List AV} {vs : List Value} {n : Nat} (h : LR ρ D args vs) (hl : args.length ≤ n) (hn : n < 16000000) : EnvR ρ D (argsEnv args 0 .e) { tmps := vs.toArray ++ Array.replicate (n - vs.toArray.size) undef, defers := [] } n := by
  have hlen : vs.length = args.length := h.1.symm
  refine ⟨by simp; omega, hn, fun t => ?_⟩
  rw [evT_eq, argsEnv_get _ _ _ (by omega), get_e]
  simp only [Nat.zero_le, true_and, Nat.zero_add, Nat.sub_zero, Array.getD_eq_getD_getElem?]
  by_cases ht : t < args.length
  · rw [if_pos ht, Array.getElem?_append_left (by simpa [hlen] using ht)]
    obtain ⟨x, hx⟩ : ∃ x, args[t]? = some x := ⟨_, List.getElem?_eq_getElem ht⟩
    obtain ⟨a, ha, hv⟩ := h.get hx
    have : vs.toArray[t]? = some a := by simpa using ha
    rw [hx, this]
    exact hv
  · rw [if_neg ht, Array.getElem?_append_right (by simp; omega), Array.getElem?_replicate]
    have e : ((if t - vs.toArray.size < n - vs.toArray.size then some undef else none : Option Value).getD undef) = undef := by split <;> rfl
    rw [e]
    exact .und
theorem callBody_some {call : CallT} {fuel : Nat} {pm : PM} {args : List AV} {g : G} {fn : Func} {q : CR × PM × G} (h : callBody T call fuel pm args g fn = some q) : ∃ c e st, fn.body = some c ∧ wf fn.ntmps c = true ∧ fn.ntmps < 16000000 ∧ args.length ≤ fn.ntmps ∧
    exec c T call fuel ⟨argsEnv args 0 .e, g, [], pm, []⟩ = some (e, st) ∧ isExit e = false ∧ (isNo st.pm = true ∨ st.df = []) ∧ finish T fn.results.toList st.env st.pm (leave call st.df (modeOf e) st.g) = some q := by
  unfold callBody at h
  split at h
  · rename_i c hc
    split at h
    · rename_i hw
      rw [Bool.and_eq_true, Bool.and_eq_true, blt_iff, ble_iff] at hw
      unfold callEnd at h
      split at h
      · rename_i e st he
        cases hx : (isExit e || (!(isNo st.pm) && !(st.df.isEmpty))) with
        | true => rw [hx] at h; cases h
        | false =>
          rw [hx] at h
          rw [Bool.or_eq_false_iff] at hx
          refine ⟨c, e, st, hc, hw.1.1, hw.1.2, hw.2, he, hx.1, ?_, h⟩
          have h2 := hx.2
          cases hn : isNo st.pm with
          | true => exact .inl rfl
          | false =>
            rw [hn] at h2
            right
            cases hd : st.df with
            | nil => rfl
            | cons d r => rw [hd] at h2; cases h2
      · cases h
    · cases h
  · cases h
theorem finish_mo {rs : List ResultVar} {env : Tr AV} {pm : PM} {r : L} {q : CR × PM × G} {g : G} (h : finish T rs env pm r = some q) (hr : ∀ z, r = some z → Le g z.2) : Le g q.2.2 := by
  rcases finish_some h with ⟨g', l, h1, _, h2⟩ | ⟨v, g', h1, h2⟩
  · subst h2; have := hr _ h1; exact this
  · subst h2; have := hr _ h1; exact this
theorem body_mo {call : CallT} (hc : CallMo call) (hd : ∀ ops st, MoX st.g (runDraw T call ops (drawInfo T ops) st)) {fuel : Nat} {pm : PM} {args : List AV} {g : G} {fn : Func} {q : CR × PM × G} (h : callBody T call fuel pm args g fn = some q) : Le g q.2.2 := by
  obtain ⟨c, e, st, h1, h2, h3, h4, h5, h6, h7, h8⟩ := callBody_some h
  exact (exec_mo hc hd c fuel _ e st h5).trans (finish_mo h8 fun z hz => leave_mo hc _ _ _ _ hz)
theorem PMR.nil {D : Nat → Prop} {pm : PM} {kd : CallKind} {cs : List Frame} (h : isNo pm = true) : PMR ρ D pm kd cs := .inl h
theorem body_ok (hT : TabOk P T) {call : CallT} (hc : CallOk P call) (hd : DrawOk P T call) {fuel : Nat} {pm : PM} {f : FuncId} {args : List AV} {g : G} {fn : Func} {q : CR × PM × G} (hfs : T.fs f = some fn) (h : callBody T call fuel pm args g fn = some q) :
    FnOk P f ∧ ∀ (E : Nat → Prop) (ρ : Rn) (vs : List Value) (w : World), q.2.2.pc → (∀ b, E b → q.2.2.nx ≤ b) → Gl ρ g.nx → LR ρ (Dm E g.nx) args vs → GR P ρ (Dm E g.nx) g.h.get w →
    (isNo pm = true → Calls P f vs.toArray w fun e w' => ∃ ρ', Eff P E ρ g w ρ' q.2.2 w' ∧ EndR ρ' (Dm E q.2.2.nx) q.1 e) ∧
    (isNo pm = false → ∀ u, MR ρ (Dm E g.nx) pm u → CallsD P f vs.toArray u w fun e u' w' => ∃ ρ', Eff P E ρ g w ρ' q.2.2 w' ∧ EndR ρ' (Dm E q.2.2.nx) q.1 e ∧ MR ρ' (Dm E q.2.2.nx) q.2.1 u') := by
  obtain ⟨hf, hname⟩ := hT.fs f fn hfs
  obtain ⟨c, e, st, h1, h2, h3, h4, h5, h6, h7, h8⟩ := callBody_some h
  refine ⟨⟨fn, c, hf, h1, hname⟩, fun E ρ vs w p hE hg hL hw => ?_⟩
  have hle : Le st.g q.2.2 := finish_mo h8 fun z hz => leave_mo hc.mo _ _ _ _ hz
  have henv := args_env hL h4 h3
  have go : ∀ (b : Frame) (k : List Item) (cs : List Frame), PMR ρ (Dm E g.nx) pm b.kind cs → Goes P E fn.ntmps b k ρ ⟨argsEnv args 0 .e, g, [], pm, []⟩ w cs (lone (b.at { tmps := vs.toArray ++ Array.replicate (fn.ntmps - vs.toArray.size) undef, defers := [] } (.code c :: k)) cs w) e st := fun b k cs hpm =>
    exec_ok hT hc hd c h2 fuel ρ _ _ w b cs k (e, st) h5 (hle.pc p) (fun b hb => Nat.le_trans hle.nx (hE b hb)) ⟨henv, hg, .nil, hpm, hw⟩
  constructor
  · intro hno
    refine calls_of_wp_defers hf h1 fun b k cs => ?_
    obtain ⟨ρ', a', w', cs', x, hto, hex, harr⟩ := go b k cs (.inl hno)
    have hcs : cs' = cs := by
      rcases hto.keep with hh | ⟨hh, _⟩
      · exact hh
      · rw [hno] at hh; cases hh
    subst hcs
    refine ⟨x, a', w', ?_, harr⟩
    have lv : ∀ u, MR ρ' (Dm E st.g.nx) (modeOf e) u → Leaves P fn a'.tmps (EndsR P E ρ g w q.2.2 q.1) a'.defers u w' := fun u hm =>
      leaves_ok hT hc p hE st.df a'.defers (modeOf e) u st.g w' ρ' h8 hto.eff hto.sr.gl hto.sr.env hto.sr.df hm
    cases e with
    | normal => obtain rfl := hex.normal; exact lv _ rfl
    | exit i => cases h6
    | ret =>
      cases x <;> first | exact hex.elim | exact lv _ rfl
    | pan v =>
      cases x <;> first | exact hex.elim | skip
      obtain ⟨y, old, rfl, hv, ho⟩ := hex
      exact lv _ ⟨y, old, rfl, hv, ho⟩
  · intro hno u hm
    refine callsD_of_wpS hf h1 fun c₀ cs hu b k hbk hbr => ?_
    obtain ⟨ρ', a', w', cs', x, hto, hex, harr⟩ := go b k (c₀ :: cs) (.inr ⟨hbk, c₀, cs, rfl, by rw [hu]; exact hm⟩)
    refine ⟨x, a', cs', w', ?_, harr⟩
    have hno' : isNo st.pm = false := by rw [hto.no]; exact hno
    have hdf : st.df = [] := by
      rcases h7 with hh | hh
      · rw [hno'] at hh; cases hh
      · exact hh
    have hdf' : a'.defers = [] := by
      have := hto.sr.df
      rw [hdf] at this
      generalize a'.defers = z at this
      cases this
      rfl
    obtain ⟨u', hcs, hmr⟩ : ∃ u', cs' = { c₀ with mode := u' } :: cs ∧ MR ρ' (Dm E st.g.nx) st.pm u' := by
      rcases hto.sr.pm with hh | ⟨_, c1, r1, hc1, hm1⟩
      · rw [hno'] at hh; cases hh
      · rcases hto.keep with hk | ⟨_, c2, r2, u2, hk1, hk2⟩
        · rw [hk] at hc1
          obtain ⟨rfl, rfl⟩ := List.cons.inj hc1
          exact ⟨c₀.mode, hk, hm1⟩
        · obtain ⟨rfl, rfl⟩ := List.cons.inj hk1
          rw [hk2] at hc1
          obtain ⟨rfl, rfl⟩ := List.cons.inj hc1
          exact ⟨u2, hk2, hm1⟩
    have hlv : leave call st.df (modeOf e) st.g = some (modeOf e, st.g) := by rw [hdf]; rfl
    rw [hlv] at h8
    rcases finish_some h8 with ⟨g', l, q1, q2, rfl⟩ | ⟨v, g', q1, rfl⟩
    · injection q1 with q1
      obtain ⟨q3, rfl⟩ := Prod.mk.inj q1
      obtain ⟨y, hy, hv⟩ := results_ok (fn := fn) hT hto.sr.env p hto.sr.gr q2
      have fin : a'.defers = [] ∧ ∃ u', cs' = { c₀ with mode := u' } :: cs ∧ ∃ v, (Go.results fn a'.tmps).run P w' = .ok v w' ∧ ∃ ρ', Eff P E ρ g w ρ' st.g w' ∧ EndR ρ' (Dm E st.g.nx) (.ret (oneOr l)) (.returned v) ∧ MR ρ' (Dm E st.g.nx) st.pm u' :=
        ⟨hdf', u', hcs, y, hy, ρ', hto.eff, hv, hmr⟩
      cases e with
      | normal => obtain rfl := hex.normal; exact fin
      | exit i => cases h6
      | ret => cases x <;> first | exact hex.elim | exact fin
      | pan v => cases q3
    · injection q1 with q1
      obtain ⟨q3, rfl⟩ := Prod.mk.inj q1
      cases e with
      | normal => cases q3
      | exit i => cases h6
      | ret => cases q3
      | pan v' =>
        injection q3 with q3
        subst q3
        cases x <;> first | exact hex.elim | skip
        exact ⟨hdf', u', hcs, ρ', hto.eff, hex, hmr⟩
theorem callOne_ok (hT : TabOk P T) {prim call : CallT} (hp : CallOk P prim) (hc : CallOk P call) (hd : DrawOk P T call) (fuel : Nat) : CallOk P (callOne T prim fuel call) := by
  have inv : ∀ pm f args g q, callOne T prim fuel call pm f args g = some q → prim pm f args g = some q ∨ ∃ fn, T.fs f = some fn ∧ callBody T call fuel pm args g fn = some q := by
    intro pm f args g q h
    unfold callOne at h
    split at h
    · rename_i r hr
      injection h with h
      subst h
      exact .inl hr
    · unfold callFn at h
      split at h
      · rename_i fn hfn
        exact .inr ⟨fn, hfn, h⟩
      · cases h
  constructor
  · intro pm f args g cr pm' g' h
    rcases inv _ _ _ _ _ h with h1 | ⟨fn, hfn, h1⟩
    · exact hp.mo _ _ _ _ _ _ _ h1
    · exact body_mo hc.mo hd.mo h1
  · intro pm f args g cr pm' g' h
    rcases inv _ _ _ _ _ h with h1 | ⟨fn, hfn, h1⟩
    · exact hp.ok _ _ _ _ _ _ _ h1
    · exact body_ok hT hc hd hfn h1
theorem none_ok : CallOk P (fun _ _ _ _ => none) := by
  constructor
  · intro pm f args g cr pm' g' h; cases h
  · intro pm f args g cr pm' g' h; cases h
theorem callN_ok (hT : TabOk P T) {prim : CallT} (hp : CallOk P prim) (hd : ∀ call, CallOk P call → DrawOk P T call) (fuel : Nat) : ∀ n, CallOk P (callN T prim fuel n) := by
  intro n
  induction n with
  | zero => exact none_ok
  | succ n ih => exact callOne_ok hT hp ih (hd _ ih) fuel
end
end Go.Proofs.YtkclgbccnbiojaaGreatDoor.SX

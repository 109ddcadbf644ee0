import Derived.Test.YticfagianocfiaaSx4
set_option linter.unusedVariables false
set_option linter.unusedSimpArgs false
namespace Go.Proofs.Yticfagianocfiaa.SX
section
variable {P : Program} {T : Tab} {E : Nat → Prop} {ρ ρ' : Rn} {D : Nat → Prop}
/-! ### what hangs on nothing but its operands -/
theorem pure_okV (hT : TabOk P T) {call : CallT} {st : St} {a : Act} {o : Oper} {q : Option AV × St} (he : ∀ x ∈ o.op.operands, VR ρ D (ev st.env x) (a.eval x)) (hp : cls T o.op = .pure) (h : opRun o.op T call o.dst st = some q) :
    ∃ v g', q = (none, setD o.dst v st g') ∧ Pc st.g g' ∧ (g'.pc → ∀ w, ∃ x, (execOp a.eval o).run P w = .ok (.value x) w ∧ VR ρ D v x) := by
  obtain ⟨dst, op, type, pos, after, guard⟩ := o
  have giv : ∀ {v : AV} {g' : G} {s : Sem Value}, Gives P ρ D st.g (v, g') s → Pc st.g g' ∧ (g'.pc → ∀ w, ∃ x, (do pure (Next.value (← s)) : Sem Next).run P w = .ok (.value x) w ∧ VR ρ D v x) := by
    intro v g' s hg
    refine ⟨hg.1, fun p w => ?_⟩
    obtain ⟨x, hx, hv⟩ := hg.2 p w
    exact ⟨x, by rw [Sem.run_bind, hx]; rfl, hv⟩
  simp only at hp h he ⊢
  cases op <;> simp only [opRun, fV, fU] at h
  case move x => obtain ⟨v, g', h1, rfl⟩ := oV_some h; obtain ⟨rfl, rfl⟩ := Prod.mk.inj (rok_some h1); exact ⟨_, _, rfl, .refl _, fun p w => ⟨_, rfl, he x (by simp [Op.operands])⟩⟩
  case assign x => obtain ⟨v, g', h1, rfl⟩ := oV_some h; obtain ⟨rfl, rfl⟩ := Prod.mk.inj (rok_some h1); exact ⟨_, _, rfl, .refl _, fun p w => ⟨_, rfl, he x (by simp [Op.operands])⟩⟩
  case pick c x y =>
    obtain ⟨v, g', h1, rfl⟩ := oV_some h
    have hc := he c (by simp [Op.operands])
    obtain ⟨s, t, hce, h2⟩ := boolOf_some h1
    rw [hce] at hc
    have hcb := hc.bool_inv
    obtain ⟨z, g1, hp1, hcc, h3⟩ := test_some h2
    obtain ⟨rfl, rfl⟩ := Prod.mk.inj (rok_some h3)
    refine ⟨_, _, rfl, hp1, fun p w => ⟨if t then a.eval x else a.eval y, ?_, ?_⟩⟩
    · simp [execOp, hcb, asBool]
    · rw [hcc p]
      cases z with
      | true => exact he x (by simp [Op.operands])
      | false => exact he y (by simp [Op.operands])
  case build t ps => obtain ⟨v, g', h1, rfl⟩ := oV_some h; exact ⟨_, _, rfl, giv (oBuild_ok hT (parts_okV (fun p hp => he p.2 (mem_parts1 hp))) h1)⟩
  case nilCheck x =>
    obtain ⟨v, g', h1, rfl⟩ := oV_some h
    have hx := he x (by simp [Op.operands])
    unfold oNil at h1
    split at h1
    · rename_i b oo hb
      obtain ⟨rfl, rfl⟩ := Prod.mk.inj (rok_some h1)
      rw [hb] at hx
      obtain ⟨hA, hB⟩ := hx.ptr_inv
      rw [hA] at hx
      exact ⟨_, _, rfl, .refl _, fun p w => ⟨_, by simp [execOp, hA], hx⟩⟩
    · rename_i f xs ys hb
      obtain ⟨rfl, rfl⟩ := Prod.mk.inj (rok_some h1)
      rw [hb] at hx
      obtain ⟨as, bs, hA⟩ : ∃ as bs, a.eval x = .func (.func f) as bs := by
        generalize a.eval x = z at hx
        cases hx
        exact ⟨_, _, rfl⟩
      rw [hA] at hx
      exact ⟨_, _, rfl, .refl _, fun p w => ⟨_, by simp [execOp, hA], hx⟩⟩
    · cases h1
  case binOp op t x y k =>
    obtain ⟨v, g', h1, rfl⟩ := oV_some h
    exact ⟨_, _, rfl, giv (bin_ok hT (X := x) (Y := y) (fun hh => by rwa [Bool.or_eq_true] at hh) (he x (by simp [Op.operands])) (he y (by simp [Op.operands])) h1)⟩
  case unOp op t x => obtain ⟨v, g', h1, rfl⟩ := oV_some h; exact ⟨_, _, rfl, giv (un_ok (he x (by simp [Op.operands])) h1)⟩
  case convert s d x =>
    obtain ⟨v, g', h1, rfl⟩ := oV_some h
    refine ⟨_, _, rfl, giv (s := convert s d (a.eval x)) ?_⟩
    have hx := he x (by simp [Op.operands])
    obtain ⟨si, hsi, h2⟩ := ti_some h1
    obtain ⟨sinfo, sz, sd, a1, a2, a3, hse⟩ := hT.ti s si hsi
    subst hse
    obtain ⟨di, hdi, h3⟩ := ti_some h2
    obtain ⟨dinfo, dz, dd, b1, b2, b3, hde⟩ := hT.ti d di hdi
    subst hde
    unfold oConvK at h3
    split at h3
    · rename_i k hk
      obtain rfl := tk_int hk
      exact toInt_ok a3 b3 hx h3
    · rename_i hk
      exfalso
      simp only [cls, clsConv, hdi] at hp
      have hk' : tkD dd = _ := hk
      rw [hk'] at hp
      cases hp
    · rename_i e hk
      exfalso
      simp only [cls, clsConv, hdi] at hp
      have hk' : tkD dd = _ := hk
      rw [hk'] at hp
      cases hp
    · cases h3
  case makeInterface t x =>
    obtain ⟨v, g', h1, rfl⟩ := oV_some h
    obtain ⟨i, hi, h2⟩ := ti_some h1
    obtain ⟨info, z, d, e1, e2, e3, hee⟩ := hT.ti t i hi
    subst hee
    obtain ⟨hb, h3⟩ := guardB_some h2
    obtain ⟨rfl, rfl⟩ := Prod.mk.inj (rok_some h3)
    refine ⟨_, _, rfl, giv (s := Instr.makeInterface t (a.eval x)) ⟨.refl _, fun p w => ⟨.iface t (a.eval x), ?_, .ifc _ _ _ (he x (by simp [Op.operands]))⟩⟩⟩
    simp only [Instr.makeInterface, Sem.run_bind, run_underlying e3, Result.andThen_ok]
    cases d <;> first | rfl | (exact absurd hb (by simp [tkD, TK.tag]))
  case makeFunc f xs ys =>
    obtain ⟨v, g', h1, rfl⟩ := oV_some h
    obtain ⟨rfl, rfl⟩ := Prod.mk.inj (rok_some h1)
    have e1 := evs_okV (fun x (hx : x ∈ xs.toList) => he x (by simp only [Op.operands]; exact Array.mem_append_left _ (Array.mem_def.2 hx)))
    have e2 := evs_okV (fun x (hx : x ∈ ys.toList) => he x (by simp only [Op.operands]; exact Array.mem_append_right _ (Array.mem_def.2 hx)))
    refine ⟨_, _, rfl, giv (s := Instr.makeFunc f (xs.map a.eval) (ys.map a.eval)) ⟨.refl _, fun p w => ⟨_, rfl, ?_⟩⟩⟩
    exact .fn f _ _ _ _ (by simp) (fun i x b hx hb => e1.2 i x b hx (by simpa using hb)) (by simp) (fun i x b hx hb => e2.2 i x b hx (by simpa using hb))
  case slice t x lo hi mx =>
    cases mx with
    | none => obtain ⟨v, g', h1, rfl⟩ := oV_some h; exact ⟨_, _, rfl, giv (oSlice_ok hT (he x (by simp [Op.operands])) (ov_okV (fun y hy => he y (by subst hy; simp [Op.operands]))) (ov_okV (fun y hy => he y (by subst hy; simp [Op.operands]))) h1)⟩
    | some m => cases h
  case fieldAddr t x f => obtain ⟨v, g', h1, rfl⟩ := oV_some h; exact ⟨_, _, rfl, giv (oFieldAddr_ok hT (he x (by simp [Op.operands])) h1)⟩
  case field t x f => obtain ⟨v, g', h1, rfl⟩ := oV_some h; exact ⟨_, _, rfl, giv (oField_ok hT (he x (by simp [Op.operands])) h1)⟩
  case indexAddr t x i => obtain ⟨v, g', h1, rfl⟩ := oV_some h; exact ⟨_, _, rfl, giv (oIndexAddr_ok hT (he x (by simp [Op.operands])) (he i (by simp [Op.operands])) h1)⟩
  case index t x i => obtain ⟨v, g', h1, rfl⟩ := oV_some h; exact ⟨_, _, rfl, giv (oIndex_ok hT (he x (by simp [Op.operands])) (he i (by simp [Op.operands])) h1)⟩
  case typeAssert x xt t ok => obtain ⟨v, g', h1, rfl⟩ := oV_some h; exact ⟨_, _, rfl, giv (oAssert_ok hT (he x (by simp [Op.operands])) h1)⟩
  case extract t i => obtain ⟨v, g', h1, rfl⟩ := oV_some h; exact ⟨_, _, rfl, giv (oExtract_ok (he t (by simp [Op.operands])) h1)⟩
  case call c =>
    obtain ⟨callee, args, ats⟩ := c
    cases callee with
    | value f => simp [cls, clsCall] at hp
    | invoke r m => simp [cls, clsCall] at hp
    | builtin b =>
      have hb : b = .min ∨ b = .max := by
        simp only [cls, clsCall] at hp
        cases b <;> first | exact .inl rfl | exact .inr rfl | (simp [clsBuiltin, clsLen] at hp)
      rcases hb with rfl | rfl
      · have h1 : oV dst st (oBuiltin T st.env .min args.toList ats.toList st.g) = some q := h
        obtain ⟨v, g', h2, rfl⟩ := oV_some h1
        obtain ⟨x, y, hx, h3⟩ := ev2_some (f := fun x y => oMin x y st.g) (env := st.env) (as := args.toList) h2
        obtain rfl := arr2 hx
        refine ⟨_, _, rfl, giv (s := Builtin.min_ ats type (Array.map a.eval #[x, y])) ?_⟩
        rw [show Array.map a.eval #[x, y] = #[a.eval x, a.eval y] from by simp]
        exact oMin_ok (he x (by simp [Op.operands, Call.operands])) (he y (by simp [Op.operands, Call.operands])) h3
      · have h1 : oV dst st (oBuiltin T st.env .max args.toList ats.toList st.g) = some q := h
        obtain ⟨v, g', h2, rfl⟩ := oV_some h1
        obtain ⟨x, y, hx, h3⟩ := ev2_some (f := fun x y => oMax x y st.g) (env := st.env) (as := args.toList) h2
        obtain rfl := arr2 hx
        refine ⟨_, _, rfl, giv (s := Builtin.max_ ats type (Array.map a.eval #[x, y])) ?_⟩
        rw [show Array.map a.eval #[x, y] = #[a.eval x, a.eval y] from by simp]
        exact oMax_ok (he x (by simp [Op.operands, Call.operands])) (he y (by simp [Op.operands, Call.operands])) h3
  all_goals first | (cases hp; done) | (cases h; done)
/-! ### reads -/
theorem rdV_run {op : Op} (hp : cls T op = .read) {call : CallT} {d : Option Nat} {st : St} : opRun op T call d st = oV d st (rdV T st.env op st.g) ∨ opRun op T call d st = none := by
  cases op <;> first | (cases hp; done) | exact .inl rfl | skip
  case call c =>
    obtain ⟨callee, args, ats⟩ := c
    cases callee with
    | value f => simp [cls, clsCall] at hp
    | invoke r m => exact .inr rfl
    | builtin b =>
      have hb : b = .len := by
        simp only [cls, clsCall] at hp
        cases b <;> first | rfl | (simp [clsBuiltin, clsLen] at hp)
      subst hb
      exact .inl rfl
theorem read_okV (hT : TabOk P T) {a : Act} {o : Oper} {env : Tr AV} {g : G} {r : AV × G} (he : ∀ x ∈ o.op.operands, VR ρ D (ev env x) (a.eval x)) (hp : cls T o.op = .read) (h : rdV T env o.op g = some r) :
    Pc g r.2 ∧ (r.2.pc → ∀ w, GR P ρ D g.h.get w → ∃ x, (execOp a.eval o).run P w = .ok (.value x) w ∧ VR ρ D r.1 x) := by
  obtain ⟨dst, op, type, pos, after, guard⟩ := o
  have giv : ∀ {s : Sem Value}, Reads P ρ D g r s → Pc g r.2 ∧ (r.2.pc → ∀ w, GR P ρ D g.h.get w → ∃ x, (do pure (Next.value (← s)) : Sem Next).run P w = .ok (.value x) w ∧ VR ρ D r.1 x) := by
    intro s hg
    refine ⟨hg.1, fun p w hw => ?_⟩
    obtain ⟨x, hx, hv⟩ := hg.2 p w hw
    exact ⟨x, by rw [Sem.run_bind, hx]; rfl, hv⟩
  simp only at hp h he ⊢
  cases op <;> first | (cases h; done) | skip
  case load t x => exact giv (oLoad_ok hT (he x (by simp [Op.operands])) h)
  case lookup t m k ok => exact giv (oLookup_ok hT (he m (by simp [Op.operands])) (he k (by simp [Op.operands])) h)
  case convert s d x =>
    refine giv (s := convert s d (a.eval x)) ?_
    have hx := he x (by simp [Op.operands])
    obtain ⟨si, hsi, h2⟩ := ti_some (show oConv T s d (ev env x) g = some r from h)
    obtain ⟨sinfo, sz, sd, a1, a2, a3, hse⟩ := hT.ti s si hsi
    subst hse
    obtain ⟨di, hdi, h3⟩ := ti_some h2
    obtain ⟨dinfo, dz, dd, b1, b2, b3, hde⟩ := hT.ti d di hdi
    subst hde
    unfold oConvK at h3
    split at h3
    · rename_i k hk
      exfalso
      simp only [cls, clsConv, hdi] at hp
      have hk' : tkD dd = _ := hk
      rw [hk'] at hp
      cases hp
    · rename_i hk
      obtain rfl := tk_string hk
      unfold convStr at h3
      split at h3
      · rename_i e hee
        obtain rfl := tk_slice hee
        obtain ⟨info, z, e1, e2, e3, hsz, hzc, h4⟩ := isU8_some hT h3
        exact toStr_ok a3 e3 b3 hx h4
      · rename_i hee
        obtain rfl := tk_string hee
        exact (strKeep_ok a3 b3 hx h3).reads
      · cases h3
    · rename_i e hk
      exfalso
      simp only [cls, clsConv, hdi] at hp
      have hk' : tkD dd = _ := hk
      rw [hk'] at hp
      cases hp
    · cases h3
  case call c =>
    obtain ⟨callee, args, ats⟩ := c
    cases callee with
    | value f => cases h
    | invoke r m => cases h
    | builtin b =>
      have hb : b = .len := by
        simp only [cls, clsCall] at hp
        cases b <;> first | rfl | (simp [clsBuiltin, clsLen] at hp)
      subst hb
      obtain ⟨t, l, hl, h1⟩ := ty1_some (show oBuiltin T env .len args.toList ats.toList g = some r from h)
      obtain ⟨x, hx, h2⟩ := ev1_some h1
      obtain rfl := arr1 hx
      refine giv (s := Builtin.len_ ats type (Array.map a.eval #[x])) ?_
      rw [show Array.map a.eval #[x] = #[a.eval x] from by simp]
      exact oLen_ok hT hl (he x (by simp [Op.operands, Call.operands])) h2
/-! ### the same value -/
theorem boolEq_iff {a b : Bool} (h : boolEq a b = true) : a = b := by cases a <;> cases b <;> first | rfl | cases h
theorem sameC_ok {v v' : AV} {g : G} {r : Unit × G} (h : sameC v v' g = some r) : Pc g r.2 ∧ (r.2.pc → ∀ x, VR ρ D v x → VR ρ D v' x) := by
  unfold sameC at h
  split at h
  · obtain ⟨hk, h1⟩ := guardB_some h
    obtain rfl := kindEq_iff.1 hk
    obtain ⟨g1, hp, hc, h2⟩ := chk_some h1
    obtain rfl := rok_some h2
    refine ⟨hp, fun p x hx => ?_⟩
    have := hc p
    rw [ieq_eq, beq_iff_eq] at this
    subst this
    obtain rfl := hx.int_inv
    exact .int _ _ _
  · obtain ⟨g1, hp, hc, h2⟩ := chk_some h
    obtain rfl := rok_some h2
    refine ⟨hp, fun p x hx => ?_⟩
    obtain rfl := boolEq_iff (hc p)
    obtain rfl := hx.bool_inv
    exact .bool _ _
  · obtain ⟨g1, hp, hc, h2⟩ := chk_some h
    obtain rfl := rok_some h2
    refine ⟨hp, fun p x hx => ?_⟩
    obtain rfl := (sEq_iff _ _).1 (hc p)
    obtain ⟨b, rfl, rfl⟩ := hx.str_inv
    exact .str _ _
  · obtain rfl := rok_some h; exact ⟨.refl _, fun _ x hx => hx⟩
  · obtain ⟨hk, h1⟩ := guardB_some h
    obtain rfl := rok_some h1
    rw [Bool.and_eq_true, beq_iff, beq_iff] at hk
    obtain ⟨rfl, rfl⟩ := hk
    exact ⟨.refl _, fun _ x hx => hx⟩
  · obtain rfl := rok_some h; exact ⟨.refl _, fun _ x hx => hx⟩
  · obtain ⟨hk, h1⟩ := guardB_some h
    obtain rfl := beq_iff.1 hk
    obtain ⟨g1, hp, hc, h2⟩ := chk_some h1
    obtain rfl := rok_some h2
    refine ⟨hp, fun p x hx => ?_⟩
    have := hc p
    simp only [Bool.and_eq_true, beq_iff] at this
    obtain ⟨⟨rfl, rfl⟩, hcap⟩ := this
    unfold sameCap at hcap
    split at hcap
    · obtain rfl := beq_iff.1 hcap
      cases hx with
      | slk s b o n c h hn => exact .slk _ _ _ _ _ h hn
    · obtain rfl := beq_iff.1 hcap
      cases hx with
      | slu s b o n k h hn => exact .slu _ _ _ _ _ h hn
    · cases hcap
  · obtain rfl := rok_some h; exact ⟨.refl _, fun _ x hx => hx⟩
  · obtain ⟨hk, h1⟩ := guardB_some h
    obtain rfl := rok_some h1
    obtain rfl := beq_iff.1 hk
    exact ⟨.refl _, fun _ x hx => hx⟩
  · obtain rfl := rok_some h; exact ⟨.refl _, fun _ x hx => hx⟩
  · obtain rfl := rok_some h; exact ⟨.refl _, fun _ x hx => hx⟩
  · cases h
theorem sameL_ok : ∀ (l l' : List AV) (g : G) (r : Unit × G), sameL sameC l l' g = some r → Pc g r.2 ∧ (r.2.pc → ∀ xs, LR ρ D l xs → LR ρ D l' xs) := by
  intro l
  induction l with
  | nil =>
    intro l' g r h
    cases l' with
    | nil => obtain rfl := rok_some h; exact ⟨.refl _, fun _ x hx => hx⟩
    | cons y b => cases h
  | cons x a ih =>
    intro l' g r h
    cases l' with
    | nil => cases h
    | cons y b =>
      unfold sameL at h
      split at h
      · rename_i u g1 h1
        obtain ⟨p1, q1⟩ := sameC_ok (ρ := ρ) (D := D) h1
        obtain ⟨p2, q2⟩ := ih b g1 r h
        refine ⟨p1.trans p2, fun p xs hx => ?_⟩
        cases xs with
        | nil => have := hx.1; simp at this
        | cons z zs =>
          have hT : LR ρ D a zs := ⟨by have := hx.1; simpa using this, fun i x y hx' hy => hx.2 (i + 1) x y (by simpa using hx') (by simpa using hy)⟩
          exact LR.cons (q1 (p2.pc p) z (hx.2 0 x z rfl rfl)) (q2 p zs hT)
      · cases h
theorem sameV_ok {v v' : AV} {g : G} {r : Unit × G} (h : sameV v v' g = some r) : Pc g r.2 ∧ (r.2.pc → ∀ x, VR ρ D v x → VR ρ D v' x) := by
  unfold sameV at h
  split at h
  · obtain ⟨p1, q1⟩ := sameL_ok (ρ := ρ) (D := D) _ _ _ _ h
    refine ⟨p1, fun p x hx => ?_⟩
    obtain ⟨as, rfl, hL⟩ := hx.agg_inv
    have := (q1 p _ hL).agg
    simpa using this
  · exact sameC_ok h
end
/-- only what is told turns -/
def Mp {α : Type} (g : G) (r : R α) : Prop := ∀ a g', r = some (a, g') → Pc g g'
section
variable {α β : Type} {T : Tab} {g g1 : G}
theorem Mp.none : Mp g (none : R α) := fun a g' h => by cases h
theorem Mp.some {a : α} (h : Pc g g1) : Mp g (some (a, g1)) := fun a g' e => by injection e with e; obtain ⟨rfl, rfl⟩ := Prod.mk.inj e; exact h
theorem Mp.rok {a : α} (h : Pc g g1) : Mp g (rok a g1) := Mp.some h
theorem Mp.guardB {b : Bool} {r : R α} (h : Mp g r) : Mp g (guardB b r) := fun a g' e => h a g' (guardB_some e).2
theorem Mp.chk {s c : Bool} {k : G → R α} (hg : Pc g g1) (h : ∀ g2, Pc g g2 → Mp g (k g2)) : Mp g (chk s c g1 k) := fun a g' e => by
  obtain ⟨g2, hp, _, e1⟩ := chk_some e
  exact h g2 (hg.trans hp) a g' e1
theorem Mp.test {s c : Bool} {k : Bool → G → R α} (hg : Pc g g1) (h : ∀ b g2, Pc g g2 → Mp g (k b g2)) : Mp g (test s c g1 k) := fun a g' e => by
  obtain ⟨b, g2, hp, _, e1⟩ := test_some e
  exact h b g2 (hg.trans hp) a g' e1
theorem Mp.ti {t : Nat} {f : TI → R α} (h : ∀ i, Mp g (f i)) : Mp g (ti T t f) := fun a g' e => by
  obtain ⟨i, _, e1⟩ := ti_some e
  exact h i a g' e1
theorem Mp.elem {i : TI} {f : Nat → R α} (h : ∀ e, Mp g (f e)) : Mp g (i.elem f) := fun a g' e => by
  obtain ⟨x, _, e1⟩ := elem_some e
  exact h x a g' e1
theorem Mp.obj {b : Nat} {f : AObj → R α} (h : ∀ o, Mp g (f o)) : Mp g (obj g1 b f) := fun a g' e => by
  obtain ⟨o, _, e1⟩ := obj_some e
  exact h o a g' e1
theorem Mp.obind {x : Option β} {f : β → R α} (h : ∀ b, Mp g (f b)) : Mp g (obind x f) := fun a g' e => by
  obtain ⟨b, _, e1⟩ := obind_some e
  exact h b a g' e1
theorem Mp.int {v : AV} {f : Bool → IntKind → Int → R α} (h : ∀ s k n, Mp g (f s k n)) : Mp g (intOf v f) := fun a g' e => by
  obtain ⟨s, k, n, _, e1⟩ := intOf_some e
  exact h s k n a g' e1
theorem Mp.str {v : AV} {f : Bool → List Nat → R α} (h : ∀ s b, Mp g (f s b)) : Mp g (strOf v f) := fun a g' e => by
  obtain ⟨s, n, _, e1⟩ := strOf_some e
  exact h s n a g' e1
theorem Mp.bool {v : AV} {f : Bool → Bool → R α} (h : ∀ s b, Mp g (f s b)) : Mp g (boolOf v f) := fun a g' e => by
  obtain ⟨s, n, _, e1⟩ := boolOf_some e
  exact h s n a g' e1
theorem Mp.at {cs : List AV} {o : Nat} (h : Pc g g1) : Mp g (at_ cs o g1) := fun a g' e => by
  obtain ⟨_, e1⟩ := at_some e
  subst e1; exact h
theorem Mp.ptr {v : AV} {f : Nat → Nat → R α} (h : ∀ s b, Mp g (f s b)) : Mp g (ptrOf v f) := fun a g' e => by
  obtain ⟨s, n, _, e1⟩ := ptrOf_some e
  exact h s n a g' e1
theorem Mp.optInt {d : Nat} {v : Option AV} {f : Bool → Int → R AV} (h : ∀ s n, Mp g (f s n)) : Mp g (optInt d v f) := by
  unfold SX.optInt
  split
  · exact h _ _
  · exact Mp.int fun s _ n => h s n
theorem Mp.agg {v : AV} {f : List AV → R AV} (h : ∀ cs, Mp g (f cs)) : Mp g (aggOf v f) := fun a g' e => by
  obtain ⟨s, _, e1⟩ := aggOf_some e
  exact h s a g' e1
theorem Mp.ite {c : Bool} {a b : R α} (h : Mp g a) (k : Mp g b) : Mp g (bif c then a else b) := by cases c <;> assumption
theorem mp_isK {t tag : Nat} {r : R AV} (h : Mp g r) : Mp g (isK T t tag r) := Mp.ti fun i => Mp.guardB h
theorem mp_loadFrom {t o : Nat} {cs : List AV} (h : Pc g g1) : Mp g (loadFrom T t cs o g1) := Mp.ti fun i => by
  split
  · exact Mp.guardB (Mp.rok h)
  · exact Mp.at h
theorem mp_fieldOf {i : TI} {f : Nat} {k : Nat → Nat → R AV} (h : ∀ o t, Mp g (k o t)) : Mp g (fieldOf i f k) := fun a g' e => by
  obtain ⟨fs, o, t, _, _, e1⟩ := fieldOf_some e
  exact h o t a g' e1
theorem mp_oLoad {t : Nat} {p : AV} : Mp g (oLoad T t p g) := by
  unfold oLoad
  split
  · refine Mp.obj fun o => ?_
    unfold ldCell
    split
    · exact mp_loadFrom (.refl g)
    · exact mp_isK (Mp.chk (.refl g) fun g2 h => Mp.rok h)
    · exact Mp.none
  · refine Mp.obj fun o => ?_
    unfold ldRow
    split
    · exact mp_isK (Mp.guardB (Mp.chk (.refl g) fun g2 h => Mp.rok h))
    · exact Mp.guardB (Mp.chk (.refl g) fun g2 h => mp_loadFrom h)
    · exact Mp.none
  · refine Mp.obj fun o => ?_
    unfold ldOut
    split
    · exact Mp.guardB (Mp.chk (.refl g) fun g2 h => mp_loadFrom h)
    · exact Mp.none
  · exact Mp.none
theorem mp_binInt {op : BinOp} {s s' : Bool} {k : IntKind} {a b : Int} : Mp g (binInt op s s' k a b g) := by
  cases op <;> first | exact Mp.rok (.refl g) | exact Mp.chk (.refl g) fun g2 h => Mp.rok h
theorem mp_binEq {op : BinOp} {s b : Bool} (h : Pc g g1) : Mp g (binEq op s b g1) := by
  cases op <;> first | exact Mp.rok h | exact Mp.none
theorem mp_bin {op : BinOp} {t : Nat} {c : Bool} {x y : AV} : Mp g (bin T op t c x y g) := by
  have nl : ∀ n, Mp g (binNil op n g) := fun n => by cases n <;> first | exact mp_binEq (.refl g) | exact Mp.none
  have onl : ∀ n, Mp g (onlyNil op n g) := fun n => by cases n <;> first | exact mp_binEq (.refl g) | exact Mp.none
  unfold bin
  split
  · exact Mp.int fun _ _ _ => Mp.guardB mp_binInt
  · refine Mp.str fun s b => ?_
    cases op <;> first | exact Mp.rok (.refl g) | exact Mp.none | exact Mp.chk (.refl g) fun g2 h => Mp.rok h
  · exact Mp.bool fun _ _ => mp_isK (mp_binEq (.refl g))
  all_goals first | exact mp_isK (nl _) | exact mp_isK (onl _) | exact mp_isK (Mp.guardB (nl _)) | exact Mp.none
theorem mp_un {op : UnOp} {v : AV} : Mp g (un op v g) := by
  cases op <;> simp only [un]
  case not => unfold unNot; split <;> first | exact Mp.rok (.refl g) | exact Mp.none
  case neg => exact Mp.int fun _ _ _ => Mp.rok (.refl g)
  case xor => exact Mp.int fun _ _ _ => Mp.rok (.refl g)
  all_goals exact Mp.none
theorem mp_oFieldAddr {t f : Nat} {x : AV} : Mp g (oFieldAddr T t x f g) := by
  unfold oFieldAddr
  split
  · exact Mp.ti fun _ => mp_fieldOf fun _ _ => Mp.ti fun _ => Mp.guardB (Mp.rok (.refl g))
  · exact Mp.ti fun _ => mp_fieldOf fun _ _ => Mp.ti fun _ => Mp.guardB (Mp.rok (.refl g))
  · exact Mp.ti fun _ => mp_fieldOf fun _ _ => Mp.ti fun _ => Mp.guardB (Mp.rok (.refl g))
  · exact Mp.none
theorem mp_oField {t f : Nat} {x : AV} : Mp g (oField T t x f g) := Mp.agg fun _ => Mp.ti fun _ => mp_fieldOf fun _ _ => mp_loadFrom (.refl g)
theorem mp_ixAddr {s : Bool} {b o sz j : Nat} (h : Pc g g1) : Mp g (ixAddr s b o sz j g1) := by
  unfold ixAddr
  split
  · exact Mp.rok h
  · split
    · exact Mp.rok h
    · exact Mp.guardB (Mp.rok h)
theorem mp_oIndexAddr {t : Nat} {x i : AV} : Mp g (oIndexAddr T t x i g) := Mp.int fun _ _ _ => Mp.ti fun _ => by
  unfold oIndexAddrK
  split
  · unfold ixSlice
    split
    · exact Mp.chk (.refl g) fun g2 h => Mp.ti fun _ => mp_ixAddr h
    · exact Mp.chk (.refl g) fun g2 h => Mp.ti fun _ => Mp.rok h
    · exact Mp.none
  · exact Mp.ptr fun _ _ => Mp.chk (.refl g) fun g2 h => Mp.ti fun _ => mp_ixAddr h
  · exact Mp.none
theorem mp_oIndex {t : Nat} {x i : AV} : Mp g (oIndex T t x i g) := Mp.int fun _ _ _ => Mp.ti fun _ => by
  unfold oIndexK
  split
  · exact Mp.str fun _ _ => Mp.chk (.refl g) fun g2 h => Mp.rok h
  · exact Mp.agg fun _ => Mp.chk (.refl g) fun g2 h => Mp.ti fun _ => mp_loadFrom h
  · exact Mp.none
theorem mp_cutSl {s : Bool} {sz b o n : Nat} {c : Cap} {l h : Int} : Mp g (cutSl s sz b o n c l h g) := by
  unfold cutSl
  split
  · refine Mp.chk (.refl g) fun g2 h2 => ?_
    exact Mp.test h2 fun z g3 h3 => by cases z <;> exact Mp.rok h3
  · refine Mp.chk (.refl g) fun g2 h2 => ?_
    exact Mp.test h2 fun z g3 h3 => by cases z <;> exact Mp.rok h3
theorem mp_oSlice {t : Nat} {x : AV} {lo hi : Option AV} : Mp g (oSlice T t x lo hi g) := by
  unfold oSlice
  split
  · exact mp_isK (Mp.optInt fun _ _ => Mp.optInt fun _ _ => Mp.chk (.refl g) fun g2 h => Mp.rok h)
  · exact Mp.ti fun _ => Mp.elem fun _ => Mp.ti fun _ => Mp.optInt fun _ _ => Mp.optInt fun _ _ => Mp.guardB (Mp.rok (.refl g))
  · exact Mp.ti fun _ => Mp.elem fun _ => Mp.ti fun _ => Mp.optInt fun _ _ => Mp.optInt fun _ _ => mp_cutSl
  · refine Mp.ti fun _ => ?_
    unfold cutArr
    split
    · exact Mp.ti fun _ => Mp.optInt fun _ _ => Mp.optInt fun _ _ => mp_cutSl
    · exact Mp.none
  · exact Mp.none
theorem mp_entries {m : AV} {f : List (AV × AV) → R AV} (h : ∀ es, Mp g (f es)) : Mp g (entries m g f) := by
  unfold entries
  split
  · exact h _
  · refine Mp.obj fun o => ?_
    unfold AObj.mapD
    split
    · exact h _
    · exact Mp.none
  · exact Mp.none
theorem mp_oLookup {t : Nat} {m k : AV} {ok : Bool} : Mp g (oLookup T t m k ok g) := Mp.ti fun _ => by
  split
  · refine Mp.ti fun _ => Mp.guardB (Mp.ti fun _ => mp_entries fun es => ?_)
    unfold foundV
    split
    · exact Mp.rok (.refl g)
    · exact Mp.rok (.refl g)
    · exact Mp.none
  · exact Mp.none
theorem mp_oAssert {x : AV} {a : Nat} {ok : Bool} : Mp g (oAssert T x a ok g) := by
  unfold oAssert
  split
  · exact Mp.ti fun _ => Mp.guardB (Mp.ite (Mp.rok (.refl g)) Mp.none)
  · exact Mp.none
theorem mp_convert {s d : Nat} {x : AV} (hp : ∀ di, T.ti.get d = some di → ∀ e, di.k ≠ .slice e) : Mp g (oConv T s d x g) := by
  intro a g' h
  obtain ⟨si, hsi, h1⟩ := ti_some h
  obtain ⟨di, hdi, h2⟩ := ti_some h1
  revert h2
  have : Mp g (oConvK T si.k di.k x g) := by
    unfold oConvK
    split
    · exact Mp.int fun _ _ _ => Mp.rok (.refl g)
    · unfold convStr
      split
      · refine Mp.ti fun i => ?_
        split
        · unfold toStr
          split
          · exact Mp.rok (.refl g)
          · refine Mp.obj fun o => ?_
            unfold toStrO
            split
            · exact Mp.guardB (Mp.obind fun _ => Mp.rok (.refl g))
            · exact Mp.chk (.refl g) fun g2 h => Mp.rok h
            · exact Mp.none
          · exact Mp.none
        · exact Mp.none
      · unfold strKeep
        split
        · exact Mp.rok (.refl g)
        · exact Mp.none
      · exact Mp.none
    · rename_i e hk
      exact absurd hk (hp di hdi e)
    · exact Mp.none
  exact this a g'
theorem cls_convert {T : Tab} {s d : Nat} {x : Operand} (h : isEff (cls T (.convert s d x)) = false) : ∀ di, T.ti.get d = some di → ∀ e, di.k ≠ .slice e := by
  intro di hdi e hk
  have : cls T (.convert s d x) = clsConv (T.ti.get s) (T.ti.get d) := rfl
  rw [this, hdi] at h
  simp only [clsConv] at h
  rw [hk] at h
  cases h
/-- what is no effect leaves all but its variable as it is -/
theorem quiet {call : CallT} {op : Op} {d : Option Nat} {st : St} {q : Option AV × St} (hp : isEff (cls T op) = false) (h : opRun op T call d st = some q) : ∃ v g', q = (none, setD d v st g') ∧ Pc st.g g' := by
  have go : ∀ {r : R AV}, Mp st.g r → oV d st r = some q → ∃ v g', q = (none, setD d v st g') ∧ Pc st.g g' := by
    intro r hr hh
    obtain ⟨v, g', h1, h2⟩ := oV_some hh
    exact ⟨v, g', h2, hr v g' h1⟩
  cases op <;> first | (cases hp; done) | skip
  case move x => exact go (Mp.rok (.refl _)) h
  case assign x => exact go (Mp.rok (.refl _)) h
  case pick c x y => exact go (Mp.bool fun _ _ => Mp.test (.refl _) fun _ _ h => Mp.rok h) h
  case build t ps =>
    refine go (Mp.ti fun _ => ?_) h
    unfold oBuildK
    split
    · exact Mp.guardB (Mp.obind fun _ => Mp.rok (.refl _))
    · exact Mp.ti fun _ => Mp.obind fun _ => Mp.rok (.refl _)
    · exact Mp.none
  case load t x => exact go mp_oLoad h
  case nilCheck x =>
    refine go (r := oNil (ev st.env x) st.g) ?_ h
    unfold oNil
    split
    · exact Mp.rok (.refl _)
    · exact Mp.rok (.refl _)
    · exact Mp.none
  case binOp op t x y k => exact go mp_bin h
  case unOp op t x => exact go mp_un h
  case convert s d x => exact go (mp_convert (cls_convert hp)) h
  case makeInterface t x => exact go (Mp.ti fun _ => Mp.guardB (Mp.rok (.refl _))) h
  case makeFunc f xs ys => exact go (Mp.rok (.refl _)) h
  case slice t x lo hi mx =>
    cases mx with
    | none => exact go mp_oSlice h
    | some m => cases h
  case fieldAddr t x f => exact go mp_oFieldAddr h
  case field t x f => exact go mp_oField h
  case indexAddr t x i => exact go mp_oIndexAddr h
  case index t x i => exact go mp_oIndex h
  case lookup t m k ok => exact go mp_oLookup h
  case typeAssert x xt t ok => exact go mp_oAssert h
  case extract t i =>
    refine go (r := oExtract (ev st.env t) i st.g) ?_ h
    unfold oExtract
    split
    · exact Mp.at (.refl _)
    · exact Mp.none
  case call c =>
    obtain ⟨callee, args, ats⟩ := c
    cases callee with
    | value f => cases hp
    | invoke r m => cases hp
    | builtin b =>
      cases b <;> first | (cases hp; done) | skip
      · refine go (r := oBuiltin T st.env .len args.toList ats.toList st.g) ?_ h
        intro a g' hh
        obtain ⟨t, l, hl, h1⟩ := ty1_some (show oBuiltin T st.env .len args.toList ats.toList st.g = some (a, g') from hh)
        obtain ⟨x, hx, h2⟩ := ev1_some h1
        have : Mp st.g (oLen T t (ev st.env x) st.g) := by
          unfold oLen
          split
          · exact mp_isK (Mp.rok (.refl _))
          · exact mp_isK (Mp.rok (.refl _))
          · exact mp_isK (Mp.rok (.refl _))
          · exact mp_isK (Mp.rok (.refl _))
          · exact mp_isK (Mp.rok (.refl _))
          · refine mp_isK (Mp.obj fun o => ?_)
            unfold AObj.mapD
            split
            · exact Mp.rok (.refl _)
            · exact Mp.none
          · exact Mp.none
        exact this a g' h2
      · refine go (r := oBuiltin T st.env .max args.toList ats.toList st.g) ?_ h
        intro a g' hh
        obtain ⟨x, y, hx, h3⟩ := ev2_some (f := fun x y => oMax x y st.g) (env := st.env) (as := args.toList) hh
        exact (show Mp st.g (oMax (ev st.env x) (ev st.env y) st.g) from Mp.int fun _ _ _ => Mp.int fun _ _ _ => Mp.rok (.refl _)) a g' h3
      · refine go (r := oBuiltin T st.env .min args.toList ats.toList st.g) ?_ h
        intro a g' hh
        obtain ⟨x, y, hx, h3⟩ := ev2_some (f := fun x y => oMin x y st.g) (env := st.env) (as := args.toList) hh
        exact (show Mp st.g (oMin (ev st.env x) (ev st.env y) st.g) from Mp.int fun _ _ _ => Mp.int fun _ _ _ => Mp.rok (.refl _)) a g' h3
end
/-! ### which operations stand ahead of which -/
theorem bitAt_eq (m k : Nat) : bitAt m k = m.testBit k := by
  unfold bitAt
  rw [Nat.testBit_eq_decide_div_mod_eq]
  show Nat.beq (m / 2 ^ k % 2) 1 = _
  by_cases h : m / 2 ^ k % 2 = 1
  · rw [h]; rfl
  · rw [beq_f h]; simp [h]
theorem ancOf_bits {acc : List Nat} {j : Nat} : ∀ (es : List Edge) (s : Nat), bitAt (es.foldl (fun s e => bif Region.binds .any e then Nat.lor (Nat.lor s (Nat.pow 2 e.on)) (acc.getD e.on 0) else s) s) j = true → bitAt s j = true ∨ ∃ e ∈ es, Region.binds .any e = true ∧ (j = e.on ∨ bitAt (acc.getD e.on 0) j = true) := by
  intro es
  induction es with
  | nil => intro s h; exact .inl h
  | cons e r ih =>
    intro s h
    rw [List.foldl_cons] at h
    rcases ih _ h with h1 | ⟨e', he', hb, h2⟩
    · cases hb : Region.binds .any e with
      | false => rw [hb] at h1; exact .inl h1
      | true =>
        rw [hb, cond_true] at h1
        rw [bitAt_eq] at h1
        have h2 : ((s ||| 2 ^ e.on) ||| acc.getD e.on 0).testBit j = true := h1
        rw [Nat.testBit_or, Nat.testBit_or, Bool.or_eq_true, Bool.or_eq_true, Nat.testBit_two_pow] at h2
        rcases h2 with (h2 | h2) | h2
        · exact .inl (by rw [bitAt_eq]; exact h2)
        · exact .inr ⟨e, List.mem_cons_self .., hb, .inl (by have := of_decide_eq_true h2; exact this.symm)⟩
        · exact .inr ⟨e, List.mem_cons_self .., hb, .inr (by rw [bitAt_eq]; exact h2)⟩
    · exact .inr ⟨e', List.mem_cons_of_mem _ he', hb, h2⟩
theorem bit_zero (j : Nat) : bitAt 0 j = false := by rw [bitAt_eq, Nat.zero_testBit]
theorem ancs_step : ∀ (l : List Oper) (acc : List Nat), (l.foldl (fun acc o => acc ++ [ancOf acc o.after.toList]) acc).take acc.length = acc ∧ (l.foldl (fun acc o => acc ++ [ancOf acc o.after.toList]) acc).length = acc.length + l.length ∧
    ∀ i o, l[i]? = some o → (l.foldl (fun acc o => acc ++ [ancOf acc o.after.toList]) acc)[acc.length + i]? = some (ancOf ((l.foldl (fun acc o => acc ++ [ancOf acc o.after.toList]) acc).take (acc.length + i)) o.after.toList) := by
  intro l
  induction l with
  | nil => intro acc; exact ⟨by simp, by simp, fun i o h => by simp at h⟩
  | cons o r ih =>
    intro acc
    obtain ⟨h1, h2, h3⟩ := ih (acc ++ [ancOf acc o.after.toList])
    rw [List.foldl_cons]
    generalize hR : r.foldl (fun acc o => acc ++ [ancOf acc o.after.toList]) (acc ++ [ancOf acc o.after.toList]) = R at *
    have hl : (acc ++ [ancOf acc o.after.toList]).length = acc.length + 1 := by simp
    rw [hl] at h1 h2 h3
    have htake : R.take acc.length = acc := by
      have := congrArg (List.take acc.length) h1
      rw [List.take_take, Nat.min_eq_left (by omega)] at this
      rw [this]; simp
    refine ⟨htake, by rw [h2, List.length_cons]; omega, fun i q hq => ?_⟩
    cases i with
    | zero =>
      injection hq with hq
      subst hq
      rw [Nat.add_zero, htake]
      have : R[acc.length]? = (R.take (acc.length + 1))[acc.length]? := by rw [List.getElem?_take, if_pos (by omega)]
      rw [this, h1]; simp
    | succ i =>
      have := h3 i q (by simpa using hq)
      rw [show acc.length + (i + 1) = acc.length + 1 + i from by omega]
      exact this
/-- a told ancestor stands behind an edge that binds -/
theorem ancs_bits {l : List Oper} {i j : Nat} (h : bitAt ((ancs l).getD i 0) j = true) : ∃ o, l[i]? = some o ∧ ∃ e ∈ o.after.toList, Region.binds .any e = true ∧ (j = e.on ∨ bitAt ((ancs l).getD e.on 0) j = true) := by
  obtain ⟨h1, h2, h3⟩ := ancs_step l []
  have hlen : (ancs l).length = l.length := by show (l.foldl _ []).length = _; rw [h2]; simp
  cases ho : l[i]? with
  | none =>
    have : l.length ≤ i := List.getElem?_eq_none_iff.1 ho
    rw [List.getD_eq_getElem?_getD, List.getElem?_eq_none (by omega), show (none : Option Nat).getD 0 = 0 from rfl, bit_zero] at h
    cases h
  | some o =>
    have h4 := h3 i o ho
    simp only [List.length_nil, Nat.zero_add] at h4
    have e : (ancs l).getD i 0 = ancOf ((ancs l).take i) o.after.toList := by
      rw [List.getD_eq_getElem?_getD]
      show ((l.foldl _ [])[i]?).getD 0 = _
      rw [h4]; rfl
    rw [e] at h
    refine ⟨o, rfl, ?_⟩
    rcases ancOf_bits _ _ h with h5 | ⟨ed, hed, hb, h5⟩
    · rw [bit_zero] at h5; cases h5
    · refine ⟨ed, hed, hb, h5.imp id fun h6 => ?_⟩
      by_cases hi : ed.on < i
      · rw [List.getD_eq_getElem?_getD, List.getElem?_take, if_pos hi, ← List.getD_eq_getElem?_getD] at h6
        exact h6
      · rw [List.getD_eq_getElem?_getD, List.getElem?_take, if_neg hi] at h6
        rw [show (none : Option Nat).getD 0 = 0 from rfl, bit_zero] at h6
        cases h6
/-! ### the effects, in their order -/
theorem chain_pair {m : List Nat} : ∀ {l : List Nat}, chainOk m l = true → l.Pairwise (fun i j => i < j ∧ bitAt (m.getD j 0) i = true) := by
  intro l
  induction l with
  | nil => intro _; exact .nil
  | cons i r ih =>
    intro h
    have h1 : r.all (fun j => i.blt j && bitAt (m.getD j 0) i) = true ∧ chainOk m r = true := by rw [← Bool.and_eq_true]; exact h
    refine .cons (fun j hj => ?_) (ih h1.2)
    have := List.all_eq_true.1 h1.1 j hj
    rw [Bool.and_eq_true, blt_iff] at this
    exact this
theorem mem_idx {l : List Oper} {i : Nat} {o : Oper} : (i, o) ∈ idx l ↔ l[i]? = some o := by
  unfold idx ups
  rw [List.mem_iff_getElem?]
  constructor
  · rintro ⟨k, hk⟩
    rw [List.getElem?_zip_eq_some] at hk
    obtain ⟨h1, h2⟩ := hk
    simp only at h1 h2
    have hkl : k < l.length := lt_of_get h2
    rw [List.getElem?_range hkl] at h1
    injection h1 with h1
    subst h1
    exact h2
  · intro h
    refine ⟨i, ?_⟩
    rw [List.getElem?_zip_eq_some]
    exact ⟨List.getElem?_range (lt_of_get h), h⟩
theorem mem_whoIs {f : Cls → Bool} {T : Tab} {l : List Oper} {i : Nat} : i ∈ whoIs f T l ↔ ∃ o, l[i]? = some o ∧ f (cls T o.op) = true := by
  unfold whoIs
  rw [List.mem_map]
  constructor
  · rintro ⟨⟨k, o⟩, h1, rfl⟩
    rw [List.mem_filter, mem_idx] at h1
    exact ⟨o, h1.1, h1.2⟩
  · rintro ⟨o, h1, h2⟩
    exact ⟨(i, o), by rw [List.mem_filter, mem_idx]; exact ⟨h1, h2⟩, rfl⟩
theorem before_le (hi : List Nat) (c : Nat) : before hi c ≤ hi.length := by unfold before; exact List.length_filter_le _ _
section
variable {hi : List Nat}
theorem filter_take (hp : hi.Pairwise (· < ·)) (c : Nat) : hi.filter (fun x => x.blt c) = hi.take (before hi c) := by
  unfold before
  induction hi with
  | nil => rfl
  | cons x r ih =>
    obtain ⟨h1, h2⟩ := List.pairwise_cons.1 hp
    by_cases hx : x < c
    · rw [List.filter_cons_of_pos (by rw [blt_iff]; exact hx), List.length_cons, List.take_succ_cons, ← ih h2]
    · have : (x :: r).filter (fun x => x.blt c) = [] := by
        rw [List.filter_eq_nil_iff]
        intro y hy hb
        rw [blt_iff] at hb
        rcases List.mem_cons.1 hy with rfl | hy
        · exact hx hb
        · have := h1 y hy; omega
      rw [this]; rfl
theorem take_before (hp : hi.Pairwise (· < ·)) (c : Nat) : ∀ x ∈ hi.take (before hi c), x < c := by
  intro x hx
  rw [← filter_take hp, List.mem_filter, blt_iff] at hx
  exact hx.2
theorem drop_before (hp : hi.Pairwise (· < ·)) (c : Nat) : ∀ x ∈ hi.drop (before hi c), c ≤ x := by
  intro x hx
  rcases Nat.lt_or_ge x c with h | h
  · exfalso
    have h1 : x ∈ hi := List.mem_of_mem_drop hx
    have h2 : x ∈ hi.take (before hi c) := by rw [← filter_take hp, List.mem_filter, blt_iff]; exact ⟨h1, h⟩
    have h3 : hi.take (before hi c) ++ hi.drop (before hi c) = hi := List.take_append_drop _ _
    have h4 := hp
    rw [← h3, List.pairwise_append] at h4
    have := h4.2.2 x h2 x hx
    omega
  · exact h
theorem before_succ (hp : hi.Pairwise (· < ·)) (i : Nat) : before hi (i + 1) = before hi i + (if i ∈ hi then 1 else 0) := by
  unfold before
  induction hi with
  | nil => rfl
  | cons x r ih =>
    obtain ⟨h1, h2⟩ := List.pairwise_cons.1 hp
    have h3 := ih h2
    by_cases hx : x < i
    · rw [List.filter_cons_of_pos (by rw [blt_iff]; omega), List.filter_cons_of_pos (by rw [blt_iff]; exact hx), List.length_cons, List.length_cons, h3]
      have : (i ∈ x :: r) ↔ i ∈ r := by
        constructor
        · intro h; rcases List.mem_cons.1 h with rfl | h
          · omega
          · exact h
        · exact List.mem_cons_of_mem _
      by_cases hr : i ∈ r
      · rw [if_pos hr, if_pos (this.2 hr)]
      · rw [if_neg hr, if_neg (fun h => hr (this.1 h))]
    · have e1 : ∀ c, c ≤ x → (r.filter fun y => y.blt c) = [] := fun c hc => by
        rw [List.filter_eq_nil_iff]
        intro y hy hb
        rw [blt_iff] at hb
        have := h1 y hy; omega
      have e2 : (r.filter fun y => y.blt i) = [] := e1 i (by omega)
      by_cases hxi : x = i
      · subst hxi
        rw [List.filter_cons_of_pos (by rw [blt_iff]; omega), List.filter_cons_of_neg (by rw [blt_iff]; omega), e2, if_pos (List.mem_cons_self ..), List.length_cons]
        rw [e2] at h3
        have hn : x ∉ r := fun h => by have := h1 x h; omega
        rw [if_neg hn] at h3
        rw [h3]
      · rw [List.filter_cons_of_neg (by rw [blt_iff]; omega), List.filter_cons_of_neg (by rw [blt_iff]; omega), e1 (i + 1) (by omega), e2]
        have hn : i ∉ x :: r := fun h => by
          rcases List.mem_cons.1 h with rfl | h
          · exact hxi rfl
          · have := h1 i h; omega
        rw [if_neg hn]; rfl
end
section
variable {T : Tab} {call : CallT} {L : List Oper}
def GuardOn (ops : List Oper) (o : Oper) (env : Tr AV) (pc : Prop) : Prop := o.guard = none ∨ ∃ j want gd s b, o.guard = some (j, want) ∧ dstOf ops j = some gd ∧ evT env gd = .bool s b ∧ (pc → b = want)
def GuardOff (ops : List Oper) (o : Oper) (env : Tr AV) (pc : Prop) : Prop := ∃ j want gd, o.guard = some (j, want) ∧ dstOf ops j = some gd ∧ (evT env gd = .und ∨ ∃ s b, evT env gd = .bool s b ∧ (pc → b ≠ want))
theorem one_some {o : Oper} {st : St} {q : Option AV × St} (h : oneOp L o T call st = some q) : ∃ g1, Pc st.g g1 ∧ ((opRun o.op T call o.dst { st with g := g1 } = some q ∧ GuardOn L o st.env g1.pc) ∨ (q = (none, setD o.dst .und { st with g := g1 } g1) ∧ GuardOff L o st.env g1.pc)) := by
  have fin : ∀ {r : O}, onRes (fun st => some (none, st)) r = some q → r = some q := by
    intro r hr
    rcases onRes_some hr with ⟨st1, h1, h2⟩ | ⟨v, st1, h1, h2⟩
    · injection h2 with h2; rw [h1, h2]
    · rw [h1, h2]
  unfold oneOp at h
  rcases hg : o.guard with _ | ⟨j, want⟩
  · have e : opOne L o (fun _ _ st => some (none, st)) = opPlain (opRun o.op) o.dst (fun _ _ st => some (none, st)) := by unfold opOne; rw [hg]
    rw [e] at h
    exact ⟨st.g, .refl _, .inl ⟨fin h, .inl hg⟩⟩
  · have e : opOne L o (fun _ _ st => some (none, st)) = opGuarded (opRun o.op) o.dst want (dstOf L j) (fun _ _ st => some (none, st)) := by unfold opOne; rw [hg]
    rw [e] at h
    cases hgd : dstOf L j with
    | none => rw [hgd] at h; cases h
    | some gd =>
      rw [hgd] at h
      have h3 : guardRun (opRun o.op T call o.dst) o.dst want (fun st => some (none, st)) st (evT st.env gd) = some q := h
      unfold guardRun at h3
      split at h3
      · rename_i he
        injection h3 with h3
        exact ⟨st.g, .refl _, .inr ⟨h3.symm, j, want, gd, hg, hgd, .inl he⟩⟩
      · rename_i s t he
        obtain ⟨z, g1, hp, hc, h4⟩ := test_some h3
        split at h4
        · rename_i hz
          have hz' : z = want := beq_iff_eq.1 hz
          exact ⟨g1, hp, .inl ⟨fin h4, .inr ⟨j, want, gd, s, t, hg, hgd, he, fun p => (hc p).trans hz'⟩⟩⟩
        · rename_i hz
          injection h4 with h4
          have hz' : z ≠ want := fun e => by rw [e] at hz; simp at hz
          exact ⟨g1, hp, .inr ⟨h4.symm, j, want, gd, hg, hgd, .inr ⟨s, t, he, fun p e => hz' ((hc p).symm.trans e)⟩⟩⟩
      · cases h3
theorem opRun_env {op : Op} {d : Option Nat} {st st1 : St} (h : opRun op T call d st = some (none, st1)) : ∃ v, st1.env = (setD d v st st.g).env ∧ st1.sn = st.sn := by
  have v : ∀ {r : R AV}, oV d st r = some (none, st1) → ∃ v, st1.env = (setD d v st st.g).env ∧ st1.sn = st.sn := by
    intro r hr
    obtain ⟨v, g, _, h2⟩ := oV_some hr
    obtain ⟨_, rfl⟩ := Prod.mk.inj h2
    exact ⟨v, setD_env _ _ _ _ _, setD_sn _ _ _ _⟩
  have u : ∀ {r : R Unit}, oU d st r = some (none, st1) → ∃ v, st1.env = (setD d v st st.g).env ∧ st1.sn = st.sn := by
    intro r hr
    obtain ⟨g, _, h2⟩ := oU_some hr
    obtain ⟨_, rfl⟩ := Prod.mk.inj h2
    exact ⟨_, setD_env _ _ _ _ _, setD_sn _ _ _ _⟩
  cases op <;> simp only [opRun, fV, fU] at h <;> first | exact v h | exact u h | (cases h; done) | skip
  case slice t x lo hi mx =>
    cases mx with
    | none => exact v h
    | some m => cases h
  case call c =>
    obtain ⟨callee, args, ats⟩ := c
    cases callee with
    | invoke r m => cases h
    | value f =>
      have h1 : oCallV call d (ev st.env f) (args.toList.map (ev st.env)) st = some (none, st1) := h
      unfold oCallV at h1
      split at h1
      · unfold oCallR at h1
        split at h1
        · injection h1 with h1
          obtain ⟨_, rfl⟩ := Prod.mk.inj h1
          exact ⟨_, setD_env _ _ _ _ _, setD_sn _ _ _ _⟩
        · injection h1 with h1
          obtain ⟨h2, _⟩ := Prod.mk.inj h1
          cases h2
        · cases h1
      · cases h1
    | builtin b =>
      cases hb : isRecover b with
      | true =>
        obtain rfl := isRecover_eq hb
        have h1 : oRecover d st = some (none, st1) := h
        unfold oRecover at h1
        split at h1
        · injection h1 with h1
          obtain ⟨_, rfl⟩ := Prod.mk.inj h1
          exact ⟨_, rfl, by cases d <;> rfl⟩
        · injection h1 with h1
          obtain ⟨_, rfl⟩ := Prod.mk.inj h1
          exact ⟨_, rfl, by cases d <;> rfl⟩
        · injection h1 with h1
          obtain ⟨_, rfl⟩ := Prod.mk.inj h1
          exact ⟨_, rfl, by cases d <;> rfl⟩
        · cases h1
      | false =>
        have h0 : oCall ⟨.builtin b, args, ats⟩ T call d st = oV d st (oBuiltin T st.env b args.toList ats.toList st.g) := by simp only [oCall, hb]
        rw [h0] at h
        exact v h
  case defer c =>
    obtain ⟨callee, args, ats⟩ := c
    cases callee with
    | invoke r m => cases h
    | builtin b => cases h
    | value f =>
      have h1 : deferOp d (ev st.env f) (args.toList.map (ev st.env)) st = some (none, st1) := h
      unfold deferOp at h1
      split at h1
      · injection h1 with h1
        obtain ⟨_, rfl⟩ := Prod.mk.inj h1
        exact ⟨.und, rfl, by cases d <;> rfl⟩
      · cases h1
  case panic x =>
    have h1 : panicOp (ev st.env x) st = some (none, st1) := h
    unfold panicOp at h1
    split at h1
    · injection h1 with h1
      obtain ⟨h2, _⟩ := Prod.mk.inj h1
      cases h2
    · cases h1
/-- all but the variables is the same -/
structure Same (s t : St) : Prop where
  h : t.g.h = s.g.h
  nx : t.g.nx = s.g.nx
  df : t.df = s.df
  pm : t.pm = s.pm
theorem Same.refl (s : St) : Same s s := ⟨rfl, rfl, rfl, rfl⟩
theorem Same.trans {s t u : St} (h : Same s t) (k : Same t u) : Same s u := ⟨k.h.trans h.h, k.nx.trans h.nx, k.df.trans h.df, k.pm.trans h.pm⟩
theorem Same.symm {s t : St} (h : Same s t) : Same t s := ⟨h.h.symm, h.nx.symm, h.df.symm, h.pm.symm⟩
theorem setD_same {d : Option Nat} {v : AV} {st : St} {g1 g' : G} (h : Pc st.g g') : Same st (setD d v { st with g := g1 } g') := ⟨by rw [setD_g]; exact h.h, by rw [setD_g]; exact h.nx, by cases d <;> rfl, by cases d <;> rfl⟩
structure Tra (T : Tab) (call : CallT) (L : List Oper) (hi : List Nat) (N : Nat) (st0 : St) (s : Nat → St) (e : Nat) : Prop where
  s0 : s 0 = { st0 with sn := [st0.g.h] }
  le : e ≤ L.length
  step : ∀ i, i < e → ∃ o st1, L[i]? = some o ∧ oneOp L o T call (s i) = some (none, st1) ∧ s (i + 1) = snapI (hi.contains i) st1
  small : N < 16000000
  dst : ∀ o ∈ L, DstOk N o.dst
  his : hi = whoIs isEff T L
  ok : okTmps (ancs L) L = true
  chain : chainOk (ancs L) hi = true
theorem trace {ops : List Oper} : ∀ (l : List (Oper × Bool × Bool)) (st : St) (q : Option AV × St), opsDraw ops l T call st = some q → ∃ (s : Nat → St) (e : Nat), s 0 = st ∧ e ≤ l.length ∧ (∀ i, i < e → ∃ p st1, l[i]? = some p ∧ oneOp ops p.1 T call (s i) = some (none, st1) ∧ s (i + 1) = snapI p.2.1 st1) ∧
    ((e = l.length ∧ q = (none, s e)) ∨ ∃ p v st1, l[e]? = some p ∧ p.2.2 = true ∧ oneOp ops p.1 T call (s e) = some (some v, st1) ∧ q = (some v, st1)) := by
  intro l
  induction l with
  | nil =>
    intro st q h
    injection h with h
    exact ⟨fun _ => st, 0, rfl, Nat.le_refl _, fun i hi => absurd hi (Nat.not_lt_zero _), .inl ⟨rfl, h.symm⟩⟩
  | cons p r ih =>
    intro st q h
    have h1 : onPan p.2.2 (fun st => opsDraw ops r T call (snapI p.2.1 st)) (oneOp ops p.1 T call st) = some q := h
    unfold onPan at h1
    split at h1
    · rename_i st1 h2
      obtain ⟨s, e, a1, a2, a3, a4⟩ := ih _ q h1
      refine ⟨fun i => match i with | 0 => st | i + 1 => s i, e + 1, rfl, by simp; exact a2, fun i hi => ?_, ?_⟩
      · cases i with
        | zero => exact ⟨p, st1, rfl, h2, a1⟩
        | succ i =>
          obtain ⟨p', st', b1, b2, b3⟩ := a3 i (by omega)
          exact ⟨p', st', by simpa using b1, b2, b3⟩
      · rcases a4 with ⟨b1, b2⟩ | ⟨p', v, st', b1, b2, b3, b4⟩
        · exact .inl ⟨by rw [b1]; rfl, b2⟩
        · exact .inr ⟨p', v, st', by simpa using b1, b2, b3, b4⟩
    · rename_i v st1 h2
      split at h1
      · rename_i hok
        injection h1 with h1
        exact ⟨fun _ => st, 0, rfl, Nat.zero_le _, fun i hi => absurd hi (Nat.not_lt_zero _), .inr ⟨p, v, st1, rfl, hok, h2, h1.symm⟩⟩
      · cases h1
    · cases h1
theorem snapI_eq (b : Bool) (st : St) : (snapI b st).env = st.env ∧ (snapI b st).g = st.g ∧ (snapI b st).df = st.df ∧ (snapI b st).pm = st.pm := by cases b <;> exact ⟨rfl, rfl, rfl, rfl⟩
section
variable {hi : List Nat} {N : Nat} {st0 : St} {s : Nat → St} {e : Nat}
theorem Tra.lt (tr : Tra T call L hi N st0 s e) : hi.Pairwise (· < ·) := (chain_pair tr.chain).imp fun h => h.1
theorem Tra.okAt (tr : Tra T call L hi N st0 s e) {i : Nat} {o : Oper} (ho : L[i]? = some o) : (∀ ed ∈ o.after.toList, Region.binds .any ed = true → ed.on < i) ∧ ∀ k o', L[k]? = some o' → (i < k → ∀ d, o.dst = some d → o'.dst ≠ some d) ∧ (∀ t ∈ tmpsOf L o, o'.dst = some t → bitAt ((ancs L).getD i 0) k = true) := by
  have h1 := List.all_eq_true.1 tr.ok (i, o) (mem_idx.2 ho)
  rw [Bool.and_eq_true] at h1
  refine ⟨fun ed he hb => ?_, fun k o' hk => ?_⟩
  · have := List.all_eq_true.1 h1.1 ed he
    rw [hb] at this
    simpa [blt_iff] using this
  · have h2 := List.all_eq_true.1 h1.2 (k, o') (mem_idx.2 hk)
    rw [Bool.and_eq_true] at h2
    refine ⟨fun hik d hd hd' => ?_, fun t ht hd' => ?_⟩
    · have h3 := h2.1
      simp only [Bool.or_eq_true, Bool.not_eq_true', sameDst, hd, dstIs, hd'] at h3
      rcases h3 with h3 | h3
      · rw [blt_iff.2 hik] at h3; cases h3
      · rw [Nat.beq_refl] at h3; cases h3
    · have h3 := List.all_eq_true.1 h2.2 t ht
      simp only [Bool.or_eq_true, Bool.not_eq_true', dstIs, hd'] at h3
      rcases h3 with h3 | h3
      · rw [Nat.beq_refl] at h3; cases h3
      · exact h3
theorem Tra.anc_lt (tr : Tra T call L hi N st0 s e) : ∀ (i j : Nat), bitAt ((ancs L).getD i 0) j = true → j < i := by
  intro i
  induction i using Nat.strongRecOn with
  | _ i ih =>
    intro j h
    obtain ⟨o, ho, ed, he, hb, h1⟩ := ancs_bits h
    have hlt := (tr.okAt ho).1 ed he hb
    rcases h1 with rfl | h1
    · exact hlt
    · exact Nat.lt_trans (ih _ hlt j h1) hlt
theorem Tra.one (tr : Tra T call L hi N st0 s e) {i : Nat} (h : i < e) : ∃ o st1 g1, L[i]? = some o ∧ s (i + 1) = snapI (hi.contains i) st1 ∧ Pc (s i).g g1 ∧ ((opRun o.op T call o.dst { s i with g := g1 } = some (none, st1) ∧ GuardOn L o (s i).env g1.pc) ∨ (st1 = setD o.dst .und { s i with g := g1 } g1 ∧ GuardOff L o (s i).env g1.pc)) := by
  obtain ⟨o, st1, h1, h2, h3⟩ := tr.step i h
  obtain ⟨g1, hp, h4⟩ := one_some h2
  refine ⟨o, st1, g1, h1, h3, hp, h4.imp id fun ⟨a, b⟩ => ⟨(Prod.mk.inj a).2, b⟩⟩
theorem Tra.env (tr : Tra T call L hi N st0 s e) {i : Nat} (h : i < e) : ∃ o v, L[i]? = some o ∧ (s (i + 1)).env = (setD o.dst v (s i) (s i).g).env ∧ (∃ st1, s (i + 1) = snapI (hi.contains i) st1 ∧ st1.sn = (s i).sn) := by
  obtain ⟨o, st1, g1, h1, h2, hp, h3⟩ := tr.one h
  rcases h3 with ⟨h3, _⟩ | ⟨h3, _⟩
  · obtain ⟨v, h4, h5⟩ := opRun_env h3
    refine ⟨o, v, h1, ?_, st1, h2, h5⟩
    rw [h2, (snapI_eq _ _).1, h4]
    cases o.dst <;> rfl
  · refine ⟨o, .und, h1, ?_, st1, h2, ?_⟩
    · rw [h2, (snapI_eq _ _).1, h3]
      cases o.dst <;> rfl
    · rw [h3, setD_sn]
theorem Tra.evT (tr : Tra T call L hi N st0 s e) {i : Nat} (h : i < e) : ∃ o v, L[i]? = some o ∧ (∀ d, o.dst = some d → evT (s (i + 1)).env d = v) ∧ ∀ t, o.dst ≠ some t → SX.evT (s (i + 1)).env t = SX.evT (s i).env t := by
  obtain ⟨o, v, h1, h2, _⟩ := tr.env h
  have hd := tr.dst o (List.mem_of_getElem? h1)
  refine ⟨o, v, h1, fun d hdd => ?_, fun t ht => ?_⟩
  · rw [h2, hdd]
    show SX.evT ((s i).env.put d (some v)) d = v
    rw [evT_eq, get_put _ _ _ _ (Nat.lt_trans (hd d hdd) tr.small), if_pos rfl]
  · rw [h2]
    cases hdd : o.dst with
    | none => rfl
    | some d =>
      show SX.evT ((s i).env.put d (some v)) t = _
      rw [evT_eq, get_put _ _ _ _ (Nat.lt_trans (hd d hdd) tr.small), if_neg (fun e => ht (by rw [hdd, e])), ← evT_eq]
theorem Tra.keep (tr : Tra T call L hi N st0 s e) {a b t : Nat} (hab : a ≤ b) (hb : b ≤ e) (h : ∀ k o, a ≤ k → k < b → L[k]? = some o → o.dst ≠ some t) : SX.evT (s b).env t = SX.evT (s a).env t := by
  induction b with
  | zero => obtain rfl : a = 0 := by omega
            rfl
  | succ b ih =>
    by_cases hab' : a = b + 1
    · rw [hab']
    · obtain ⟨o, v, h1, _, h3⟩ := tr.evT (show b < e by omega)
      rw [h3 t (h b o (by omega) (by omega) h1)]
      exact ih (by omega) (by omega) (fun k o h1 h2 => h k o h1 (by omega))
/-- what an operation looks at is the same at the end -/
theorem Tra.looks (tr : Tra T call L hi N st0 s e) {i : Nat} {o : Oper} (ho : L[i]? = some o) (hie : i ≤ e) {t : Nat} (ht : t ∈ tmpsOf L o) : SX.evT (s e).env t = SX.evT (s i).env t := by
  refine tr.keep hie (Nat.le_refl _) (fun k o' h1 h2 h3 h4 => ?_)
  have := tr.anc_lt i k (((tr.okAt ho).2 k o' h3).2 t ht h4)
  omega
theorem Tra.made (tr : Tra T call L hi N st0 s e) {i : Nat} {o : Oper} (ho : L[i]? = some o) (hie : i < e) {d : Nat} (hd : o.dst = some d) : SX.evT (s e).env d = SX.evT (s (i + 1)).env d := by
  refine tr.keep hie (Nat.le_refl _) (fun k o' h1 h2 h3 h4 => ?_)
  exact ((tr.okAt ho).2 k o' h3).1 (by omega) d hd h4
theorem Tra.still (tr : Tra T call L hi N st0 s e) {i : Nat} (h : i < e) (hn : i ∉ hi) : Same (s i) (s (i + 1)) ∧ (s (i + 1)).sn = (s i).sn := by
  obtain ⟨o, st1, g1, h1, h2, hp, h3⟩ := tr.one h
  have hc : hi.contains i = false := by
    cases hc : hi.contains i with
    | false => rfl
    | true => exact absurd (List.contains_iff_mem.1 hc) hn
  have hne : isEff (cls T o.op) = false := by
    cases hx : isEff (cls T o.op) with
    | false => rfl
    | true => exact absurd (by rw [tr.his]; exact mem_whoIs.2 ⟨o, h1, hx⟩) hn
  rw [hc] at h2
  have h2' : s (i + 1) = st1 := h2
  rcases h3 with ⟨h3, _⟩ | ⟨h3, _⟩
  · obtain ⟨v, g', h4, h5⟩ := quiet hne h3
    obtain ⟨_, rfl⟩ := Prod.mk.inj h4
    rw [h2']
    exact ⟨setD_same (hp.trans h5), by rw [setD_sn]⟩
  · rw [h2', h3]
    exact ⟨setD_same hp, by rw [setD_sn]⟩
theorem Tra.mono (tr : Tra T call L hi N st0 s e) {a b : Nat} (h : a ≤ b) : before hi a ≤ before hi b := by
  induction b with
  | zero => obtain rfl : a = 0 := by omega
            exact Nat.le_refl _
  | succ b ih =>
    by_cases hab : a = b + 1
    · rw [hab]; exact Nat.le_refl _
    · have := before_succ tr.lt b
      have := ih (by omega)
      omega
theorem Tra.same_le (tr : Tra T call L hi N st0 s e) {a b : Nat} (hab : a ≤ b) (hb : b ≤ e) (h : before hi a = before hi b) : Same (s a) (s b) := by
  induction b with
  | zero => obtain rfl : a = 0 := by omega
            exact .refl _
  | succ b ih =>
    by_cases hab' : a = b + 1
    · rw [hab']; exact .refl _
    · have h1 := before_succ tr.lt b
      have h2 := tr.mono (show a ≤ b by omega)
      by_cases hm : b ∈ hi
      · rw [if_pos hm] at h1; omega
      · rw [if_neg hm] at h1
        exact (ih (by omega) (by omega) (by omega)).trans (tr.still (by omega) hm).1
theorem Tra.same (tr : Tra T call L hi N st0 s e) {a b : Nat} (ha : a ≤ e) (hb : b ≤ e) (h : before hi a = before hi b) : Same (s a) (s b) := by
  rcases Nat.le_total a b with hab | hab
  · exact tr.same_le hab hb h
  · exact (tr.same_le hab ha h.symm).symm
theorem Tra.sn (tr : Tra T call L hi N st0 s e) {i : Nat} (h : i ≤ e) : (s i).sn.length = before hi i + 1 ∧ ∀ j, j ≤ i → (s i).sn.reverse[before hi j]? = some (s j).g.h := by
  induction i with
  | zero =>
    have h0 : before hi 0 = 0 := by
      unfold before
      rw [List.length_eq_zero_iff, List.filter_eq_nil_iff]
      intro x _ hb
      rw [blt_iff] at hb; omega
    rw [tr.s0, h0]
    refine ⟨rfl, fun j hj => ?_⟩
    obtain rfl : j = 0 := by omega
    rw [h0, tr.s0]; rfl
  | succ i ih =>
    obtain ⟨i1, i2⟩ := ih (by omega)
    have hb := before_succ tr.lt i
    by_cases hm : i ∈ hi
    · obtain ⟨o, v, h1, h2, st1, h3, h4⟩ := tr.env (show i < e by omega)
      rw [List.contains_iff_mem.2 hm] at h3
      rw [if_pos hm] at hb
      have hsn : (s (i + 1)).sn = st1.g.h :: (s i).sn := by rw [h3]; show st1.g.h :: st1.sn = _; rw [h4]
      have hg : (s (i + 1)).g.h = st1.g.h := by rw [h3]; rfl
      refine ⟨by rw [hsn, List.length_cons, i1, hb], fun j hj => ?_⟩
      rw [hsn, List.reverse_cons]
      by_cases hji : j ≤ i
      · have := tr.mono hji
        rw [List.getElem?_append_left (by rw [List.length_reverse, i1]; omega)]
        exact i2 j hji
      · obtain rfl : j = i + 1 := by omega
        rw [List.getElem?_append_right (by rw [List.length_reverse, i1]; omega), List.length_reverse, i1, hb, hg, Nat.sub_self]
        rfl
    · obtain ⟨h1, h2⟩ := tr.still (show i < e by omega) hm
      rw [if_neg hm] at hb
      have hb : before hi (i + 1) = before hi i := hb
      refine ⟨by rw [h2, i1, hb], fun j hj => ?_⟩
      rw [h2]
      by_cases hji : j ≤ i
      · exact i2 j hji
      · obtain rfl : j = i + 1 := by omega
        rw [hb, i2 i (Nat.le_refl _), h1.h]
end
end
section
variable {P : Program} {T : Tab} {E : Nat → Prop} {ρ ρ' ρ0 : Rn} {call : CallT}
theorem mo_rdV {env : Tr AV} {op : Op} {g : G} : Mo g (rdV T env op g) := by
  unfold rdV
  split
  · exact mo_oLoad
  · exact mo_oLookup
  · exact mo_convert
  · split
    · exact mo_oBuiltin
    · exact Mo.none
  · exact Mo.none
theorem winRead_some {env : Tr AV} {op : Op} {d : Nat} {h : Tr AObj} {g g2 : G} (hh : winRead T env op d h g = some ((), g2)) : ∃ v g' g'', rdV T env op { g with h := h } = some (v, g') ∧ sameV v (evT env d) g' = some ((), g'') ∧ Pc g g2 ∧ (g2.pc → g''.pc ∧ g'.pc) := by
  unfold winRead at hh
  split at hh
  · rename_i v g' h1
    split at hh
    · rename_i u g'' h2
      injection hh with hh
      obtain ⟨_, rfl⟩ := Prod.mk.inj hh
      have m1 := mo_rdV (T := T) v g' h1
      have m2 := (sameV_ok (ρ := ⟨id, id⟩) (D := fun _ => True) h2).1
      exact ⟨v, g', g'', h1, h2, ⟨rfl, rfl, fun p => m1.pc (m2.pc p)⟩, fun p => ⟨p, m2.pc p⟩⟩
    · cases hh
  · cases hh
theorem winOne_some {L : List Oper} {env : Tr AV} {hs : List (Tr AObj)} {w : Nat × Nat} {g g2 : G} (hh : winOne T L env hs w g = some ((), g2)) : ∃ o d h, L[w.1]? = some o ∧ o.dst = some d ∧ hs[w.2]? = some h ∧ winGuard T L env o d h g = some ((), g2) := by
  unfold winOne at hh
  split at hh
  · rename_i o ho
    split at hh
    · rename_i d h hd hx
      exact ⟨o, d, h, ho, hd, hx, hh⟩
    · cases hh
  · cases hh
theorem winGuard_pc {L : List Oper} {env : Tr AV} {o : Oper} {d : Nat} {h : Tr AObj} {g g2 : G} (hh : winGuard T L env o d h g = some ((), g2)) : Pc g g2 := by
  unfold winGuard at hh
  split at hh
  · obtain ⟨_, _, _, _, _, hp, _⟩ := winRead_some hh
    exact hp
  · split at hh
    · unfold winWant at hh
      split at hh
      · obtain ⟨_, rfl⟩ := Prod.mk.inj (rok_some hh); exact .refl _
      · split at hh
        · obtain ⟨g1, hp, _, h1⟩ := chk_some hh
          obtain ⟨_, rfl⟩ := Prod.mk.inj (rok_some h1); exact hp
        · obtain ⟨g1, hp, _, h1⟩ := chk_some hh
          obtain ⟨_, _, _, _, _, hp1, _⟩ := winRead_some h1
          exact hp.trans hp1
      · cases hh
    · cases hh
theorem winAll_some {L : List Oper} {env : Tr AV} {hs : List (Tr AObj)} : ∀ (l : List (Nat × Nat)) (g g' : G), winAll T L env hs l g = some ((), g') → Pc g g' ∧ ∀ w ∈ l, ∃ g1 g2, winOne T L env hs w g1 = some ((), g2) ∧ (g'.pc → g2.pc) := by
  intro l
  induction l with
  | nil =>
    intro g g' h
    obtain ⟨_, rfl⟩ := Prod.mk.inj (rok_some (show rok () g = some ((), g') from h))
    exact ⟨.refl _, fun w hw => by cases hw⟩
  | cons x r ih =>
    intro g g' h
    have h1 : winC (winOne T L env hs x g) (winAll T L env hs r) = some ((), g') := h
    unfold winC at h1
    split at h1
    · rename_i u ga h2
      obtain ⟨p1, p2⟩ := ih ga g' h1
      obtain ⟨o, d, hx, _, _, _, h3⟩ := winOne_some h2
      refine ⟨(winGuard_pc h3).trans p1, fun w hw => ?_⟩
      rcases List.mem_cons.1 hw with rfl | hw
      · exact ⟨g, ga, h2, p1.pc⟩
      · exact p2 w hw
    · cases h1
/-- where the read is carried out elsewhere it gives the same -/
theorem winGuard_on {L : List Oper} {env env' : Tr AV} {o : Oper} {d : Nat} {h : Tr AObj} {g g2 : G} {pc : Prop} (hh : winGuard T L env o d h g = some ((), g2)) (p : g2.pc) (hpc : pc) (hon : GuardOn L o env' pc) (he : ∀ j want gd, o.guard = some (j, want) → dstOf L j = some gd → evT env gd = evT env' gd) :
    ∃ ga, winRead T env o.op d h ga = some ((), g2) := by
  unfold winGuard at hh
  rcases hon with hg | ⟨j, want, gd, s, b, hg, hgd, hv, hb⟩
  · rw [hg] at hh; exact ⟨g, hh⟩
  · rw [hg] at hh
    simp only [hgd] at hh
    rw [he j want gd hg hgd, hv] at hh
    unfold winWant at hh
    simp only at hh
    split at hh
    · obtain ⟨g1, hp, hc, h1⟩ := chk_some hh
      obtain ⟨_, rfl⟩ := Prod.mk.inj (rok_some h1)
      have h2 := boolEq_iff (hc p)
      have h3 := hb hpc
      rw [h3] at h2
      cases want <;> cases h2
    · obtain ⟨g1, hp, hc, h1⟩ := chk_some hh
      exact ⟨g1, h1⟩
variable {ops : Array Oper} {hi : List Nat} {N : Nat} {st0 : St} {s : Nat → St} {e : Nat} {b : Frame} {w w' w0 : World} {cs cs' cs0 : List Frame} {a a' : Act}
theorem Tra.leStep {L : List Oper} (hc : CallMo call) (tr : Tra T call L hi N st0 s e) {i : Nat} (h : i < e) : Le (s i).g (s (i + 1)).g := by
  obtain ⟨o, st1, h1, h2, h3⟩ := tr.step i h
  rw [h3, (snapI_eq _ _).2.1]
  exact opOne_mo (T := T) hc (ops := L) (o := o) (ih := fun _ _ st => some (none, st)) (fun st => .some (.refl _)) (s i) none st1 h2
theorem Tra.leTo {L : List Oper} (hc : CallMo call) (tr : Tra T call L hi N st0 s e) {i j : Nat} (hij : i ≤ j) (hj : j ≤ e) : Le (s i).g (s j).g := by
  induction j with
  | zero => obtain rfl : i = 0 := by omega
            exact .refl _
  | succ j ih =>
    by_cases h : i = j + 1
    · rw [h]; exact .refl _
    · exact (ih (by omega) (by omega)).trans (tr.leStep hc (by omega))
structure Inv (P : Program) (E : Nat → Prop) (ops : Array Oper) (hi : List Nat) (N : Nat) (st0 : St) (s : Nat → St) (e : Nat) (kd : CallKind) (ρ0 : Rn) (w0 : World) (cs0 : List Frame) (La : Array Bool) (c : Nat) (ρ : Rn) (a : Act) (w : World) (cs : List Frame) : Prop where
  sz : La.size = ops.size
  cl : ∀ i j, La.getD i false = true → bitAt ((ancs ops.toList).getD i 0) j = true → La.getD j false = true
  ce : c ≤ e
  ef : ∀ j ∈ hi, La.getD j false = true ↔ j < c
  lt : ∀ i, La.getD i false = true → i < e
  tsz : a.tmps.size = N
  vin : ∀ i o t, La.getD i false = true → ops.toList[i]? = some o → o.dst = some t → VR ρ (Dm E (s c).g.nx) (evT (s e).env t) (a.tmps.getD t undef)
  vout : ∀ t, (∀ i o, La.getD i false = true → ops.toList[i]? = some o → o.dst ≠ some t) → VR ρ (Dm E (s c).g.nx) (evT st0.env t) (a.tmps.getD t undef)
  sr : SR0 P E ρ (s c) a.defers w kd cs
  eff : Eff P E ρ0 st0.g w0 ρ (s c).g w
  no : isNo (s c).pm = isNo st0.pm
  keep : Keep st0.pm cs0 cs
theorem getD_set {La : Array Bool} {i j : Nat} (hi : i < La.size) : (La.setIfInBounds i true).getD j false = if j = i then true else La.getD j false := by
  simp only [Array.getD_eq_getD_getElem?, Array.getElem?_setIfInBounds]
  by_cases h : j = i
  · subst h; simp [hi]
  · rw [if_neg (fun e => h e.symm), if_neg h]
structure Ready (ops : Array Oper) (La : Array Bool) (i : Nat) : Prop where
  lt : i < ops.size
  no : La.getD i false = false
  anc : ∀ k, bitAt ((ancs ops.toList).getD i 0) k = true → La.getD k false = true
theorem ready_of {La : Array Bool} {i : Nat} (hsz : La.size = ops.size) (hcl : ∀ i j, La.getD i false = true → bitAt ((ancs ops.toList).getD i 0) j = true → La.getD j false = true) (h : i ∈ Region.ready .any ops La) : Ready ops La i := by
  unfold Region.ready at h
  rw [List.mem_filter, List.mem_range, Bool.and_eq_true] at h
  obtain ⟨h1, h2, h3⟩ := h
  have hx : La[i]? = some (La[i]'(by omega)) := Array.getElem?_eq_getElem _
  refine ⟨h1, ?_, fun k hk => ?_⟩
  · simp only [Array.getD_eq_getD_getElem?, hx, Option.getD_some, Bool.not_eq_true'] at h2 ⊢
    exact h2
  · obtain ⟨o, ho, ed, hed, hb, hk2⟩ := ancs_bits hk
    have ho' : ops[i]? = some o := by simpa using ho
    rw [ho'] at h3
    simp only [Option.map_some, Option.getD_some] at h3
    rw [Array.all_eq_true_iff_forall_mem] at h3
    have h4 := h3 ed (Array.mem_def.2 hed)
    rw [hb] at h4
    simp only [Bool.not_true, Bool.false_or] at h4
    rcases hk2 with rfl | hk2
    · exact h4
    · exact hcl _ _ h4 hk2
theorem Inv.next (tr : Tra T call ops.toList hi N st0 s e) {kd : CallKind} {La : Array Bool} {c c' i : Nat} (iv : Inv P E ops hi N st0 s e kd ρ0 w0 cs0 La c ρ a w cs) (rd : Ready ops La i) (hie : i < e) (hce : c' ≤ e) (hef : ∀ j ∈ hi, (La.getD j false = true ∨ j = i) ↔ j < c')
    {o : Oper} (ho : ops.toList[i]? = some o) {v : AV} {x : Value} (hv : (s (i + 1)).env = (setD o.dst v (s i) (s i).g).env) (ht : a'.tmps = (a.put o.dst x).tmps) (hx : VR ρ' (Dm E (s c').g.nx) v x) (hs : SR0 P E ρ' (s c') a'.defers w' kd cs') (he : Eff P E ρ (s c).g w ρ' (s c').g w') (hn : isNo (s c').pm = isNo (s c).pm) (hk : Keep (s c).pm cs cs') :
    Inv P E ops hi N st0 s e kd ρ0 w0 cs0 (La.setIfInBounds i true) c' ρ' a' w' cs' := by
  have hil : i < La.size := by rw [iv.sz]; exact rd.lt
  have hd := tr.dst o (List.mem_of_getElem? ho)
  have hset : ∀ j, (La.setIfInBounds i true).getD j false = true ↔ (La.getD j false = true ∨ j = i) := by
    intro j
    rw [getD_set hil]
    by_cases h : j = i
    · simp [h]
    · simp [h]
  have htm : ∀ t, o.dst ≠ some t → a'.tmps.getD t undef = a.tmps.getD t undef := by
    intro t hne
    rw [ht]
    cases hdd : o.dst with
    | none => rfl
    | some d =>
      simp only [Act.put, Array.getD_eq_getD_getElem?]
      rw [Array.getElem?_setIfInBounds_ne (fun e => hne (by rw [hdd, e]))]
  refine ⟨by simp [iv.sz], ?_, hce, ?_, ?_, ?_, ?_, ?_, hs, iv.eff.trans he, hn.trans iv.no, iv.keep.trans iv.no hk⟩
  · intro q j hq hb
    rw [hset] at hq ⊢
    rcases hq with hq | rfl
    · exact .inl (iv.cl q j hq hb)
    · exact .inl (rd.anc j hb)
  · intro j hj
    rw [hset]
    exact hef j hj
  · intro q hq
    rw [hset] at hq
    rcases hq with hq | rfl
    · exact iv.lt q hq
    · exact hie
  · rw [ht]
    cases o.dst with
    | none => exact iv.tsz
    | some d => simp [Act.put, iv.tsz]
  · intro q o' t hq ho' hdt
    rw [hset] at hq
    by_cases hqi : q = i
    · subst hqi
      rw [ho] at ho'
      injection ho' with ho'
      subst ho'
      rw [tr.made ho hie hdt, hv, hdt]
      have e1 : evT (setD (some t) v (s q) (s q).g).env t = v := by
        show evT ((s q).env.put t (some v)) t = v
        rw [evT_eq, get_put _ _ _ _ (Nat.lt_trans (hd t hdt) tr.small), if_pos rfl]
      rw [e1, ht, hdt]
      have e2 : (a.put (some t) x).tmps.getD t undef = x := by
        simp only [Act.put, Array.getD_eq_getD_getElem?]
        rw [Array.getElem?_setIfInBounds_self_of_lt (by rw [iv.tsz]; exact hd t hdt)]; rfl
      rw [e2]
      exact hx
    · have hq' : La.getD q false = true := hq.resolve_right hqi
      have hne : o.dst ≠ some t := by
        intro hh
        rcases Nat.lt_or_gt_of_ne hqi with hlt | hlt
        · exact ((tr.okAt ho').2 i o ho).1 hlt t hdt hh
        · exact ((tr.okAt ho).2 q o' ho').1 hlt t hh hdt
      rw [htm t hne]
      exact (iv.vin q o' t hq' ho' hdt).mono he.use
  · intro t hno
    have hne : o.dst ≠ some t := hno i o ((hset i).2 (.inr rfl)) ho
    rw [htm t hne]
    exact (iv.vout t fun q o' hq ho' => hno q o' ((hset q).2 (.inl hq)) ho').mono he.use
/-- what a ready operation looks at -/
theorem Inv.sees (tr : Tra T call ops.toList hi N st0 s e) {kd : CallKind} {La : Array Bool} {c i : Nat} (iv : Inv P E ops hi N st0 s e kd ρ0 w0 cs0 La c ρ a w cs) (rd : Ready ops La i) (hie : i ≤ e) {o : Oper} (ho : ops.toList[i]? = some o) {t : Nat} (ht : t ∈ tmpsOf ops.toList o) :
    VR ρ (Dm E (s c).g.nx) (evT (s i).env t) (a.tmps.getD t undef) := by
  by_cases hx : ∃ (k : Nat) (o' : Oper), ops.toList[k]? = some o' ∧ o'.dst = some t
  · obtain ⟨k, o', hk, hd⟩ := hx
    have h1 := rd.anc k (((tr.okAt ho).2 k o' hk).2 t ht hd)
    have := iv.vin k o' t h1 hk hd
    rw [tr.looks ho hie ht] at this
    exact this
  · have h1 := iv.vout t fun q o' _ ho' hd => hx ⟨q, o', ho', hd⟩
    have h2 := tr.keep (t := t) (Nat.zero_le i) hie (fun k o' _ _ hk hd => hx ⟨k, o', hk, hd⟩)
    rw [h2, tr.s0]
    exact h1
theorem mem_tmpsOf {L : List Oper} {o : Oper} {t : Nat} (h : Operand.tmp t ∈ o.op.operands) : t ∈ tmpsOf L o := by
  unfold tmpsOf
  refine List.mem_append_left _ (List.mem_filterMap.2 ⟨.tmp t, Array.mem_def.1 h, rfl⟩)
theorem mem_tmpsOf_guard {L : List Oper} {o : Oper} {j gd : Nat} {want : Bool} (hg : o.guard = some (j, want)) (hd : dstOf L j = some gd) : gd ∈ tmpsOf L o := by
  unfold tmpsOf
  refine List.mem_append_right _ ?_
  rw [hg]
  simp only [hd]
  exact List.mem_cons_self ..
theorem Inv.operands (tr : Tra T call ops.toList hi N st0 s e) {kd : CallKind} {La : Array Bool} {c i : Nat} (iv : Inv P E ops hi N st0 s e kd ρ0 w0 cs0 La c ρ a w cs) (rd : Ready ops La i) (hie : i ≤ e) {o : Oper} (ho : ops.toList[i]? = some o) :
    ∀ x ∈ o.op.operands, VR ρ (Dm E (s c).g.nx) (ev (s i).env x) (a.eval x) := by
  intro x hx
  cases x with
  | tmp t => exact iv.sees tr rd hie ho (mem_tmpsOf hx)
  | const v => exact ofV_ok ρ _ v
  | global g => exact glob_ok iv.sr.gl g
  | func f => exact .fn _ [] [] #[] #[] rfl (fun i x a hx => by simp at hx) rfl (fun i x a hx => by simp at hx)
/-- the guard tells the same -/
theorem Inv.guardOn (tr : Tra T call ops.toList hi N st0 s e) {kd : CallKind} {La : Array Bool} {c i : Nat} (iv : Inv P E ops hi N st0 s e kd ρ0 w0 cs0 La c ρ a w cs) (rd : Ready ops La i) (hie : i ≤ e) {o : Oper} (ho : ops.toList[i]? = some o) {pc : Prop} (p : pc) (h : GuardOn ops.toList o (s i).env pc) : Region.wanted o (yielded ops a.tmps) = true := by
  rcases h with hg | ⟨j, want, gd, f, t, hg, hd, hv, hb⟩
  · exact wanted_none hg
  · have h1 := iv.sees tr rd hie ho (mem_tmpsOf_guard hg hd)
    rw [hv] at h1
    rw [wanted_bool hg hd h1.bool_inv, hb p]
    simp
theorem Inv.guardOff (tr : Tra T call ops.toList hi N st0 s e) {kd : CallKind} {La : Array Bool} {c i : Nat} (iv : Inv P E ops hi N st0 s e kd ρ0 w0 cs0 La c ρ a w cs) (rd : Ready ops La i) (hie : i ≤ e) {o : Oper} (ho : ops.toList[i]? = some o) {pc : Prop} (p : pc) (h : GuardOff ops.toList o (s i).env pc) : Region.wanted o (yielded ops a.tmps) = false := by
  obtain ⟨j, want, gd, hg, hd, h⟩ := h
  have h1 := iv.sees tr rd hie ho (mem_tmpsOf_guard hg hd)
  rcases h with hv | ⟨f, t, hv, hb⟩
  · rw [hv] at h1
    exact wanted_und hg hd (by generalize a.tmps.getD gd undef = z at h1; cases h1; rfl)
  · rw [hv] at h1
    rw [wanted_bool hg hd h1.bool_inv]
    have := hb p
    cases t <;> cases want <;> first | rfl | exact absurd rfl this
end
section
variable {P : Program} {T : Tab} {E : Nat → Prop} {ρ ρ' ρ0 : Rn} {call : CallT}
variable {ops : Array Oper} {hi : List Nat} {N : Nat} {st0 : St} {s : Nat → St} {e : Nat} {b : Frame} {w w' w0 : World} {cs cs' cs0 : List Frame} {a a' : Act}
theorem SR0.same {st st' : St} {ds : List Deferred} {kd : CallKind} (h : SR0 P E ρ st ds w kd cs) (k : Same st st') : SR0 P E ρ st' ds w kd cs :=
  ⟨by rw [k.nx]; exact h.gl, by rw [k.nx, k.df]; exact h.df, by rw [k.nx, k.pm]; exact h.pm, by rw [k.nx, k.h]; exact h.gr⟩
theorem Eff.sameR {g g' g'' : G} (h : Eff P E ρ g w ρ' g' w') (h1 : g''.h = g'.h) (h2 : g''.nx = g'.nx) : Eff P E ρ g w ρ' g'' w' :=
  ⟨by rw [h2]; exact h.nx, h.ext, by rw [h2, h1]; exact h.gr, by rw [h1]; exact h.fr⟩
theorem Eff.sameL {g0 g g' : G} (h1 : g0.h = g.h) (h2 : g0.nx = g.nx) (h : Eff P E ρ g w ρ' g' w') : Eff P E ρ g0 w ρ' g' w' :=
  ⟨by rw [h2]; exact h.nx, by rw [h2]; exact h.ext, h.gr, by rw [h1]; exact h.fr⟩
theorem before_congr {hi : List Nat} {c i : Nat} (h : ∀ j ∈ hi, j < c ↔ j < i) : before hi c = before hi i := by
  unfold before
  congr 1
  refine List.filter_congr fun j hj => ?_
  have := h j hj
  by_cases hc : j < c
  · rw [blt_iff.2 hc, blt_iff.2 (this.1 hc)]
  · have h1 : ¬ j < i := fun hh => hc (this.2 hh)
    have e1 : Nat.blt j c = false := by
      cases hb : Nat.blt j c with
      | false => rfl
      | true => exact absurd (blt_iff.1 hb) hc
    have e2 : Nat.blt j i = false := by
      cases hb : Nat.blt j i with
      | false => rfl
      | true => exact absurd (blt_iff.1 hb) h1
    rw [e1, e2]
/-- before an effect just the earlier effects have been -/
theorem Inv.atEff (tr : Tra T call ops.toList hi N st0 s e) {kd : CallKind} {La : Array Bool} {c i : Nat} (iv : Inv P E ops hi N st0 s e kd ρ0 w0 cs0 La c ρ a w cs) (rd : Ready ops La i) (him : i ∈ hi) : ∀ j ∈ hi, La.getD j false = true ↔ j < i := by
  have hp := chain_pair tr.chain
  intro j hj
  have pair : ∀ x ∈ hi, ∀ y ∈ hi, x < y → bitAt ((ancs ops.toList).getD y 0) x = true := by
    intro x hx y hy hxy
    obtain ⟨p, hpx⟩ := List.mem_iff_getElem?.1 hx
    obtain ⟨q, hqy⟩ := List.mem_iff_getElem?.1 hy
    have hpl := lt_of_get hpx
    have hql := lt_of_get hqy
    have e1 : hi[p] = x := by rw [List.getElem?_eq_getElem hpl] at hpx; injection hpx
    have e2 : hi[q] = y := by rw [List.getElem?_eq_getElem hql] at hqy; injection hqy
    rcases Nat.lt_trichotomy p q with h | h | h
    · have := List.pairwise_iff_getElem.1 hp p q hpl hql h
      rw [e1, e2] at this
      exact this.2
    · subst h; rw [e1] at e2; omega
    · have := List.pairwise_iff_getElem.1 hp q p hql hpl h
      rw [e1, e2] at this
      omega
  constructor
  · intro hl
    rcases Nat.lt_trichotomy j i with h | h | h
    · exact h
    · subst h; rw [rd.no] at hl; cases hl
    · have := iv.cl j i hl (pair i him j hj h)
      rw [rd.no] at this; cases this
  · intro h
    exact rd.anc j (pair j hj i him h)
theorem Inv.step (hT : TabOk P T) (hc : CallOk P call) (tr : Tra T call ops.toList hi N st0 s e) (pE : (s e).g.pc) (nE : ∀ b, E b → (s e).g.nx ≤ b)
    (hwin : ∀ r p, (r, p) ∈ (whoIs Cls.isRead T ops.toList).flatMap (winsOf (ancs ops.toList) hi) → p ≤ before hi e → ∃ g1 g2, winOne T ops.toList (s e).env (s e).sn.reverse (r, p) g1 = some ((), g2) ∧ g2.pc)
    {La : Array Bool} {c i : Nat} (iv : Inv P E ops hi N st0 s e b.kind ρ0 w0 cs0 La c ρ a w cs) (rd : Ready ops La i) (hie : i < e) (k : List Item) (rest : List Nat) :
    ∃ c' ρ' a' w' cs', Inv P E ops hi N st0 s e b.kind ρ0 w0 cs0 (La.setIfInBounds i true) c' ρ' a' w' cs' ∧ Steps P (lone (b.at a (.inRegion ops (i :: rest) :: k)) cs w) (lone (b.at a' (.inRegion ops rest :: k)) cs' w') := by
  obtain ⟨o, st1, g1, ho, hs1, hp, h⟩ := tr.one hie
  have ho' : ops[i]? = some o := by simpa using ho
  have hle1 := tr.leTo hc.mo (show i + 1 ≤ e by omega) (Nat.le_refl _)
  have hg1 : (s (i + 1)).g = st1.g := by rw [hs1]; exact (snapI_eq _ _).2.1
  have hle2 : Le st1.g (s e).g := by rw [← hg1]; exact hle1
  have pst : st1.g.pc := hle2.pc pE
  -- the variables after it
  have henv : ∀ v, st1.env = (setD o.dst v (s i) (s i).g).env → (s (i + 1)).env = (setD o.dst v (s i) (s i).g).env := fun v hv => by rw [hs1, (snapI_eq _ _).1, hv]
  have hops := iv.operands tr rd (Nat.le_of_lt hie) ho
  have notEff : i ∉ hi → ∀ j ∈ hi, (La.getD j false = true ∨ j = i) ↔ j < c := fun hn j hj => by
    have hne : j ≠ i := fun hh => hn (by rw [← hh]; exact hj)
    rw [← iv.ef j hj]
    exact ⟨fun hh => hh.resolve_right hne, .inl⟩
  have isEff' : i ∈ hi → (∀ j ∈ hi, (La.getD j false = true ∨ j = i) ↔ j < i + 1) ∧ Same (s c) (s i) := fun hm => by
    have hat := iv.atEff tr rd hm
    refine ⟨fun j hj => ?_, tr.same iv.ce (Nat.le_of_lt hie) (before_congr fun j hj => (iv.ef j hj).symm.trans (hat j hj))⟩
    rw [hat j hj]; omega
  rcases h with ⟨hrun, hon⟩ | ⟨hskip, hoff⟩
  · have hleg : Le g1 st1.g := opRun_mo (T := T) (st := { s i with g := g1 }) hc.mo none st1 hrun
    have pg1 : g1.pc := hleg.pc pst
    have hw := iv.guardOn tr rd (Nat.le_of_lt hie) ho pg1 hon
    by_cases hm : i ∈ hi
    · obtain ⟨hef, hsame⟩ := isEff' hm
      have hsame1 : Same (s c) { s i with g := g1 } := hsame.trans ⟨hp.h, hp.nx, rfl, rfl⟩
      have hsr := iv.sr.same hsame1
      have := op_okV (k := k) (rest := rest) hT hc hrun pst (fun b hb => Nat.le_trans hle2.nx (nE b hb)) (fun x hx => by have := hops x hx; rw [← hsame1.nx] at this; exact this) hsr ho' hw
      obtain ⟨v, x, ρ', a', w', cs', e1, e2, e3, e4, e5⟩ := this
      have hst : Same st1 (s (i + 1)) := by rw [hs1]; exact ⟨by rw [(snapI_eq _ _).2.1], by rw [(snapI_eq _ _).2.1], (snapI_eq _ _).2.2.1, (snapI_eq _ _).2.2.2⟩
      refine ⟨i + 1, ρ', a', w', cs', iv.next tr rd hie (by omega) hef ho (henv v (by rw [e1]; cases o.dst <;> rfl)) e2 (by rw [hg1]; exact e3) (e4.sr.same hst) ((Eff.sameL hsame1.h.symm hsame1.nx.symm e4.eff).sameR hst.h hst.nx) ?_ ?_, e5⟩
      · rw [hst.pm, e4.no]; show isNo (s i).pm = _; rw [hsame.pm]
      · have := e4.keep
        rw [hsame1.pm] at this; exact this
    · have hne : isEff (cls T o.op) = false := by
        cases hx : isEff (cls T o.op) with
        | false => rfl
        | true => exact absurd (by rw [tr.his]; exact mem_whoIs.2 ⟨o, ho, hx⟩) hm
      have fin : ∀ v x, st1.env = (setD o.dst v (s i) (s i).g).env → (execOp a.eval o).run P w = .ok (.value x) w → VR ρ (Dm E (s c).g.nx) v x → ∃ c' ρ' a' w' cs', Inv P E ops hi N st0 s e b.kind ρ0 w0 cs0 (La.setIfInBounds i true) c' ρ' a' w' cs' ∧ Steps P (lone (b.at a (.inRegion ops (i :: rest) :: k)) cs w) (lone (b.at a' (.inRegion ops rest :: k)) cs' w') :=
        fun v x hv hr hx => ⟨c, ρ, a.put o.dst x, w, cs, iv.next tr rd hie iv.ce (notEff hm) ho (henv v hv) rfl hx (by rw [put_defers]; exact iv.sr) (.refl iv.sr.gr) rfl (.refl _ _), .one (step_value ho' hw hr)⟩
      cases hcl : cls T o.op with
      | soft => rw [hcl] at hne; cases hne
      | hard => rw [hcl] at hne; cases hne
      | pure =>
        obtain ⟨v, g', h1, h2, h3⟩ := pure_okV (D := Dm E (s c).g.nx) (st := { s i with g := g1 }) (a := a) hT (fun x hx => hops x hx) hcl hrun
        obtain ⟨_, rfl⟩ := Prod.mk.inj h1
        rw [setD_g] at pst
        obtain ⟨x, hr, hx⟩ := h3 pst w
        exact fin v x (by cases o.dst <;> rfl) hr hx
      | read =>
        rcases rdV_run (T := T) hcl (call := call) (d := o.dst) (st := { s i with g := g1 }) with h1 | h1
        · rw [h1] at hrun
          obtain ⟨v, g', h2, h3⟩ := oV_some hrun
          obtain ⟨_, rfl⟩ := Prod.mk.inj h3
          rw [setD_g] at pst
          have hv1 : (setD o.dst v { s i with g := g1 } g').env = (setD o.dst v (s i) (s i).g).env := by cases o.dst <;> rfl
          by_cases hb : before hi c = before hi i
          · have hsame := tr.same iv.ce (Nat.le_of_lt hie) hb
            obtain ⟨_, h4⟩ := read_okV (D := Dm E (s c).g.nx) (a := a) hT (fun x hx => hops x hx) hcl h2
            obtain ⟨x, hr, hx⟩ := h4 pst w (by rw [hp.h, hsame.h]; exact iv.sr.gr)
            exact fin v x hv1 hr hx
          · have hbc : before hi c ≤ before hi e := tr.mono iv.ce
            have hmem : (i, before hi c) ∈ (whoIs Cls.isRead T ops.toList).flatMap (winsOf (ancs ops.toList) hi) := by
              rw [List.mem_flatMap]
              refine ⟨i, mem_whoIs.2 ⟨o, ho, by rw [hcl]; rfl⟩, ?_⟩
              unfold winsOf
              rw [List.mem_map]
              refine ⟨before hi c, ?_, rfl⟩
              rw [List.mem_filter]
              refine ⟨List.mem_range.2 (by have := before_le hi c; omega), ?_⟩
              rw [Bool.and_eq_true]
              refine ⟨?_, by rw [beq_f hb]; rfl⟩
              unfold admits
              rw [Bool.and_eq_true]
              constructor
              · refine List.all_eq_true.2 fun x hx => ?_
                have h5 := drop_before tr.lt c x hx
                have h6 := iv.ef x (List.mem_of_mem_drop hx)
                cases hbit : bitAt ((ancs ops.toList).getD i 0) x with
                | false => rfl
                | true => have := h6.1 (rd.anc x hbit); omega
              · refine List.all_eq_true.2 fun x hx => ?_
                have h5 := take_before tr.lt c x hx
                have h6 := iv.ef x (List.mem_of_mem_take hx)
                cases hbit : bitAt ((ancs ops.toList).getD x 0) i with
                | false => rfl
                | true =>
                  have := iv.cl x i (h6.2 h5) hbit
                  rw [rd.no] at this; cases this
            obtain ⟨ga, gb, h5, h6⟩ := hwin i (before hi c) hmem hbc
            obtain ⟨o2, d, hh, h7, h8, h9, h10⟩ := winOne_some h5
            simp only at h7 h9
            rw [ho] at h7
            injection h7 with h7
            subst h7
            have h11 := (tr.sn (Nat.le_refl e)).2 c iv.ce
            rw [h11] at h9
            injection h9 with h9
            subst h9
            obtain ⟨gc, h12⟩ := winGuard_on h10 h6 pg1 hon (fun j want gd hg hd => tr.looks ho (Nat.le_of_lt hie) (mem_tmpsOf_guard hg hd))
            obtain ⟨v2, gd, ge, h13, h14, _, h15⟩ := winRead_some h12
            obtain ⟨p15, p16⟩ := h15 h6
            have hopsF : ∀ x ∈ o.op.operands, VR ρ (Dm E (s c).g.nx) (ev (s e).env x) (a.eval x) := by
              intro x hx
              have h17 := hops x hx
              cases x with
              | tmp t =>
                show VR ρ _ (evT (s e).env t) _
                rw [tr.looks ho (Nat.le_of_lt hie) (mem_tmpsOf hx)]
                exact h17
              | _ => exact h17
            obtain ⟨_, h18⟩ := read_okV (D := Dm E (s c).g.nx) (a := a) hT hopsF hcl h13
            obtain ⟨x, hr, hx⟩ := h18 p16 w iv.sr.gr
            have hx2 := (sameV_ok (ρ := ρ) (D := Dm E (s c).g.nx) h14).2 p15 x hx
            refine fin v x hv1 hr ?_
            have : evT (s e).env d = v := by
              rw [tr.made ho hie h8, henv v hv1, h8]
              show evT ((s i).env.put d (some v)) d = v
              rw [evT_eq, get_put _ _ _ _ (Nat.lt_trans (tr.dst o (List.mem_of_getElem? ho) d h8) tr.small), if_pos rfl]
            rw [this] at hx2
            exact hx2
        · rw [h1] at hrun; cases hrun
  · have pg1 : g1.pc := by rw [hskip, setD_g] at pst; exact pst
    have hw := iv.guardOff tr rd (Nat.le_of_lt hie) ho pg1 hoff
    have hstep := step_op_skip (P := P) (b := b) (a := a) (k := k) (cs := cs) (w := w) (ops := ops) (i := i) (rest := rest) (by simp [ho', hw])
    rw [ho'] at hstep
    have hv1 : st1.env = (setD o.dst .und (s i) (s i).g).env := by rw [hskip]; cases o.dst <;> rfl
    by_cases hm : i ∈ hi
    · obtain ⟨hef, hsame⟩ := isEff' hm
      have hsame2 : Same (s c) (s (i + 1)) := hsame.trans (by
        rw [hs1, hskip]
        have := setD_same (d := o.dst) (v := .und) (g1 := g1) hp
        exact ⟨by rw [(snapI_eq _ _).2.1]; exact this.h, by rw [(snapI_eq _ _).2.1]; exact this.nx, by rw [(snapI_eq _ _).2.2.1]; exact this.df, by rw [(snapI_eq _ _).2.2.2]; exact this.pm⟩)
      exact ⟨i + 1, ρ, a.put o.dst undef, w, cs, iv.next tr rd hie (by omega) hef ho (henv .und hv1) rfl .und (by rw [put_defers]; exact iv.sr.same hsame2) ((Eff.refl iv.sr.gr).sameR hsame2.h hsame2.nx) (by rw [hsame2.pm]) (.refl _ _), .one hstep⟩
    · exact ⟨c, ρ, a.put o.dst undef, w, cs, iv.next tr rd hie iv.ce (notEff hm) ho (henv .und hv1) rfl .und (by rw [put_defers]; exact iv.sr) (.refl iv.sr.gr) rfl (.refl _ _), .one hstep⟩
end
section
variable {P : Program} {T : Tab} {E : Nat → Prop} {ρ ρ' ρ0 : Rn} {call : CallT}
theorem opRun_pan {op : Op} {d : Option Nat} {st st1 : St} {v : AV} (h : opRun op T call d st = some (some v, st1)) : st1.env = st.env ∧ st1.sn = st.sn := by
  have vv : ∀ {r : R AV}, oV d st r = some (some v, st1) → st1.env = st.env ∧ st1.sn = st.sn := by
    intro r hr
    obtain ⟨v, g, _, h2⟩ := oV_some hr
    obtain ⟨h3, _⟩ := Prod.mk.inj h2
    cases h3
  have u : ∀ {r : R Unit}, oU d st r = some (some v, st1) → st1.env = st.env ∧ st1.sn = st.sn := by
    intro r hr
    obtain ⟨g, _, h2⟩ := oU_some hr
    obtain ⟨h3, _⟩ := Prod.mk.inj h2
    cases h3
  cases op <;> simp only [opRun, fV, fU] at h <;> first | exact vv h | exact u h | (cases h; done) | skip
  case slice t x lo hi mx =>
    cases mx with
    | none => exact vv h
    | some m => cases h
  case call c =>
    obtain ⟨callee, args, ats⟩ := c
    cases callee with
    | invoke r m => cases h
    | value f =>
      have h1 : oCallV call d (ev st.env f) (args.toList.map (ev st.env)) st = some (some v, st1) := h
      unfold oCallV at h1
      split at h1
      · unfold oCallR at h1
        split at h1
        · injection h1 with h1
          obtain ⟨h2, _⟩ := Prod.mk.inj h1
          cases h2
        · injection h1 with h1
          obtain ⟨_, rfl⟩ := Prod.mk.inj h1
          exact ⟨rfl, rfl⟩
        · cases h1
      · cases h1
    | builtin b =>
      cases hb : isRecover b with
      | true =>
        obtain rfl := isRecover_eq hb
        have h1 : oRecover d st = some (some v, st1) := h
        unfold oRecover at h1
        split at h1
        · injection h1 with h1
          obtain ⟨h2, _⟩ := Prod.mk.inj h1
          cases h2
        · injection h1 with h1
          obtain ⟨h2, _⟩ := Prod.mk.inj h1
          cases h2
        · injection h1 with h1
          obtain ⟨h2, _⟩ := Prod.mk.inj h1
          cases h2
        · cases h1
      | false =>
        have h0 : oCall ⟨.builtin b, args, ats⟩ T call d st = oV d st (oBuiltin T st.env b args.toList ats.toList st.g) := by simp only [oCall, hb]
        rw [h0] at h
        exact vv h
  case defer c =>
    obtain ⟨callee, args, ats⟩ := c
    cases callee with
    | invoke r m => cases h
    | builtin b => cases h
    | value f =>
      have h1 : deferOp d (ev st.env f) (args.toList.map (ev st.env)) st = some (some v, st1) := h
      unfold deferOp at h1
      split at h1
      · injection h1 with h1
        obtain ⟨h2, _⟩ := Prod.mk.inj h1
        cases h2
      · cases h1
  case panic x =>
    have h1 : panicOp (ev st.env x) st = some (some v, st1) := h
    unfold panicOp at h1
    split at h1
    · injection h1 with h1
      obtain ⟨_, rfl⟩ := Prod.mk.inj h1
      exact ⟨rfl, rfl⟩
    · cases h1
theorem forget_none {t : Nat} : ∀ (L : List Oper) (env : Tr AV), (∀ o ∈ L, ∀ d, o.dst = some d → d < 16000000) → (∀ o ∈ L, o.dst ≠ some t) → evT (forget L env) t = evT env t := by
  intro L
  induction L with
  | nil => intro env _ _; rfl
  | cons o r ih =>
    intro env hs h
    have e : forget (o :: r) env = forget r (match o.dst with | some d => env.put d (some .bad) | none => env) := rfl
    rw [e, ih _ (fun o ho => hs o (List.mem_cons_of_mem _ ho)) (fun o ho => h o (List.mem_cons_of_mem _ ho))]
    cases hd : o.dst with
    | none => rfl
    | some d =>
      have := h o (List.mem_cons_self ..)
      rw [hd] at this
      show evT (env.put d (some .bad)) t = _
      rw [evT_eq, get_put _ _ _ _ (hs o (List.mem_cons_self ..) d hd), if_neg (fun e => this (by rw [e])), ← evT_eq]
theorem forget_some {t : Nat} : ∀ (L : List Oper) (env : Tr AV), (∀ o ∈ L, ∀ d, o.dst = some d → d < 16000000) → (∃ o ∈ L, o.dst = some t) → evT (forget L env) t = .bad := by
  intro L
  induction L with
  | nil => intro env _ h; obtain ⟨o, ho, _⟩ := h; cases ho
  | cons o r ih =>
    intro env hs h
    have e : forget (o :: r) env = forget r (match o.dst with | some d => env.put d (some .bad) | none => env) := rfl
    rw [e]
    by_cases hr : ∃ o ∈ r, o.dst = some t
    · exact ih _ (fun o ho => hs o (List.mem_cons_of_mem _ ho)) hr
    · rw [forget_none r _ (fun o ho => hs o (List.mem_cons_of_mem _ ho)) (fun o ho hd => hr ⟨o, ho, hd⟩)]
      obtain ⟨o', ho', hd⟩ := h
      rcases List.mem_cons.1 ho' with rfl | ho'
      · rw [hd]
        show evT (env.put t (some .bad)) t = _
        rw [evT_eq, get_put _ _ _ _ (hs _ (List.mem_cons_self ..) t hd), if_pos rfl]
      · exact absurd ⟨o', ho', hd⟩ hr
theorem opsDraw_mo (hc : CallMo call) {ops : List Oper} : ∀ l, MoF (opsDraw ops l T call) := by
  intro l
  induction l with
  | nil => exact fun st => .some (.refl _)
  | cons p r ih =>
    intro st v st' h
    have h1 : onPan p.2.2 (fun st => opsDraw ops r T call (snapI p.2.1 st)) (oneOp ops p.1 T call st) = some (v, st') := h
    have mo := opOne_mo (T := T) hc (ops := ops) (o := p.1) (ih := fun _ _ st => some (none, st)) (fun st => .some (.refl _)) st
    unfold onPan at h1
    split at h1
    · rename_i st1 h2
      have h3 := ih (snapI p.2.1 st1) v st' h1
      rw [(snapI_eq _ _).2.1] at h3
      exact (mo none st1 h2).trans h3
    · rename_i v1 st1 h2
      split at h1
      · injection h1 with h1
        obtain ⟨_, rfl⟩ := Prod.mk.inj h1
        exact mo _ _ h2
      · cases h1
    · cases h1
theorem runDraw_some {L : List Oper} {st : St} {ex : Ex} {st' : St} (h : runDraw T call L (drawInfo T L) st = some (ex, st')) : okTmps (ancs L) L = true ∧ chainOk (ancs L) (whoIs isEff T L) = true ∧
    ∃ v st1 gW wins, opsDraw L (L.zip (drawInfo T L).flags) T call { st with sn := [st.g.h] } = some (v, st1) ∧ winAll T L st1.env st1.sn.reverse wins st1.g = some ((), gW) ∧
      ((v = none ∧ wins = (drawInfo T L).wins ∧ ex = .normal ∧ st' = { st1 with g := gW, sn := [] }) ∨ (∃ x, v = some x ∧ wins = ((drawInfo T L).wins.filter fun w => w.2.blt st1.sn.length) ∧ ex = .pan x ∧ st' = { st1 with env := forget L st.env, g := gW, sn := [] })) := by
  unfold runDraw at h
  split at h
  · rename_i hok
    have hok' : okTmps (ancs L) L = true ∧ chainOk (ancs L) (whoIs isEff T L) = true := by rw [← Bool.and_eq_true]; exact hok
    refine ⟨hok'.1, hok'.2, ?_⟩
    unfold drawEnd at h
    split at h
    · rename_i st1 h1
      unfold drawFin at h
      split at h
      · rename_i u gW h2
        injection h with h
        obtain ⟨rfl, rfl⟩ := Prod.mk.inj h
        exact ⟨none, st1, gW, _, h1, h2, .inl ⟨rfl, rfl, rfl, rfl⟩⟩
      · cases h
    · rename_i v st1 h1
      unfold drawPan at h
      split at h
      · rename_i u gW h2
        injection h with h
        obtain ⟨rfl, rfl⟩ := Prod.mk.inj h
        exact ⟨some v, st1, gW, _, h1, h2, .inr ⟨v, rfl, rfl, rfl, rfl⟩⟩
      · cases h
    · cases h
  · cases h
theorem draw_mo (hc : CallMo call) (L : List Oper) (st : St) : MoX st.g (runDraw T call L (drawInfo T L) st) := by
  intro ex st' h
  obtain ⟨_, _, v, st1, gW, wins, h1, h2, h3⟩ := runDraw_some h
  have := opsDraw_mo hc _ _ _ _ h1
  have hp := (winAll_some _ _ _ h2).1
  rcases h3 with ⟨_, _, _, rfl⟩ | ⟨_, _, _, _, rfl⟩
  · exact this.pcs hp
  · exact this.pcs hp
theorem count_set (p : Nat → Bool) (i : Nat) : ∀ l : List Nat, l.Nodup → i ∈ l → p i = true → l.countP (fun j => p j && !(j == i)) + 1 = l.countP p := by
  intro l
  induction l with
  | nil => intro _ h; cases h
  | cons x r ih =>
    intro hn hm hp
    obtain ⟨h1, h2⟩ := List.nodup_cons.1 hn
    by_cases hx : x = i
    · subst hx
      have : r.countP (fun j => p j && !(j == x)) = r.countP p := by
        refine List.countP_congr fun j hj => ?_
        have hne : j ≠ x := fun e => h1 (by rw [← e]; exact hj)
        simp [hne]
      rw [List.countP_cons, List.countP_cons, this, hp]
      simp
    · have hm' : i ∈ r := by
        rcases List.mem_cons.1 hm with rfl | h
        · exact absurd rfl hx
        · exact h
      have := ih h2 hm' hp
      rw [List.countP_cons, List.countP_cons]
      have hb : (x == i) = false := by simpa using hx
      rw [hb]
      simp only [Bool.not_false, Bool.and_true]
      omega
end
section
variable {P : Program} {T : Tab} {E : Nat → Prop} {ρ ρ' ρ0 : Rn} {call : CallT}
variable {ops : Array Oper} {hi : List Nat} {N : Nat} {st0 : St} {s : Nat → St} {e : Nat} {b : Frame} {w w' w0 : World} {cs cs' cs0 : List Frame} {a a' : Act}
def left (ops : Array Oper) (La : Array Bool) : Nat := (List.range ops.size).countP (fun i => !La.getD i false)
theorem left_set {La : Array Bool} {i : Nat} (hsz : La.size = ops.size) (hi : i < ops.size) (hn : La.getD i false = false) : left ops (La.setIfInBounds i true) + 1 = left ops La := by
  have := count_set (fun j => !La.getD j false) i (List.range ops.size) List.nodup_range (List.mem_range.2 hi) (by simp [hn])
  unfold left
  rw [← this]
  congr 1
  refine List.countP_congr fun j hj => ?_
  rw [getD_set (by omega)]
  by_cases h : j = i
  · subst h; simp
  · have : (j == i) = false := by simpa using h
    simp [h, this]
/-- where nothing is ready all is done -/
theorem all_done (tr : Tra T call ops.toList hi N st0 s e) {La : Array Bool} (hsz : La.size = ops.size) (h : Region.ready .any ops La = []) : ∀ i, i < ops.size → La.getD i false = true := by
  intro i
  induction i using Nat.strongRecOn with
  | _ i ih =>
    intro hi
    cases hl : La.getD i false with
    | true => rfl
    | false =>
      exfalso
      have hx : La[i]? = some (La[i]'(by omega)) := Array.getElem?_eq_getElem _
      have ho : ops[i]? = some ops[i] := Array.getElem?_eq_getElem hi
      have ho' : ops.toList[i]? = some ops[i] := by simp
      have : i ∈ Region.ready .any ops La := by
        unfold Region.ready
        rw [List.mem_filter, List.mem_range, Bool.and_eq_true]
        refine ⟨hi, ?_, ?_⟩
        · simp only [Array.getD_eq_getD_getElem?, hx, Option.getD_some] at hl ⊢
          simp [hl]
        · rw [ho]
          simp only [Option.map_some, Option.getD_some]
          rw [Array.all_eq_true_iff_forall_mem]
          intro ed hed
          cases hb : Region.binds .any ed with
          | false => rfl
          | true =>
            have hlt := (tr.okAt ho').1 ed (Array.mem_def.1 hed) hb
            simp only [Bool.not_true, Bool.false_or]
            exact ih ed.on hlt (by omega)
      rw [h] at this
      cases this
theorem go_some {fuel t i : Nat} {La : Array Bool} (h : (Region.ready .any ops La)[t % (Region.ready .any ops La).length]? = some i) : Region.linearise.go .any ops (fuel + 1) t La [] = i :: Region.linearise.go .any ops fuel (t / (Region.ready .any ops La).length) (La.setIfInBounds i true) [] := by
  simp only [Region.linearise.go]
  change (match (Region.ready .any ops La)[t % (Region.ready .any ops La).length]? with
    | some i => Region.linearise.go .any ops fuel (t / (Region.ready .any ops La).length) (La.setIfInBounds i true) [i]
    | none => [].reverse) = _
  rw [h]
  simp only
  rw [linearise_go_acc, List.reverse_singleton, List.singleton_append]
theorem go_none {fuel t : Nat} {La : Array Bool} (h : (Region.ready .any ops La)[t % (Region.ready .any ops La).length]? = none) : Region.linearise.go .any ops (fuel + 1) t La [] = [] ∧ Region.ready .any ops La = [] := by
  refine ⟨?_, ?_⟩
  · simp only [Region.linearise.go]
    change (match (Region.ready .any ops La)[t % (Region.ready .any ops La).length]? with
      | some i => Region.linearise.go .any ops fuel (t / (Region.ready .any ops La).length) (La.setIfInBounds i true) [i]
      | none => [].reverse) = _
    rw [h]; rfl
  · cases hr : Region.ready .any ops La with
    | nil => rfl
    | cons x xs =>
      rw [hr] at h
      have hlt : t % (x :: xs).length < (x :: xs).length := Nat.mod_lt _ (by simp)
      rw [List.getElem?_eq_getElem hlt] at h
      cases h
/-- whatever the order: all is done, or the operation at e is come to -/
theorem runs (hT : TabOk P T) (hc : CallOk P call) (tr : Tra T call ops.toList hi N st0 s e) (pE : (s e).g.pc) (nE : ∀ b, E b → (s e).g.nx ≤ b)
    (hwin : ∀ r p, (r, p) ∈ (whoIs Cls.isRead T ops.toList).flatMap (winsOf (ancs ops.toList) hi) → p ≤ before hi e → ∃ g1 g2, winOne T ops.toList (s e).env (s e).sn.reverse (r, p) g1 = some ((), g2) ∧ g2.pc)
    (hpan : e < ops.size → ∀ k, e < k → k < ops.size → bitAt ((ancs ops.toList).getD k 0) e = true) (k : List Item) : ∀ (fuel t : Nat) (La : Array Bool) (c : Nat) (ρ : Rn) (a : Act) (w : World) (cs : List Frame), left ops La ≤ fuel → Inv P E ops hi N st0 s e b.kind ρ0 w0 cs0 La c ρ a w cs →
    ∃ La' c' ρ' a' w' cs' l, Inv P E ops hi N st0 s e b.kind ρ0 w0 cs0 La' c' ρ' a' w' cs' ∧ Steps P (lone (b.at a (.inRegion ops (Region.linearise.go .any ops fuel t La []) :: k)) cs w) (lone (b.at a' (.inRegion ops l :: k)) cs' w') ∧
      ((l = [] ∧ ∀ i, i < ops.size → La'.getD i false = true) ∨ (e < ops.size ∧ Ready ops La' e ∧ ∃ l', l = e :: l')) := by
  intro fuel
  induction fuel with
  | zero =>
    intro t La c ρ a w cs hl iv
    refine ⟨La, c, ρ, a, w, cs, [], iv, Steps.refl P _, .inl ⟨rfl, fun i hi => ?_⟩⟩
    have h0 : left ops La = 0 := by omega
    unfold left at h0
    rw [List.countP_eq_zero] at h0
    have := h0 i (List.mem_range.2 hi)
    simpa using this
  | succ fuel ih =>
    intro t La c ρ a w cs hl iv
    cases hi2 : (Region.ready .any ops La)[t % (Region.ready .any ops La).length]? with
    | none =>
      obtain ⟨h1, h2⟩ := go_none (fuel := fuel) hi2
      rw [h1]
      exact ⟨La, c, ρ, a, w, cs, [], iv, Steps.refl P _, .inl ⟨rfl, all_done tr iv.sz h2⟩⟩
    | some i =>
      rw [go_some hi2]
      have rd := ready_of iv.sz iv.cl (List.mem_of_getElem? hi2)
      rcases Nat.lt_trichotomy i e with h | h | h
      · obtain ⟨c', ρ', a', w', cs', iv', hst⟩ := iv.step hT hc tr pE nE hwin rd h k (Region.linearise.go .any ops fuel (t / (Region.ready .any ops La).length) (La.setIfInBounds i true) [])
        have hls := left_set (ops := ops) iv.sz rd.lt rd.no
        obtain ⟨La2, c2, ρ2, a2, w2, cs2, l2, iv2, hst2, hr2⟩ := ih (t / (Region.ready .any ops La).length) (La.setIfInBounds i true) c' ρ' a' w' cs' (by omega) iv'
        exact ⟨La2, c2, ρ2, a2, w2, cs2, l2, iv2, Steps.trans hst hst2, hr2⟩
      · subst h
        exact ⟨La, c, ρ, a, w, cs, _, iv, Steps.refl P _, .inr ⟨rd.lt, rd, _, rfl⟩⟩
      · exfalso
        have hlt := rd.lt
        have h1 := rd.anc e (hpan (by omega) i h hlt)
        exact absurd (iv.lt e h1) (Nat.lt_irrefl _)
theorem draw_ok (hT : TabOk P T) (hc : CallOk P call) (hm : P.follows .mixedOrders = true) : DrawOk P T call := by
  refine ⟨fun L st => draw_mo hc.mo L st, ?_⟩
  intro E N ops id ρ st a w b cs k ex st' h p hE hs hd
  obtain ⟨hok, hch, v, st1, gW, wins, h1, h2, h3⟩ := runDraw_some h
  obtain ⟨s, e, t1, t2, t3, t4⟩ := trace _ _ _ h1
  obtain ⟨pW, hW⟩ := winAll_some _ _ _ h2
  have hfl : (drawInfo T ops.toList).flags = (ups ops.toList.length).map fun i => ((whoIs isEff T ops.toList).contains i, (ups ops.toList.length).all fun k => !(i.blt k) || bitAt ((ancs ops.toList).getD k 0) i) := rfl
  have hwn : (drawInfo T ops.toList).wins = (whoIs Cls.isRead T ops.toList).flatMap (winsOf (ancs ops.toList) (whoIs isEff T ops.toList)) := rfl
  have hzip : ∀ i q, (ops.toList.zip (drawInfo T ops.toList).flags)[i]? = some q → ops.toList[i]? = some q.1 ∧ q.2 = ((whoIs isEff T ops.toList).contains i, (ups ops.toList.length).all fun k => !(i.blt k) || bitAt ((ancs ops.toList).getD k 0) i) := by
    intro i q hq
    rw [List.getElem?_zip_eq_some] at hq
    obtain ⟨q1, q2⟩ := hq
    refine ⟨q1, ?_⟩
    rw [hfl, List.getElem?_map] at q2
    unfold ups at q2
    rw [List.getElem?_range (lt_of_get q1)] at q2
    simp only [Option.map_some, Option.some.injEq] at q2
    rw [← q2]; rfl
  have hlen : (ops.toList.zip (drawInfo T ops.toList).flags).length = ops.size := by rw [List.length_zip, hfl]; simp [ups]
  have tr : Tra T call ops.toList (whoIs isEff T ops.toList) N st s e := by
    refine ⟨t1, ?_, fun i hi => ?_, hs.env.small, hd, rfl, hok, hch⟩
    · rw [hlen] at t2; simpa using t2
    · obtain ⟨q, st2, q1, q2, q3⟩ := t3 i hi
      obtain ⟨q4, q5⟩ := hzip i q q1
      exact ⟨q.1, st2, q4, q2, by rw [q3, q5]⟩
  have hs0 : Same st (s 0) := by rw [tr.s0]; exact ⟨rfl, rfl, rfl, rfl⟩
  have iv0 : Inv P E ops (whoIs isEff T ops.toList) N st s e b.kind ρ w cs (Array.replicate ops.size false) 0 ρ a { w with drawn := w.drawn + 1 } cs := by
    have hno : ∀ i, (Array.replicate ops.size false).getD i false = true → False := by
      intro i hi
      simp only [Array.getD_eq_getD_getElem?, Array.getElem?_replicate] at hi
      split at hi <;> cases hi
    refine ⟨by simp, fun i j h => (hno i h).elim, Nat.zero_le _, fun j hj => ⟨fun h => (hno j h).elim, fun h => absurd h (Nat.not_lt_zero _)⟩, fun i h => (hno i h).elim, hs.env.size, fun i o t h => (hno i h).elim, fun t _ => ?_, ?_, ?_, ?_, .refl _ _⟩
    · rw [hs0.nx]; exact hs.env.get t
    · exact SR0.same ⟨hs.gl, hs.df, hs.pm, hs.gr.pc rfl⟩ hs0
    · exact Eff.sameR ((Eff.refl hs.gr).alike ⟨rfl, rfl, rfl, rfl⟩) hs0.h hs0.nx
    · rw [hs0.pm]
  have hleft : left ops (Array.replicate ops.size false) ≤ ops.size := by
    unfold left
    have := List.countP_le_length (p := fun i => !(Array.replicate ops.size false).getD i false) (l := List.range ops.size)
    simpa using this
  have sched : ∀ t, Region.schedule (P.follows .mixedOrders) ops t = Region.linearise.go .any ops ops.size t (Array.replicate ops.size false) [] := by
    intro t
    simp only [Region.schedule, hm, Bool.true_or, if_true]
    rfl
  have hstep := step_region_draw (P := P) (b := b) (a := a) (k := k) (cs := cs) (w := w) (ops := ops) (id := id)
  rw [sched] at hstep
  have hsmall : ∀ o ∈ ops.toList, ∀ d, o.dst = some d → d < 16000000 := fun o ho d hdd => Nat.lt_trans (hd o ho d hdd) hs.env.small
  rcases t4 with ⟨he, hq⟩ | ⟨q, x, st2, q1, q2, q3, q4⟩
  · -- it goes to its end
    obtain ⟨rfl, rfl⟩ := Prod.mk.inj hq
    rcases h3 with ⟨_, rfl, rfl, rfl⟩ | ⟨x, hx, _⟩
    · have pS : (s e).g.pc := pW.pc p
      have nS : ∀ b, E b → (s e).g.nx ≤ b := fun b hb => by have := hE b hb; simp only at this; rw [pW.nx] at this; exact this
      have hen : e = ops.size := by rw [he, hlen]
      obtain ⟨La', c', ρ', a', w', cs', l, iv', hst', hr'⟩ := runs (b := b) hT hc tr pS nS (fun r pp hm _ => by
        obtain ⟨g1, g2, g3, g4⟩ := hW (r, pp) (by rw [hwn]; exact hm)
        exact ⟨g1, g2, g3, g4 p⟩) (fun h => by omega) k ops.size (w.tape w.drawn (.order b.fn id)) _ 0 ρ a { w with drawn := w.drawn + 1 } cs hleft iv0
      rcases hr' with ⟨rfl, hall⟩ | ⟨h5, _⟩
      · have hsame : Same (s c') (s e) := tr.same iv'.ce (Nat.le_refl _) (before_congr fun j hj => by
          have h6 := iv'.ef j hj
          obtain ⟨o, ho, _⟩ := mem_whoIs.1 hj
          have hjl : j < ops.size := by have := lt_of_get ho; simpa using this
          have h7 := h6.1 (hall j hjl)
          constructor
          · intro _; omega
          · intro _; exact h7)
        have hsr := iv'.sr.same hsame
        have henv : EnvR ρ' (Dm E (s e).g.nx) (s e).env a' N := by
          refine ⟨iv'.tsz, hs.env.small, fun t => ?_⟩
          rw [hsame.nx]
          by_cases hx : ∃ (i : Nat) (o : Oper), La'.getD i false = true ∧ ops.toList[i]? = some o ∧ o.dst = some t
          · obtain ⟨i, o, x1, x2, x3⟩ := hx
            exact iv'.vin i o t x1 x2 x3
          · have x4 := iv'.vout t fun i o x1 x2 x3 => hx ⟨i, o, x1, x2, x3⟩
            have x5 := tr.keep (t := t) (Nat.zero_le e) (Nat.le_refl _) (fun i o _ hi ho hdt => hx ⟨i, o, hall i (by omega), ho, hdt⟩)
            rw [x5, tr.s0]
            exact x4
        refine ⟨ρ', a', w', cs', .normal, ⟨⟨?_, ?_, ?_, ?_, ?_⟩, ?_, ?_, iv'.keep⟩, trivial, .head hstep (Steps.trans hst' (.one step_region_end))⟩
        · show EnvR ρ' (Dm E gW.nx) (s e).env a' N
          rw [pW.nx]; exact henv
        · show Gl ρ' gW.nx
          rw [pW.nx]; exact hsr.gl
        · show DfR ρ' (Dm E gW.nx) (s e).df _
          rw [pW.nx]; exact hsr.df
        · show PMR ρ' (Dm E gW.nx) (s e).pm _ _
          rw [pW.nx]; exact hsr.pm
        · show GR P ρ' (Dm E gW.nx) gW.h.get _
          rw [pW.nx, pW.h]; exact hsr.gr
        · exact (iv'.eff.sameR hsame.h hsame.nx).pcR pW
        · show isNo (s e).pm = _
          rw [hsame.pm]; exact iv'.no
      · omega
    · cases hx
  · -- an operation panics
    obtain ⟨q5, q6⟩ := hzip e q q1
    obtain ⟨rfl, rfl⟩ := Prod.mk.inj q4
    rcases h3 with ⟨hx, _⟩ | ⟨x', hx, rfl, rfl, rfl⟩
    · cases hx
    · injection hx with hx
      subst hx
      have hel : e < ops.size := by have := lt_of_get q5; simpa using this
      obtain ⟨g1, hp1, hrun⟩ := one_some q3
      rcases hrun with ⟨hrun, hon⟩ | ⟨hbad, _⟩
      · obtain ⟨en1, sn1⟩ := opRun_pan hrun
        have hle1 : Le g1 st1.g := opRun_mo (T := T) (st := { s e with g := g1 }) hc.mo _ _ hrun
        have p1 : st1.g.pc := pW.pc p
        have n1 : ∀ b, E b → st1.g.nx ≤ b := fun b hb => by have := hE b hb; simp only at this; rw [pW.nx] at this; exact this
        have pg1 : g1.pc := hle1.pc p1
        have pS : (s e).g.pc := hp1.pc pg1
        have nS : ∀ b, E b → (s e).g.nx ≤ b := fun b hb => by rw [← hp1.nx]; exact Nat.le_trans hle1.nx (n1 b hb)
        have en1' : st1.env = (s e).env := en1
        have sn1' : st1.sn = (s e).sn := sn1
        have hflag : ∀ kk, e < kk → kk < ops.size → bitAt ((ancs ops.toList).getD kk 0) e = true := by
          intro kk h6 h7
          have h8 := q2
          rw [q6] at h8
          have h9 := List.all_eq_true.1 h8 kk (List.mem_range.2 (by simpa using h7))
          rw [blt_iff.2 h6] at h9
          simpa using h9
        obtain ⟨La', c', ρ', a', w', cs', l, iv', hst', hr'⟩ := runs (b := b) hT hc tr pS nS (fun r pp hm hle => by
          obtain ⟨g2, g3, g4, g5⟩ := hW (r, pp) (by
            rw [List.mem_filter, hwn]
            refine ⟨hm, ?_⟩
            rw [blt_iff, sn1', (tr.sn (Nat.le_refl e)).1]
            show pp < _
            omega)
          rw [en1', sn1'] at g4
          exact ⟨g2, g3, g4, g5 p⟩) (fun _ => hflag) k ops.size (w.tape w.drawn (.order b.fn id)) _ 0 ρ a { w with drawn := w.drawn + 1 } cs hleft iv0
        rcases hr' with ⟨_, hall⟩ | ⟨_, rd, l', rfl⟩
        · exact absurd (iv'.lt e (hall e hel)) (Nat.lt_irrefl _)
        · have hm2 : e ∈ whoIs isEff T ops.toList := by
            refine mem_whoIs.2 ⟨q.1, q5, ?_⟩
            cases hx : isEff (cls T q.1.op) with
            | true => rfl
            | false =>
              obtain ⟨_, _, h6, _⟩ := quiet hx hrun
              obtain ⟨h7, _⟩ := Prod.mk.inj h6
              cases h7
          have hat := iv'.atEff tr rd hm2
          have hsame : Same (s c') (s e) := tr.same iv'.ce (Nat.le_refl _) (before_congr fun j hj => (iv'.ef j hj).symm.trans (hat j hj))
          have hsame1 : Same (s c') { s e with g := g1 } := hsame.trans ⟨hp1.h, hp1.nx, rfl, rfl⟩
          have hops := iv'.operands tr rd (Nat.le_refl _) q5
          have hw2 := iv'.guardOn tr rd (Nat.le_refl _) q5 pg1 hon
          have q5' : ops[e]? = some q.1 := by simpa using q5
          obtain ⟨ρ2, w2, chain, todo, _, f2, f3, f4⟩ := op_okV (k := k) (rest := l') hT hc hrun p1 n1 (fun x hx => by have := hops x hx; rw [← hsame1.nx] at this; exact this) (iv'.sr.same hsame1) q5' hw2
          have heff : Eff P E ρ st.g w ρ2 st1.g w2 := iv'.eff.trans (Eff.sameL hsame1.h.symm hsame1.nx.symm f2.eff)
          have huse : ∀ b, Dm E (s c').g.nx b → Dm E gW.nx b ∧ ρ2.b b = ρ'.b b ∧ ρ2.c b = ρ'.c b := by
            intro bb hbb
            rw [pW.nx]
            rw [← hsame1.nx] at hbb
            exact f2.eff.use bb hbb
          refine ⟨ρ2, a', w2, cs', .panic chain, ⟨⟨⟨iv'.tsz, hs.env.small, fun t => ?_⟩, ?_, ?_, ?_, ?_⟩, heff.pcR pW, ?_, iv'.keep⟩, ?_, todo, .head hstep (Steps.trans hst' f4)⟩
          · show VR ρ2 (Dm E gW.nx) (evT (forget ops.toList st.env) t) _
            by_cases hx : ∃ o ∈ ops.toList, o.dst = some t
            · rw [forget_some _ _ hsmall hx]; exact .bad _
            · rw [forget_none _ _ hsmall (fun o ho hdt => hx ⟨o, ho, hdt⟩)]
              exact (iv'.vout t fun i o _ ho hdt => hx ⟨o, List.mem_of_getElem? ho, hdt⟩).mono huse
          · show Gl ρ2 gW.nx
            rw [pW.nx]; exact f2.sr.gl
          · show DfR ρ2 (Dm E gW.nx) st1.df _
            rw [pW.nx]; exact f2.sr.df
          · show PMR ρ2 (Dm E gW.nx) st1.pm _ _
            rw [pW.nx]; exact f2.sr.pm
          · show GR P ρ2 (Dm E gW.nx) gW.h.get _
            rw [pW.nx, pW.h]; exact f2.sr.gr
          · show isNo st1.pm = _
            rw [f2.no]; show isNo (s e).pm = _
            rw [hsame.pm]; exact iv'.no
          · show ChainR ρ2 (Dm E gW.nx) _ _
            rw [pW.nx]; exact f3
      · obtain ⟨h6, _⟩ := Prod.mk.inj hbad
        cases h6
end
section
variable {P : Program} {T : Tab} {E : Nat → Prop} {ρ : Rn}
/-- the executor tells what the model does -/
theorem sx_ok (hT : TabOk P T) (hm : P.follows .mixedOrders = true) {prim : CallT} (hp : CallOk P prim) (fuel n : Nat) : CallOk P (callN T prim fuel n) := callN_ok hT hp (fun call hc => draw_ok hT hc hm) fuel n
theorem mkTi_get (P : Program) (n : Nat) (hn : n ≤ 16000000) : ∀ t, (mkTi P n).get t = if t < n then tiOf P t else none := by
  unfold mkTi
  induction n with
  | zero => intro t; rw [if_neg (by omega)]; exact get_e t
  | succ n ih =>
    intro t
    rw [List.range_succ, List.foldl_append, List.foldl_cons, List.foldl_nil, get_put _ _ _ _ (by omega)]
    by_cases h : t = n
    · subst h; rw [if_pos rfl, if_pos (by omega)]
    · rw [if_neg h, ih (by omega)]
      by_cases h2 : t < n
      · rw [if_pos h2, if_pos (by omega)]
      · rw [if_neg h2, if_neg (by omega)]
/-- the tables out of a program -/
noncomputable def tabOf (P : Program) (n : Nat) : Tab := { ti := mkTi P n, fs := fun f => P.funcs[f]? }
theorem tabOf_ok {n : Nat} (hn : n ≤ 16000000) (hf : P.funcs.all (fun fn => !(fn.name == "runtime.NumGoroutine")) = true) : TabOk P (tabOf P n) := by
  have get : ∀ t i, (tabOf P n).ti.get t = some i → tiOf P t = some i := by
    intro t i h
    have h1 : (mkTi P n).get t = some i := h
    rw [mkTi_get P n hn] at h1
    split at h1
    · exact h1
    · cases h1
  refine ⟨fun t i info z d h h1 h2 h3 => (tiOf_ok (get t i h)).2 info z d h1 h2 h3, fun t i h => (tiOf_ok (get t i h)).1, fun f fn h => ⟨h, ?_⟩⟩
  have h1 : P.funcs[f]? = some fn := h
  rw [Array.all_eq_true_iff_forall_mem] at hf
  have := hf fn (Array.mem_of_getElem? h1)
  simpa using this
end
end Go.Proofs.Yticfagianocfiaa.SX

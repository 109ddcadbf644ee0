import Derived.Test.YtkclgbccnbiojaaGreatDoorSx4
import Derived.KernelRfl
set_option linter.unusedVariables false
set_option linter.unusedSimpArgs false
namespace Go.Proofs.YtkclgbccnbiojaaGreatDoor.SX
section
variable {P : Program} {T : Tab} {E : Nat → Prop} {ρ ρ' : Rn} {D : Nat → Prop}
/-! ### what hangs on nothing but its operands -/
theorem pure_okV (hT : TabOk P T) {call : CallT} {st : St} {a : Act} {o : Oper} {q : Option AV × St} (he : ∀ x ∈ o.op.operands, VR ρ D (ev st.env x) (a.eval x)) (hp : cls T o.op = .pure) (h : opRun o.op T call o.dst st = some q) :
    ∃ v g', q = (none, setD o.dst v st g') ∧ Pc st.g g' ∧ (g'.pc → ∀ w, ∃ x, (execOp a.eval o).run P w = .ok (.value x) w ∧ VR ρ D v x) := by
  obtain ⟨dst, op, type, pos, after, guard⟩ := o
  have giv : ∀ {v : AV} {g' : G} {s : Sem Value}, Gives P ρ D st.g (v, g') s → Pc st.g g' ∧ (g'.pc → ∀ w, ∃ x, (do pure (Next.value (← s)) : Sem Next).run P w = .ok (.value x) w ∧ VR ρ D v x) := by
    intro v g' s hg
    refine ⟨hg.1, fun p w => ?_⟩
    obtain ⟨x, hx, hv⟩ := hg.2 p w
    exact ⟨x, by rw [Sem.run_bind, hx]; rfl, hv⟩
  simp only at hp h he ⊢
  cases op <;> simp only [opRun, fV, fU] at h
  case move x => obtain ⟨v, g', h1, rfl⟩ := oV_some h; obtain ⟨rfl, rfl⟩ := Prod.mk.inj (rok_some h1); exact ⟨_, _, rfl, .refl _, fun p w => ⟨_, rfl, he x (by simp [Op.operands])⟩⟩
  case assign x => obtain ⟨v, g', h1, rfl⟩ := oV_some h; obtain ⟨rfl, rfl⟩ := Prod.mk.inj (rok_some h1); exact ⟨_, _, rfl, .refl _, fun p w => ⟨_, rfl, he x (by simp [Op.operands])⟩⟩
  case pick c x y =>
    obtain ⟨v, g', h1, rfl⟩ := oV_some h
    have hc := he c (by simp [Op.operands])
    obtain ⟨s, t, hce, h2⟩ := boolOf_some h1
    rw [hce] at hc
    have hcb := hc.bool_inv
    obtain ⟨z, g1, hp1, hcc, h3⟩ := test_some h2
    obtain ⟨rfl, rfl⟩ := Prod.mk.inj (rok_some h3)
    refine ⟨_, _, rfl, hp1, fun p w => ⟨if t then a.eval x else a.eval y, ?_, ?_⟩⟩
    · simp [execOp, hcb, asBool]
    · rw [hcc p]
      cases z with
      | true => exact he x (by simp [Op.operands])
      | false => exact he y (by simp [Op.operands])
  case build t ps => obtain ⟨v, g', h1, rfl⟩ := oV_some h; exact ⟨_, _, rfl, giv (oBuild_ok hT (parts_okV (fun p hp => he p.2 (mem_parts1 hp))) h1)⟩
  case nilCheck x =>
    obtain ⟨v, g', h1, rfl⟩ := oV_some h
    have hx := he x (by simp [Op.operands])
    unfold oNil at h1
    split at h1
    · rename_i b oo hb
      obtain ⟨rfl, rfl⟩ := Prod.mk.inj (rok_some h1)
      rw [hb] at hx
      obtain ⟨hA, hB⟩ := hx.ptr_inv
      rw [hA] at hx
      exact ⟨_, _, rfl, .refl _, fun p w => ⟨_, by simp [execOp, hA], hx⟩⟩
    · rename_i f xs ys hb
      obtain ⟨rfl, rfl⟩ := Prod.mk.inj (rok_some h1)
      rw [hb] at hx
      obtain ⟨as, bs, hA⟩ : ∃ as bs, a.eval x = .func (.func f) as bs := by
        generalize a.eval x = z at hx
        cases hx
        exact ⟨_, _, rfl⟩
      rw [hA] at hx
      exact ⟨_, _, rfl, .refl _, fun p w => ⟨_, by simp [execOp, hA], hx⟩⟩
    · cases h1
  case binOp op t x y k =>
    obtain ⟨v, g', h1, rfl⟩ := oV_some h
    exact ⟨_, _, rfl, giv (bin_ok hT (X := x) (Y := y) (fun hh => by rwa [Bool.or_eq_true] at hh) (he x (by simp [Op.operands])) (he y (by simp [Op.operands])) h1)⟩
  case unOp op t x => obtain ⟨v, g', h1, rfl⟩ := oV_some h; exact ⟨_, _, rfl, giv (un_ok (he x (by simp [Op.operands])) h1)⟩
  case convert s d x =>
    obtain ⟨v, g', h1, rfl⟩ := oV_some h
    refine ⟨_, _, rfl, giv (s := convert s d (a.eval x)) ?_⟩
    have hx := he x (by simp [Op.operands])
    obtain ⟨si, hsi, h2⟩ := ti_some h1
    obtain ⟨sinfo, sz, sd, a1, a2, a3, hse⟩ := hT.ti s si hsi
    subst hse
    obtain ⟨di, hdi, h3⟩ := ti_some h2
    obtain ⟨dinfo, dz, dd, b1, b2, b3, hde⟩ := hT.ti d di hdi
    subst hde
    unfold oConvK at h3
    split at h3
    · rename_i k hk
      obtain rfl := tk_int hk
      exact toInt_ok a3 b3 hx h3
    · rename_i hk
      exfalso
      simp only [cls, clsConv, hdi] at hp
      have hk' : tkD dd = _ := hk
      rw [hk'] at hp
      cases hp
    · rename_i e hk
      exfalso
      simp only [cls, clsConv, hdi] at hp
      have hk' : tkD dd = _ := hk
      rw [hk'] at hp
      cases hp
    · cases h3
  case makeInterface t x =>
    obtain ⟨v, g', h1, rfl⟩ := oV_some h
    obtain ⟨i, hi, h2⟩ := ti_some h1
    obtain ⟨info, z, d, e1, e2, e3, hee⟩ := hT.ti t i hi
    subst hee
    obtain ⟨hb, h3⟩ := guardB_some h2
    obtain ⟨rfl, rfl⟩ := Prod.mk.inj (rok_some h3)
    refine ⟨_, _, rfl, giv (s := Instr.makeInterface t (a.eval x)) ⟨.refl _, fun p w => ⟨.iface t (a.eval x), ?_, .ifc _ _ _ (he x (by simp [Op.operands]))⟩⟩⟩
    simp only [Instr.makeInterface, Sem.run_bind, run_underlying e3, Result.andThen_ok]
    cases d <;> first | rfl | (exact absurd hb (by simp [tkD, TK.tag]))
  case makeFunc f xs ys =>
    obtain ⟨v, g', h1, rfl⟩ := oV_some h
    obtain ⟨rfl, rfl⟩ := Prod.mk.inj (rok_some h1)
    have e1 := evs_okV (fun x (hx : x ∈ xs.toList) => he x (by simp only [Op.operands]; exact Array.mem_append_left _ (Array.mem_def.2 hx)))
    have e2 := evs_okV (fun x (hx : x ∈ ys.toList) => he x (by simp only [Op.operands]; exact Array.mem_append_right _ (Array.mem_def.2 hx)))
    refine ⟨_, _, rfl, giv (s := Instr.makeFunc f (xs.map a.eval) (ys.map a.eval)) ⟨.refl _, fun p w => ⟨_, rfl, ?_⟩⟩⟩
    exact .fn f _ _ _ _ (by simp) (fun i x b hx hb => e1.2 i x b hx (by simpa using hb)) (by simp) (fun i x b hx hb => e2.2 i x b hx (by simpa using hb))
  case slice t x lo hi mx =>
    cases mx with
    | none => obtain ⟨v, g', h1, rfl⟩ := oV_some h; exact ⟨_, _, rfl, giv (oSlice_ok hT (he x (by simp [Op.operands])) (ov_okV (fun y hy => he y (by subst hy; simp [Op.operands]))) (ov_okV (fun y hy => he y (by subst hy; simp [Op.operands]))) h1)⟩
    | some m => cases h
  case fieldAddr t x f => obtain ⟨v, g', h1, rfl⟩ := oV_some h; exact ⟨_, _, rfl, giv (oFieldAddr_ok hT (he x (by simp [Op.operands])) h1)⟩
  case field t x f => obtain ⟨v, g', h1, rfl⟩ := oV_some h; exact ⟨_, _, rfl, giv (oField_ok hT (he x (by simp [Op.operands])) h1)⟩
  case indexAddr t x i => obtain ⟨v, g', h1, rfl⟩ := oV_some h; exact ⟨_, _, rfl, giv (oIndexAddr_ok hT (he x (by simp [Op.operands])) (he i (by simp [Op.operands])) h1)⟩
  case index t x i => obtain ⟨v, g', h1, rfl⟩ := oV_some h; exact ⟨_, _, rfl, giv (oIndex_ok hT (he x (by simp [Op.operands])) (he i (by simp [Op.operands])) h1)⟩
  case typeAssert x xt t ok => obtain ⟨v, g', h1, rfl⟩ := oV_some h; exact ⟨_, _, rfl, giv (oAssert_ok hT (he x (by simp [Op.operands])) h1)⟩
  case extract t i => obtain ⟨v, g', h1, rfl⟩ := oV_some h; exact ⟨_, _, rfl, giv (oExtract_ok (he t (by simp [Op.operands])) h1)⟩
  case call c =>
    obtain ⟨callee, args, ats⟩ := c
    cases callee with
    | value f => simp [cls, clsCall] at hp
    | invoke r m => simp [cls, clsCall] at hp
    | builtin b =>
      have hb : b = .min ∨ b = .max := by
        simp only [cls, clsCall] at hp
        cases b <;> first | exact .inl rfl | exact .inr rfl | (simp [clsBuiltin, clsLen] at hp)
      rcases hb with rfl | rfl
      · have h1 : oV dst st (oBuiltin T st.env .min args.toList ats.toList st.g) = some q := h
        obtain ⟨v, g', h2, rfl⟩ := oV_some h1
        obtain ⟨x, y, hx, h3⟩ := ev2_some (f := fun x y => oMin x y st.g) (env := st.env) (as := args.toList) h2
        obtain rfl := arr2 hx
        refine ⟨_, _, rfl, giv (s := Builtin.min_ ats type (Array.map a.eval #[x, y])) ?_⟩
        rw [show Array.map a.eval #[x, y] = #[a.eval x, a.eval y] from by simp]
        exact oMin_ok (he x (by simp [Op.operands, Call.operands])) (he y (by simp [Op.operands, Call.operands])) h3
      · have h1 : oV dst st (oBuiltin T st.env .max args.toList ats.toList st.g) = some q := h
        obtain ⟨v, g', h2, rfl⟩ := oV_some h1
        obtain ⟨x, y, hx, h3⟩ := ev2_some (f := fun x y => oMax x y st.g) (env := st.env) (as := args.toList) h2
        obtain rfl := arr2 hx
        refine ⟨_, _, rfl, giv (s := Builtin.max_ ats type (Array.map a.eval #[x, y])) ?_⟩
        rw [show Array.map a.eval #[x, y] = #[a.eval x, a.eval y] from by simp]
        exact oMax_ok (he x (by simp [Op.operands, Call.operands])) (he y (by simp [Op.operands, Call.operands])) h3
  all_goals first | (cases hp; done) | (cases h; done)
/-! ### reads -/
theorem rdV_run {op : Op} (hp : cls T op = .read) {call : CallT} {d : Option Nat} {st : St} : opRun op T call d st = oV d st (rdV T st.env op st.g) ∨ opRun op T call d st = none := by
  cases op <;> first | (cases hp; done) | exact .inl rfl | skip
  case call c =>
    obtain ⟨callee, args, ats⟩ := c
    cases callee with
    | value f => simp [cls, clsCall] at hp
    | invoke r m => exact .inr rfl
    | builtin b =>
      have hb : b = .len := by
        simp only [cls, clsCall] at hp
        cases b <;> first | rfl | (simp [clsBuiltin, clsLen] at hp)
      subst hb
      exact .inl rfl
theorem read_okV (hT : TabOk P T) {a : Act} {o : Oper} {env : Tr AV} {g : G} {r : AV × G} (he : ∀ x ∈ o.op.operands, VR ρ D (ev env x) (a.eval x)) (hp : cls T o.op = .read) (h : rdV T env o.op g = some r) :
    Pc g r.2 ∧ (r.2.pc → ∀ w, GR P ρ D g.h.get w → ∃ x, (execOp a.eval o).run P w = .ok (.value x) w ∧ VR ρ D r.1 x) := by
  obtain ⟨dst, op, type, pos, after, guard⟩ := o
  have giv : ∀ {s : Sem Value}, Reads P ρ D g r s → Pc g r.2 ∧ (r.2.pc → ∀ w, GR P ρ D g.h.get w → ∃ x, (do pure (Next.value (← s)) : Sem Next).run P w = .ok (.value x) w ∧ VR ρ D r.1 x) := by
    intro s hg
    refine ⟨hg.1, fun p w hw => ?_⟩
    obtain ⟨x, hx, hv⟩ := hg.2 p w hw
    exact ⟨x, by rw [Sem.run_bind, hx]; rfl, hv⟩
  simp only at hp h he ⊢
  cases op <;> first | (cases h; done) | skip
  case load t x => exact giv (oLoad_ok hT (he x (by simp [Op.operands])) h)
  case lookup t m k ok => exact giv (oLookup_ok hT (he m (by simp [Op.operands])) (he k (by simp [Op.operands])) h)
  case convert s d x =>
    refine giv (s := convert s d (a.eval x)) ?_
    have hx := he x (by simp [Op.operands])
    obtain ⟨si, hsi, h2⟩ := ti_some (show oConv T s d (ev env x) g = some r from h)
    obtain ⟨sinfo, sz, sd, a1, a2, a3, hse⟩ := hT.ti s si hsi
    subst hse
    obtain ⟨di, hdi, h3⟩ := ti_some h2
    obtain ⟨dinfo, dz, dd, b1, b2, b3, hde⟩ := hT.ti d di hdi
    subst hde
    unfold oConvK at h3
    split at h3
    · rename_i k hk
      exfalso
      simp only [cls, clsConv, hdi] at hp
      have hk' : tkD dd = _ := hk
      rw [hk'] at hp
      cases hp
    · rename_i hk
      obtain rfl := tk_string hk
      unfold convStr at h3
      split at h3
      · rename_i e hee
        obtain rfl := tk_slice hee
        obtain ⟨info, z, e1, e2, e3, hsz, hzc, h4⟩ := isU8_some hT h3
        exact toStr_ok a3 e3 b3 hx h4
      · rename_i hee
        obtain rfl := tk_string hee
        exact (strKeep_ok a3 b3 hx h3).reads
      · cases h3
    · rename_i e hk
      exfalso
      simp only [cls, clsConv, hdi] at hp
      have hk' : tkD dd = _ := hk
      rw [hk'] at hp
      cases hp
    · cases h3
  case call c =>
    obtain ⟨callee, args, ats⟩ := c
    cases callee with
    | value f => cases h
    | invoke r m => cases h
    | builtin b =>
      have hb : b = .len := by
        simp only [cls, clsCall] at hp
        cases b <;> first | rfl | (simp [clsBuiltin, clsLen] at hp)
      subst hb
      obtain ⟨t, l, hl, h1⟩ := ty1_some (show oBuiltin T env .len args.toList ats.toList g = some r from h)
      obtain ⟨x, hx, h2⟩ := ev1_some h1
      obtain rfl := arr1 hx
      refine giv (s := Builtin.len_ ats type (Array.map a.eval #[x])) ?_
      rw [show Array.map a.eval #[x] = #[a.eval x] from by simp]
      exact oLen_ok hT hl (he x (by simp [Op.operands, Call.operands])) h2
/-! ### the same value -/
theorem boolEq_iff {a b : Bool} (h : boolEq a b = true) : a = b := by cases a <;> cases b <;> first | rfl | cases h
theorem sameC_ok {v v' : AV} {g : G} {r : Unit × G} (h : sameC v v' g = some r) : Pc g r.2 ∧ (r.2.pc → ∀ x, VR ρ D v x → VR ρ D v' x) := by
  unfold sameC at h
  split at h
  · obtain ⟨hk, h1⟩ := guardB_some h
    obtain rfl := kindEq_iff.1 hk
    obtain ⟨g1, hp, hc, h2⟩ := chk_some h1
    obtain rfl := rok_some h2
    refine ⟨hp, fun p x hx => ?_⟩
    have := hc p
    rw [ieq_eq, beq_iff_eq] at this
    subst this
    obtain rfl := hx.int_inv
    exact .int _ _ _
  · obtain ⟨g1, hp, hc, h2⟩ := chk_some h
    obtain rfl := rok_some h2
    refine ⟨hp, fun p x hx => ?_⟩
    obtain rfl := boolEq_iff (hc p)
    obtain rfl := hx.bool_inv
    exact .bool _ _
  · obtain ⟨g1, hp, hc, h2⟩ := chk_some h
    obtain rfl := rok_some h2
    refine ⟨hp, fun p x hx => ?_⟩
    obtain rfl := (sEq_iff _ _).1 (hc p)
    obtain ⟨b, rfl, rfl⟩ := hx.str_inv
    exact .str _ _
  · obtain rfl := rok_some h; exact ⟨.refl _, fun _ x hx => hx⟩
  · obtain ⟨hk, h1⟩ := guardB_some h
    obtain rfl := rok_some h1
    rw [Bool.and_eq_true, beq_iff, beq_iff] at hk
    obtain ⟨rfl, rfl⟩ := hk
    exact ⟨.refl _, fun _ x hx => hx⟩
  · obtain rfl := rok_some h; exact ⟨.refl _, fun _ x hx => hx⟩
  · obtain ⟨hk, h1⟩ := guardB_some h
    obtain rfl := beq_iff.1 hk
    obtain ⟨g1, hp, hc, h2⟩ := chk_some h1
    obtain rfl := rok_some h2
    refine ⟨hp, fun p x hx => ?_⟩
    have := hc p
    simp only [Bool.and_eq_true, beq_iff] at this
    obtain ⟨⟨rfl, rfl⟩, hcap⟩ := this
    unfold sameCap at hcap
    split at hcap
    · obtain rfl := beq_iff.1 hcap
      cases hx with
      | slk s b o n c h hn => exact .slk _ _ _ _ _ h hn
    · obtain rfl := beq_iff.1 hcap
      cases hx with
      | slu s b o n k h hn => exact .slu _ _ _ _ _ h hn
    · cases hcap
  · obtain rfl := rok_some h; exact ⟨.refl _, fun _ x hx => hx⟩
  · obtain ⟨hk, h1⟩ := guardB_some h
    obtain rfl := rok_some h1
    obtain rfl := beq_iff.1 hk
    exact ⟨.refl _, fun _ x hx => hx⟩
  · obtain rfl := rok_some h; exact ⟨.refl _, fun _ x hx => hx⟩
  · obtain rfl := rok_some h; exact ⟨.refl _, fun _ x hx => hx⟩
  · cases h
theorem sameL_ok : ∀ (l l' : List AV) (g : G) (r : Unit × G), sameL sameC l l' g = some r → Pc g r.2 ∧ (r.2.pc → ∀ xs, LR ρ D l xs → LR ρ D l' xs) := by
  intro l
  induction l with
  | nil =>
    intro l' g r h
    cases l' with
    | nil => obtain rfl := rok_some h; exact ⟨.refl _, fun _ x hx => hx⟩
    | cons y b => cases h
  | cons x a ih =>
    intro l' g r h
    cases l' with
    | nil => cases h
    | cons y b =>
      unfold sameL at h
      split at h
      · rename_i u g1 h1
        obtain ⟨p1, q1⟩ := sameC_ok (ρ := ρ) (D := D) h1
        obtain ⟨p2, q2⟩ := ih b g1 r h
        refine ⟨p1.trans p2, fun p xs hx => ?_⟩
        cases xs with
        | nil => have := hx.1; simp at this
        | cons z zs =>
          have hT : LR ρ D a zs := ⟨by have := hx.1; simpa using this, fun i x y hx' hy => hx.2 (i + 1) x y (by simpa using hx') (by simpa using hy)⟩
          exact LR.cons (q1 (p2.pc p) z (hx.2 0 x z rfl rfl)) (q2 p zs hT)
      · cases h
theorem sameV_ok {v v' : AV} {g : G} {r : Unit × G} (h : sameV v v' g = some r) : Pc g r.2 ∧ (r.2.pc → ∀ x, VR ρ D v x → VR ρ D v' x) := by
  unfold sameV at h
  split at h
  · obtain ⟨p1, q1⟩ := sameL_ok (ρ := ρ) (D := D) _ _ _ _ h
    refine ⟨p1, fun p x hx => ?_⟩
    obtain ⟨as, rfl, hL⟩ := hx.agg_inv
    have := (q1 p _ hL).agg
    simpa using this
  · exact sameC_ok h
end
end Go.Proofs.YtkclgbccnbiojaaGreatDoor.SX

namespace Go.Proofs.YtkclgbccnbiojaaGreatDoor.SX
def isEff : Cls → Bool | .hard => true | .soft => true | _ => false
/-- only what is told turns -/
def Mp {α : Type} (g : G) (r : R α) : Prop := ∀ a g', r = some (a, g') → Pc g g'
section
variable {α β : Type} {T : Tab} {g g1 : G}
theorem Mp.none : Mp g (none : R α) := fun a g' h => by cases h
theorem Mp.some {a : α} (h : Pc g g1) : Mp g (some (a, g1)) := fun a g' e => by injection e with e; obtain ⟨rfl, rfl⟩ := Prod.mk.inj e; exact h
theorem Mp.rok {a : α} (h : Pc g g1) : Mp g (rok a g1) := Mp.some h
theorem Mp.guardB {b : Bool} {r : R α} (h : Mp g r) : Mp g (guardB b r) := fun a g' e => h a g' (guardB_some e).2
theorem Mp.chk {s c : Bool} {k : G → R α} (hg : Pc g g1) (h : ∀ g2, Pc g g2 → Mp g (k g2)) : Mp g (chk s c g1 k) := fun a g' e => by
  obtain ⟨g2, hp, _, e1⟩ := chk_some e
  exact h g2 (hg.trans hp) a g' e1
theorem Mp.test {s c : Bool} {k : Bool → G → R α} (hg : Pc g g1) (h : ∀ b g2, Pc g g2 → Mp g (k b g2)) : Mp g (test s c g1 k) := fun a g' e => by
  obtain ⟨b, g2, hp, _, e1⟩ := test_some e
  exact h b g2 (hg.trans hp) a g' e1
theorem Mp.ti {t : Nat} {f : TI → R α} (h : ∀ i, Mp g (f i)) : Mp g (ti T t f) := fun a g' e => by
  obtain ⟨i, _, e1⟩ := ti_some e
  exact h i a g' e1
theorem Mp.elem {i : TI} {f : Nat → R α} (h : ∀ e, Mp g (f e)) : Mp g (i.elem f) := fun a g' e => by
  obtain ⟨x, _, e1⟩ := elem_some e
  exact h x a g' e1
theorem Mp.obj {b : Nat} {f : AObj → R α} (h : ∀ o, Mp g (f o)) : Mp g (obj g1 b f) := fun a g' e => by
  obtain ⟨o, _, e1⟩ := obj_some e
  exact h o a g' e1
theorem Mp.obind {x : Option β} {f : β → R α} (h : ∀ b, Mp g (f b)) : Mp g (obind x f) := fun a g' e => by
  obtain ⟨b, _, e1⟩ := obind_some e
  exact h b a g' e1
theorem Mp.int {v : AV} {f : Bool → IntKind → Int → R α} (h : ∀ s k n, Mp g (f s k n)) : Mp g (intOf v f) := fun a g' e => by
  obtain ⟨s, k, n, _, e1⟩ := intOf_some e
  exact h s k n a g' e1
theorem Mp.str {v : AV} {f : Bool → List Nat → R α} (h : ∀ s b, Mp g (f s b)) : Mp g (strOf v f) := fun a g' e => by
  obtain ⟨s, n, _, e1⟩ := strOf_some e
  exact h s n a g' e1
theorem Mp.bool {v : AV} {f : Bool → Bool → R α} (h : ∀ s b, Mp g (f s b)) : Mp g (boolOf v f) := fun a g' e => by
  obtain ⟨s, n, _, e1⟩ := boolOf_some e
  exact h s n a g' e1
theorem Mp.at {cs : List AV} {o : Nat} (h : Pc g g1) : Mp g (at_ cs o g1) := fun a g' e => by
  obtain ⟨_, e1⟩ := at_some e
  subst e1; exact h
theorem Mp.ptr {v : AV} {f : Nat → Nat → R α} (h : ∀ s b, Mp g (f s b)) : Mp g (ptrOf v f) := fun a g' e => by
  obtain ⟨s, n, _, e1⟩ := ptrOf_some e
  exact h s n a g' e1
theorem Mp.optInt {d : Nat} {v : Option AV} {f : Bool → Int → R AV} (h : ∀ s n, Mp g (f s n)) : Mp g (optInt d v f) := by
  unfold SX.optInt
  split
  · exact h _ _
  · exact Mp.int fun s _ n => h s n
theorem Mp.agg {v : AV} {f : List AV → R AV} (h : ∀ cs, Mp g (f cs)) : Mp g (aggOf v f) := fun a g' e => by
  obtain ⟨s, _, e1⟩ := aggOf_some e
  exact h s a g' e1
theorem Mp.ite {c : Bool} {a b : R α} (h : Mp g a) (k : Mp g b) : Mp g (bif c then a else b) := by cases c <;> assumption
theorem mp_isK {t tag : Nat} {r : R AV} (h : Mp g r) : Mp g (isK T t tag r) := Mp.ti fun i => Mp.guardB h
theorem mp_loadFrom {t o : Nat} {cs : List AV} (h : Pc g g1) : Mp g (loadFrom T t cs o g1) := Mp.ti fun i => by
  split
  · exact Mp.guardB (Mp.rok h)
  · exact Mp.at h
theorem mp_fieldOf {i : TI} {f : Nat} {k : Nat → Nat → R AV} (h : ∀ o t, Mp g (k o t)) : Mp g (fieldOf i f k) := fun a g' e => by
  obtain ⟨fs, o, t, _, _, e1⟩ := fieldOf_some e
  exact h o t a g' e1
theorem mp_oLoad {t : Nat} {p : AV} : Mp g (oLoad T t p g) := by
  unfold oLoad
  split
  · refine Mp.obj fun o => ?_
    unfold ldCell
    split
    · exact mp_loadFrom (.refl g)
    · exact mp_isK (Mp.chk (.refl g) fun g2 h => Mp.rok h)
    · exact Mp.none
  · refine Mp.obj fun o => ?_
    unfold ldRow
    split
    · exact mp_isK (Mp.guardB (Mp.chk (.refl g) fun g2 h => Mp.rok h))
    · exact Mp.guardB (Mp.chk (.refl g) fun g2 h => mp_loadFrom h)
    · exact Mp.none
  · refine Mp.obj fun o => ?_
    unfold ldOut
    split
    · exact Mp.guardB (Mp.chk (.refl g) fun g2 h => mp_loadFrom h)
    · exact Mp.none
  · exact Mp.none
theorem mp_binInt {op : BinOp} {s s' : Bool} {k : IntKind} {a b : Int} : Mp g (binInt op s s' k a b g) := by
  cases op <;> first | exact Mp.rok (.refl g) | exact Mp.chk (.refl g) fun g2 h => Mp.rok h
theorem mp_binEq {op : BinOp} {s b : Bool} (h : Pc g g1) : Mp g (binEq op s b g1) := by
  cases op <;> first | exact Mp.rok h | exact Mp.none
theorem mp_bin {op : BinOp} {t : Nat} {c : Bool} {x y : AV} : Mp g (bin T op t c x y g) := by
  have nl : ∀ n, Mp g (binNil op n g) := fun n => by cases n <;> first | exact mp_binEq (.refl g) | exact Mp.none
  have onl : ∀ n, Mp g (onlyNil op n g) := fun n => by cases n <;> first | exact mp_binEq (.refl g) | exact Mp.none
  unfold bin
  split
  · exact Mp.int fun _ _ _ => Mp.guardB mp_binInt
  · refine Mp.str fun s b => ?_
    cases op <;> first | exact Mp.rok (.refl g) | exact Mp.none | exact Mp.chk (.refl g) fun g2 h => Mp.rok h
  · exact Mp.bool fun _ _ => mp_isK (mp_binEq (.refl g))
  all_goals first | exact mp_isK (nl _) | exact mp_isK (onl _) | exact mp_isK (Mp.guardB (nl _)) | exact Mp.none
theorem mp_un {op : UnOp} {v : AV} : Mp g (un op v g) := by
  cases op <;> simp only [un]
  case not => unfold unNot; split <;> first | exact Mp.rok (.refl g) | exact Mp.none
  case neg => exact Mp.int fun _ _ _ => Mp.rok (.refl g)
  case xor => exact Mp.int fun _ _ _ => Mp.rok (.refl g)
  all_goals exact Mp.none
theorem mp_oFieldAddr {t f : Nat} {x : AV} : Mp g (oFieldAddr T t x f g) := by
  unfold oFieldAddr
  split
  · exact Mp.ti fun _ => mp_fieldOf fun _ _ => Mp.ti fun _ => Mp.guardB (Mp.rok (.refl g))
  · exact Mp.ti fun _ => mp_fieldOf fun _ _ => Mp.ti fun _ => Mp.guardB (Mp.rok (.refl g))
  · exact Mp.ti fun _ => mp_fieldOf fun _ _ => Mp.ti fun _ => Mp.guardB (Mp.rok (.refl g))
  · exact Mp.none
theorem mp_oField {t f : Nat} {x : AV} : Mp g (oField T t x f g) := Mp.agg fun _ => Mp.ti fun _ => mp_fieldOf fun _ _ => mp_loadFrom (.refl g)
theorem mp_ixAddr {s : Bool} {b o sz j : Nat} (h : Pc g g1) : Mp g (ixAddr s b o sz j g1) := by
  unfold ixAddr
  split
  · exact Mp.rok h
  · split
    · exact Mp.rok h
    · exact Mp.guardB (Mp.rok h)
theorem mp_oIndexAddr {t : Nat} {x i : AV} : Mp g (oIndexAddr T t x i g) := Mp.int fun _ _ _ => Mp.ti fun _ => by
  unfold oIndexAddrK
  split
  · unfold ixSlice
    split
    · exact Mp.chk (.refl g) fun g2 h => Mp.ti fun _ => mp_ixAddr h
    · exact Mp.chk (.refl g) fun g2 h => Mp.ti fun _ => Mp.rok h
    · exact Mp.none
  · unfold ixArr
    split
    · exact Mp.chk (.refl g) fun g2 h => Mp.ti fun _ => mp_ixAddr h
    · exact Mp.guardB (Mp.guardB (Mp.ti fun _ => Mp.rok (.refl g)))
    · exact Mp.none
  · exact Mp.none
theorem mp_oIndex {t : Nat} {x i : AV} : Mp g (oIndex T t x i g) := Mp.int fun _ _ _ => Mp.ti fun _ => by
  unfold oIndexK
  split
  · exact Mp.str fun _ _ => Mp.chk (.refl g) fun g2 h => Mp.rok h
  · exact Mp.agg fun _ => Mp.chk (.refl g) fun g2 h => Mp.ti fun _ => mp_loadFrom h
  · exact Mp.none
theorem mp_cutSl {s : Bool} {sz b o n : Nat} {c : Cap} {l h : Int} : Mp g (cutSl s sz b o n c l h g) := by
  unfold cutSl
  split
  · refine Mp.chk (.refl g) fun g2 h2 => ?_
    exact Mp.test h2 fun z g3 h3 => by cases z <;> exact Mp.rok h3
  · refine Mp.chk (.refl g) fun g2 h2 => ?_
    exact Mp.test h2 fun z g3 h3 => by cases z <;> exact Mp.rok h3
theorem mp_oSlice {t : Nat} {x : AV} {lo hi : Option AV} : Mp g (oSlice T t x lo hi g) := by
  unfold oSlice
  split
  · exact mp_isK (Mp.optInt fun _ _ => Mp.optInt fun _ _ => Mp.chk (.refl g) fun g2 h => Mp.rok h)
  · exact Mp.ti fun _ => Mp.elem fun _ => Mp.ti fun _ => Mp.optInt fun _ _ => Mp.optInt fun _ _ => Mp.guardB (Mp.rok (.refl g))
  · exact Mp.ti fun _ => Mp.elem fun _ => Mp.ti fun _ => Mp.optInt fun _ _ => Mp.optInt fun _ _ => mp_cutSl
  · refine Mp.ti fun _ => ?_
    unfold cutArr
    split
    · exact Mp.ti fun _ => Mp.optInt fun _ _ => Mp.optInt fun _ _ => mp_cutSl
    · exact Mp.none
  · exact Mp.none
theorem mp_entries {m : AV} {f : List (AV × AV) → R AV} (h : ∀ es, Mp g (f es)) : Mp g (entries m g f) := by
  unfold entries
  split
  · exact h _
  · refine Mp.obj fun o => ?_
    unfold AObj.mapD
    split
    · exact h _
    · exact Mp.none
  · exact Mp.none
theorem mp_oLookup {t : Nat} {m k : AV} {ok : Bool} : Mp g (oLookup T t m k ok g) := Mp.ti fun _ => by
  split
  · refine Mp.ti fun _ => Mp.guardB (Mp.ti fun _ => mp_entries fun es => ?_)
    unfold foundV
    split
    · exact Mp.rok (.refl g)
    · exact Mp.rok (.refl g)
    · exact Mp.none
  · exact Mp.none
theorem mp_oAssert {x : AV} {a : Nat} {ok : Bool} : Mp g (oAssert T x a ok g) := by
  unfold oAssert
  split
  · exact Mp.ti fun _ => Mp.guardB (Mp.ite (Mp.rok (.refl g)) Mp.none)
  · exact Mp.none
theorem mp_convert {s d : Nat} {x : AV} (hp : ∀ di, T.ti.get d = some di → ∀ e, di.k ≠ .slice e) : Mp g (oConv T s d x g) := by
  intro a g' h
  obtain ⟨si, hsi, h1⟩ := ti_some h
  obtain ⟨di, hdi, h2⟩ := ti_some h1
  revert h2
  have : Mp g (oConvK T si.k di.k x g) := by
    unfold oConvK
    split
    · exact Mp.int fun _ _ _ => Mp.rok (.refl g)
    · unfold convStr
      split
      · refine Mp.ti fun i => ?_
        split
        · unfold toStr
          split
          · exact Mp.rok (.refl g)
          · refine Mp.obj fun o => ?_
            unfold toStrO
            split
            · exact Mp.guardB (Mp.obind fun _ => Mp.rok (.refl g))
            · exact Mp.chk (.refl g) fun g2 h => Mp.rok h
            · exact Mp.none
          · exact Mp.none
        · exact Mp.none
      · unfold strKeep
        split
        · exact Mp.rok (.refl g)
        · exact Mp.none
      · exact Mp.none
    · rename_i e hk
      exact absurd hk (hp di hdi e)
    · exact Mp.none
  exact this a g'
theorem cls_convert {T : Tab} {s d : Nat} {x : Operand} (h : isEff (cls T (.convert s d x)) = false) : ∀ di, T.ti.get d = some di → ∀ e, di.k ≠ .slice e := by
  intro di hdi e hk
  have : cls T (.convert s d x) = clsConv (T.ti.get s) (T.ti.get d) := rfl
  rw [this, hdi] at h
  simp only [clsConv] at h
  rw [hk] at h
  cases h
/-- what is no effect leaves all but its variable as it is -/
theorem quiet {call : CallT} {op : Op} {d : Option Nat} {st : St} {q : Option AV × St} (hp : isEff (cls T op) = false) (h : opRun op T call d st = some q) : ∃ v g', q = (none, setD d v st g') ∧ Pc st.g g' := by
  have go : ∀ {r : R AV}, Mp st.g r → oV d st r = some q → ∃ v g', q = (none, setD d v st g') ∧ Pc st.g g' := by
    intro r hr hh
    obtain ⟨v, g', h1, h2⟩ := oV_some hh
    exact ⟨v, g', h2, hr v g' h1⟩
  cases op <;> first | (cases hp; done) | skip
  case move x => exact go (Mp.rok (.refl _)) h
  case assign x => exact go (Mp.rok (.refl _)) h
  case pick c x y => exact go (Mp.bool fun _ _ => Mp.test (.refl _) fun _ _ h => Mp.rok h) h
  case build t ps =>
    refine go (Mp.ti fun _ => ?_) h
    unfold oBuildK
    split
    · exact Mp.guardB (Mp.obind fun _ => Mp.rok (.refl _))
    · exact Mp.ti fun _ => Mp.obind fun _ => Mp.rok (.refl _)
    · exact Mp.none
  case load t x => exact go mp_oLoad h
  case nilCheck x =>
    refine go (r := oNil (ev st.env x) st.g) ?_ h
    unfold oNil
    split
    · exact Mp.rok (.refl _)
    · exact Mp.rok (.refl _)
    · exact Mp.none
  case binOp op t x y k => exact go mp_bin h
  case unOp op t x => exact go mp_un h
  case convert s d x => exact go (mp_convert (cls_convert hp)) h
  case makeInterface t x => exact go (Mp.ti fun _ => Mp.guardB (Mp.rok (.refl _))) h
  case makeFunc f xs ys => exact go (Mp.rok (.refl _)) h
  case slice t x lo hi mx =>
    cases mx with
    | none => exact go mp_oSlice h
    | some m => cases h
  case fieldAddr t x f => exact go mp_oFieldAddr h
  case field t x f => exact go mp_oField h
  case indexAddr t x i => exact go mp_oIndexAddr h
  case index t x i => exact go mp_oIndex h
  case lookup t m k ok => exact go mp_oLookup h
  case typeAssert x xt t ok => exact go mp_oAssert h
  case extract t i =>
    refine go (r := oExtract (ev st.env t) i st.g) ?_ h
    unfold oExtract
    split
    · exact Mp.at (.refl _)
    · exact Mp.none
  case call c =>
    obtain ⟨callee, args, ats⟩ := c
    cases callee with
    | value f => cases hp
    | invoke r m => cases hp
    | builtin b =>
      cases b <;> first | (cases hp; done) | skip
      · refine go (r := oBuiltin T st.env .len args.toList ats.toList st.g) ?_ h
        intro a g' hh
        obtain ⟨t, l, hl, h1⟩ := ty1_some (show oBuiltin T st.env .len args.toList ats.toList st.g = some (a, g') from hh)
        obtain ⟨x, hx, h2⟩ := ev1_some h1
        have : Mp st.g (oLen T t (ev st.env x) st.g) := by
          unfold oLen
          split
          · exact mp_isK (Mp.rok (.refl _))
          · exact mp_isK (Mp.rok (.refl _))
          · exact mp_isK (Mp.rok (.refl _))
          · exact mp_isK (Mp.rok (.refl _))
          · exact mp_isK (Mp.rok (.refl _))
          · refine mp_isK (Mp.obj fun o => ?_)
            unfold AObj.mapD
            split
            · exact Mp.rok (.refl _)
            · exact Mp.none
          · exact Mp.none
        exact this a g' h2
      · refine go (r := oBuiltin T st.env .max args.toList ats.toList st.g) ?_ h
        intro a g' hh
        obtain ⟨x, y, hx, h3⟩ := ev2_some (f := fun x y => oMax x y st.g) (env := st.env) (as := args.toList) hh
        exact (show Mp st.g (oMax (ev st.env x) (ev st.env y) st.g) from Mp.int fun _ _ _ => Mp.int fun _ _ _ => Mp.rok (.refl _)) a g' h3
      · refine go (r := oBuiltin T st.env .min args.toList ats.toList st.g) ?_ h
        intro a g' hh
        obtain ⟨x, y, hx, h3⟩ := ev2_some (f := fun x y => oMin x y st.g) (env := st.env) (as := args.toList) hh
        exact (show Mp st.g (oMin (ev st.env x) (ev st.env y) st.g) from Mp.int fun _ _ _ => Mp.int fun _ _ _ => Mp.rok (.refl _)) a g' h3
end
end Go.Proofs.YtkclgbccnbiojaaGreatDoor.SX

namespace Go.Proofs.YtkclgbccnbiojaaGreatDoor.SX
section
variable {P : Program} {T : Tab} {ρ : Rn} {D : Nat → Prop}
/-! ### new memory: told for any set of known blocks -/
/-- what new memory is, wherever it is told -/
def NewAt (P : Program) (ρ : Rn) (D : Nat → Prop) (n : Nat) (w : World) (v : AV) (ob : AObj) (x : Value) (r : Obj) : Prop :=
  ∀ (ρ' : Rn) (D' : Nat → Prop), (∀ b, D b → D' b ∧ ρ'.b b = ρ.b b ∧ ρ'.c b = ρ.c b) → D' n → ρ'.b n = w.heap.size → OR P ρ' D' n ob r ∧ VR ρ' D' v x
theorem newCells_or {ρ' : Rn} {D' : Nat → Prop} {n e : Nat} {cs : List AV} {as : Array Value} (hL : LR ρ D cs as.toList) (hu : ∀ b, D b → D' b ∧ ρ'.b b = ρ.b b ∧ ρ'.c b = ρ.c b) : OR P ρ' D' n (.cells e cs false) (.cells as e) := by
  have hl : cs.length = as.size := by have := hL.1; simpa using this
  exact .cells e cs false as (0, 0) (hL.read.mono hu) (open0 _) ⟨by omega, fun _ => hl.symm, fun h => by cases h⟩
theorem run_op {s : Sem Value} {w w' : World} {x : Value} (h : s.run P w = .ok x w') : (do pure (Next.value (← s)) : Sem Next).run P w = .ok (.value x) w' := by rw [Sem.run_bind, h]; rfl
theorem soft_okV (hT : TabOk P T) {call : CallT} {st : St} {a : Act} {o : Oper} {q : Option AV × St} (he : ∀ x ∈ o.op.operands, VR ρ D (ev st.env x) (a.eval x)) (hp : cls T o.op = .soft) (h : opRun o.op T call o.dst st = some q) :
    ∃ v ob, q = (none, setD o.dst v st { st.g with h := st.g.h.put st.g.nx (some ob), nx := st.g.nx + 1 }) ∧ st.g.nx < 16000000 ∧ ob.fixed = false ∧
      ∀ w, ∃ x r, (execOp a.eval o).run P w = .ok (.value x) { w with heap := w.heap.push r } ∧ NewAt P ρ D st.g.nx w v ob x r := by
  obtain ⟨dst, op, type, pos, after, guard⟩ := o
  simp only at hp h he ⊢
  cases op <;> first | (cases hp; done) | skip
  case alloc t =>
    obtain ⟨v, g', h1, rfl⟩ := oV_some h
    obtain ⟨i, hi, h⟩ := ti_some h1
    obtain ⟨info, z, d, e1, e2, e3, hee⟩ := hT.ti t i hi
    subst hee
    obtain ⟨hn, h⟩ := alloc_some h
    obtain ⟨rfl, rfl⟩ := Prod.mk.inj (rok_some h)
    refine ⟨_, _, rfl, hn, rfl, fun w => ⟨.pointer (some ⟨w.heap.size, 0, none⟩), _, run_op (s := Instr.alloc t true _) (by simp [Instr.alloc, run_zero e1 e2, newVar, newRow]), fun ρ' D' hu hD hb => ⟨newCells_or (zero_LR (ρ := ρ) (D := D)) hu, ?_⟩⟩⟩
    have := VR.ptr (ρ := ρ') (D := D') st.g.nx 0 hD
    rw [hb] at this
    exact this
  case box t x =>
    obtain ⟨v, g', h1, rfl⟩ := oV_some h
    obtain ⟨hb0, h⟩ := guardB_some h1
    obtain ⟨hn, h⟩ := alloc_some h
    obtain ⟨rfl, rfl⟩ := Prod.mk.inj (rok_some h)
    refine ⟨_, _, rfl, hn, rfl, fun w => ⟨.pointer (some ⟨w.heap.size, 0, none⟩), _, run_op (s := Instr.box t (a.eval x)) (by simp [Instr.box, newVar, newRow]), fun ρ' D' hu hD hb => ⟨newCells_or ((he x (by simp [Op.operands])).cells (notBad_ne hb0)) hu, ?_⟩⟩⟩
    have := VR.ptr (ρ := ρ') (D := D') st.g.nx 0 hD
    rw [hb] at this
    exact this
  case buildSlice t n ps =>
    obtain ⟨v, g', h1, rfl⟩ := oV_some h
    have hq := parts_okV (env := st.env) (a := a) (ps := ps) (fun p hp => he p.2 (mem_parts2 hp))
    obtain ⟨i, hi, h⟩ := ti_some h1
    obtain ⟨info, z, d, e1, e2, e3, hee⟩ := hT.ti t i hi
    subst hee
    obtain ⟨e, hk, h⟩ := elem_some h
    obtain rfl := tk_slice hk
    obtain ⟨ei, hei, h⟩ := ti_some h
    obtain ⟨einfo, ez, ed, g1, g2, g3, hee⟩ := hT.ti e ei hei
    have hz := (hT.zi e ei einfo ez ed hei g1 g2 g3).1
    subst hee
    obtain ⟨hle, h⟩ := guardB_some h
    obtain ⟨cs, hf, h⟩ := obind_some h
    obtain ⟨hn, h⟩ := alloc_some h
    obtain ⟨rfl, rfl⟩ := Prod.mk.inj (rok_some h)
    have hle2 : n * einfo.size ≤ 16777216 := ble_iff.1 hle
    obtain ⟨as', hfill, hL⟩ := fill_ok (ρ := ρ) (D := D) _ _ _ _ cs _ hq (reps_LR n (n * einfo.size) (by rw [hz])) hf
    have h24 : ¬ (n * einfo.size > 2 ^ 24) := by omega
    refine ⟨_, _, rfl, hn, rfl, fun w => ⟨.slice (some ⟨w.heap.size, 0, none⟩) n n, _, run_op (s := Instr.buildSlice t n _) (w' := { w with heap := w.heap.push (.cells as' e) }) ?_, fun ρ' D' hu hD hb => ⟨newCells_or hL hu, ?_⟩⟩⟩
    · by_cases h0 : n * einfo.size = 0
      · have hm : madeCells ez.cells (n * einfo.size) = #[] := by rw [h0]; simp [madeCells, Array.range_zero']
        rw [hm] at hfill
        simp only [Instr.buildSlice, Sem.run_bind, run_underlying e3, Result.andThen_ok, run_size g1, if_neg h24, Sem.run_pure]
        rw [if_pos h0]
        simp only [pure_bind]
        have : (Array.range (n * einfo.size)).map (fun x => (#[] : Array Value)[x % (#[] : Array Value).size]!) = #[] := by rw [h0]; simp [Array.range_zero']
        rw [this, hfill]
        simp [newRow]
      · simp only [Instr.buildSlice, Sem.run_bind, run_underlying e3, Result.andThen_ok, run_size g1, if_neg h24, Sem.run_pure]
        rw [if_neg h0]
        simp only [Sem.run_bind, run_zero g1 g2, Sem.run_pure, Result.andThen_ok]
        have : (Array.range (n * einfo.size)).map (fun x => ez.cells[x % ez.cells.size]!) = madeCells ez.cells (n * einfo.size) := rfl
        rw [this, hfill]
        simp [newRow]
    · have := VR.slk (ρ := ρ') (D := D') false st.g.nx 0 n n hD (Nat.le_refl _)
      rw [hb] at this
      exact this
  case makeMap t x =>
    obtain ⟨v, g', h1, rfl⟩ := oV_some h
    obtain ⟨i, hi, h2⟩ := ti_some h1
    obtain ⟨info, z, d, e1, e2, e3, hee⟩ := hT.ti t i hi
    subst hee
    obtain ⟨hb0, h3⟩ := guardB_some h2
    obtain ⟨kt, e, rfl⟩ : ∃ kt e, d = .map kt e := by
      have := beq_iff.1 hb0
      cases d <;> first | exact ⟨_, _, rfl⟩ | (exact absurd this (by simp [tkD, TK.tag]))
    have hx := ov_okV (env := st.env) (a := a) (x := x) (ρ := ρ) (D := D) (fun y hy => he y (by subst hy; simp [Op.operands]))
    obtain ⟨sz, l, hb, h⟩ := optInt_some hx h3
    obtain ⟨hn, h⟩ := alloc_some h
    obtain ⟨rfl, rfl⟩ := Prod.mk.inj (rok_some h)
    refine ⟨_, _, rfl, hn, rfl, fun w => ⟨.map (some w.heap.size), .map #[] 0, run_op (s := Instr.makeMap t _) ?_, fun ρ' D' hu hD hb => ⟨.map [] #[] rfl (fun i p m hp => by simp at hp), ?_⟩⟩⟩
    · rcases hb with ⟨hb, _⟩ | ⟨k, hb⟩
      · rw [hb]; simp [Instr.makeMap]
      · rw [hb]; simp [Instr.makeMap, run_underlying e3, asInt, asIntOf]
    · have := VR.mp (ρ := ρ') (D := D') st.g.nx hD
      rw [hb] at this
      exact this
  case convert s d x =>
    exfalso
    have hp' : clsConv (T.ti.get s) (T.ti.get d) = .soft := hp
    unfold clsConv at hp'
    split at hp'
    · split at hp' <;> cases hp'
    · cases hp'
  case call c =>
    exfalso
    obtain ⟨callee, args, ats⟩ := c
    cases callee with
    | value f => simp [cls, clsCall] at hp
    | invoke r m => simp [cls, clsCall] at hp
    | builtin b => cases b <;> simp [cls, clsCall, clsBuiltin, clsLen] at hp
end
end Go.Proofs.YtkclgbccnbiojaaGreatDoor.SX

namespace Go.Proofs.YtkclgbccnbiojaaGreatDoor.SX
/-! ### which operations stand ahead of which -/
theorem bitAt_eq (m k : Nat) : bitAt m k = m.testBit k := by
  unfold bitAt
  rw [Nat.testBit_eq_decide_div_mod_eq]
  show Nat.beq (m / 2 ^ k % 2) 1 = _
  by_cases h : m / 2 ^ k % 2 = 1
  · rw [h]; rfl
  · rw [beq_f h]; simp [h]
theorem ancOf_bits {acc : List Nat} {j : Nat} : ∀ (es : List Edge) (s : Nat), bitAt (es.foldl (fun s e => bif Region.binds .any e then Nat.lor (Nat.lor s (Nat.pow 2 e.on)) (acc.getD e.on 0) else s) s) j = true → bitAt s j = true ∨ ∃ e ∈ es, Region.binds .any e = true ∧ (j = e.on ∨ bitAt (acc.getD e.on 0) j = true) := by
  intro es
  induction es with
  | nil => intro s h; exact .inl h
  | cons e r ih =>
    intro s h
    rw [List.foldl_cons] at h
    rcases ih _ h with h1 | ⟨e', he', hb, h2⟩
    · cases hb : Region.binds .any e with
      | false => rw [hb] at h1; exact .inl h1
      | true =>
        rw [hb, cond_true] at h1
        rw [bitAt_eq] at h1
        have h2 : ((s ||| 2 ^ e.on) ||| acc.getD e.on 0).testBit j = true := h1
        rw [Nat.testBit_or, Nat.testBit_or, Bool.or_eq_true, Bool.or_eq_true, Nat.testBit_two_pow] at h2
        rcases h2 with (h2 | h2) | h2
        · exact .inl (by rw [bitAt_eq]; exact h2)
        · exact .inr ⟨e, List.mem_cons_self .., hb, .inl (by have := of_decide_eq_true h2; exact this.symm)⟩
        · exact .inr ⟨e, List.mem_cons_self .., hb, .inr (by rw [bitAt_eq]; exact h2)⟩
    · exact .inr ⟨e', List.mem_cons_of_mem _ he', hb, h2⟩
theorem bit_zero (j : Nat) : bitAt 0 j = false := by rw [bitAt_eq, Nat.zero_testBit]
theorem ancs_step : ∀ (l : List Oper) (acc : List Nat), (l.foldl (fun acc o => acc ++ [ancOf acc o.after.toList]) acc).take acc.length = acc ∧ (l.foldl (fun acc o => acc ++ [ancOf acc o.after.toList]) acc).length = acc.length + l.length ∧
    ∀ i o, l[i]? = some o → (l.foldl (fun acc o => acc ++ [ancOf acc o.after.toList]) acc)[acc.length + i]? = some (ancOf ((l.foldl (fun acc o => acc ++ [ancOf acc o.after.toList]) acc).take (acc.length + i)) o.after.toList) := by
  intro l
  induction l with
  | nil => intro acc; exact ⟨by simp, by simp, fun i o h => by simp at h⟩
  | cons o r ih =>
    intro acc
    obtain ⟨h1, h2, h3⟩ := ih (acc ++ [ancOf acc o.after.toList])
    rw [List.foldl_cons]
    generalize hR : r.foldl (fun acc o => acc ++ [ancOf acc o.after.toList]) (acc ++ [ancOf acc o.after.toList]) = R at *
    have hl : (acc ++ [ancOf acc o.after.toList]).length = acc.length + 1 := by simp
    rw [hl] at h1 h2 h3
    have htake : R.take acc.length = acc := by
      have := congrArg (List.take acc.length) h1
      rw [List.take_take, Nat.min_eq_left (by omega)] at this
      rw [this]; simp
    refine ⟨htake, by rw [h2, List.length_cons]; omega, fun i q hq => ?_⟩
    cases i with
    | zero =>
      injection hq with hq
      subst hq
      rw [Nat.add_zero, htake]
      have : R[acc.length]? = (R.take (acc.length + 1))[acc.length]? := by rw [List.getElem?_take, if_pos (by omega)]
      rw [this, h1]; simp
    | succ i =>
      have := h3 i q (by simpa using hq)
      rw [show acc.length + (i + 1) = acc.length + 1 + i from by omega]
      exact this
/-- a told ancestor stands behind an edge that binds -/
theorem ancs_bits {l : List Oper} {i j : Nat} (h : bitAt ((ancs l).getD i 0) j = true) : ∃ o, l[i]? = some o ∧ ∃ e ∈ o.after.toList, Region.binds .any e = true ∧ (j = e.on ∨ bitAt ((ancs l).getD e.on 0) j = true) := by
  obtain ⟨h1, h2, h3⟩ := ancs_step l []
  have hlen : (ancs l).length = l.length := by show (l.foldl _ []).length = _; rw [h2]; simp
  cases ho : l[i]? with
  | none =>
    have : l.length ≤ i := List.getElem?_eq_none_iff.1 ho
    rw [List.getD_eq_getElem?_getD, List.getElem?_eq_none (by omega), show (none : Option Nat).getD 0 = 0 from rfl, bit_zero] at h
    cases h
  | some o =>
    have h4 := h3 i o ho
    simp only [List.length_nil, Nat.zero_add] at h4
    have e : (ancs l).getD i 0 = ancOf ((ancs l).take i) o.after.toList := by
      rw [List.getD_eq_getElem?_getD]
      show ((l.foldl _ [])[i]?).getD 0 = _
      rw [h4]; rfl
    rw [e] at h
    refine ⟨o, rfl, ?_⟩
    rcases ancOf_bits _ _ h with h5 | ⟨ed, hed, hb, h5⟩
    · rw [bit_zero] at h5; cases h5
    · refine ⟨ed, hed, hb, h5.imp id fun h6 => ?_⟩
      by_cases hi : ed.on < i
      · rw [List.getD_eq_getElem?_getD, List.getElem?_take, if_pos hi, ← List.getD_eq_getElem?_getD] at h6
        exact h6
      · rw [List.getD_eq_getElem?_getD, List.getElem?_take, if_neg hi] at h6
        rw [show (none : Option Nat).getD 0 = 0 from rfl, bit_zero] at h6
        cases h6
/-! ### the effects, in their order -/
theorem chain_pair {m : List Nat} : ∀ {l : List Nat}, chainOk m l = true → l.Pairwise (fun i j => i < j ∧ bitAt (m.getD j 0) i = true) := by
  intro l
  induction l with
  | nil => intro _; exact .nil
  | cons i r ih =>
    intro h
    have h1 : r.all (fun j => i.blt j && bitAt (m.getD j 0) i) = true ∧ chainOk m r = true := by rw [← Bool.and_eq_true]; exact h
    refine .cons (fun j hj => ?_) (ih h1.2)
    have := List.all_eq_true.1 h1.1 j hj
    rw [Bool.and_eq_true, blt_iff] at this
    exact this
theorem mem_idx {l : List Oper} {i : Nat} {o : Oper} : (i, o) ∈ idx l ↔ l[i]? = some o := by
  unfold idx ups
  rw [List.mem_iff_getElem?]
  constructor
  · rintro ⟨k, hk⟩
    rw [List.getElem?_zip_eq_some] at hk
    obtain ⟨h1, h2⟩ := hk
    simp only at h1 h2
    have hkl : k < l.length := lt_of_get h2
    rw [List.getElem?_range hkl] at h1
    injection h1 with h1
    subst h1
    exact h2
  · intro h
    refine ⟨i, ?_⟩
    rw [List.getElem?_zip_eq_some]
    exact ⟨List.getElem?_range (lt_of_get h), h⟩
theorem mem_whoIs {f : Cls → Bool} {T : Tab} {l : List Oper} {i : Nat} : i ∈ whoIs f T l ↔ ∃ o, l[i]? = some o ∧ f (cls T o.op) = true := by
  unfold whoIs
  rw [List.mem_map]
  constructor
  · rintro ⟨⟨k, o⟩, h1, rfl⟩
    rw [List.mem_filter, mem_idx] at h1
    exact ⟨o, h1.1, h1.2⟩
  · rintro ⟨o, h1, h2⟩
    exact ⟨(i, o), by rw [List.mem_filter, mem_idx]; exact ⟨h1, h2⟩, rfl⟩
theorem before_le (hi : List Nat) (c : Nat) : before hi c ≤ hi.length := by unfold before; exact List.length_filter_le _ _
section
variable {hi : List Nat}
theorem filter_take (hp : hi.Pairwise (· < ·)) (c : Nat) : hi.filter (fun x => x.blt c) = hi.take (before hi c) := by
  unfold before
  induction hi with
  | nil => rfl
  | cons x r ih =>
    obtain ⟨h1, h2⟩ := List.pairwise_cons.1 hp
    by_cases hx : x < c
    · rw [List.filter_cons_of_pos (by rw [blt_iff]; exact hx), List.length_cons, List.take_succ_cons, ← ih h2]
    · have : (x :: r).filter (fun x => x.blt c) = [] := by
        rw [List.filter_eq_nil_iff]
        intro y hy hb
        rw [blt_iff] at hb
        rcases List.mem_cons.1 hy with rfl | hy
        · exact hx hb
        · have := h1 y hy; omega
      rw [this]; rfl
theorem take_before (hp : hi.Pairwise (· < ·)) (c : Nat) : ∀ x ∈ hi.take (before hi c), x < c := by
  intro x hx
  rw [← filter_take hp, List.mem_filter, blt_iff] at hx
  exact hx.2
theorem drop_before (hp : hi.Pairwise (· < ·)) (c : Nat) : ∀ x ∈ hi.drop (before hi c), c ≤ x := by
  intro x hx
  rcases Nat.lt_or_ge x c with h | h
  · exfalso
    have h1 : x ∈ hi := List.mem_of_mem_drop hx
    have h2 : x ∈ hi.take (before hi c) := by rw [← filter_take hp, List.mem_filter, blt_iff]; exact ⟨h1, h⟩
    have h3 : hi.take (before hi c) ++ hi.drop (before hi c) = hi := List.take_append_drop _ _
    have h4 := hp
    rw [← h3, List.pairwise_append] at h4
    have := h4.2.2 x h2 x hx
    omega
  · exact h
theorem before_succ (hp : hi.Pairwise (· < ·)) (i : Nat) : before hi (i + 1) = before hi i + (if i ∈ hi then 1 else 0) := by
  unfold before
  induction hi with
  | nil => rfl
  | cons x r ih =>
    obtain ⟨h1, h2⟩ := List.pairwise_cons.1 hp
    have h3 := ih h2
    by_cases hx : x < i
    · rw [List.filter_cons_of_pos (by rw [blt_iff]; omega), List.filter_cons_of_pos (by rw [blt_iff]; exact hx), List.length_cons, List.length_cons, h3]
      have : (i ∈ x :: r) ↔ i ∈ r := by
        constructor
        · intro h; rcases List.mem_cons.1 h with rfl | h
          · omega
          · exact h
        · exact List.mem_cons_of_mem _
      by_cases hr : i ∈ r
      · rw [if_pos hr, if_pos (this.2 hr)]
      · rw [if_neg hr, if_neg (fun h => hr (this.1 h))]
    · have e1 : ∀ c, c ≤ x → (r.filter fun y => y.blt c) = [] := fun c hc => by
        rw [List.filter_eq_nil_iff]
        intro y hy hb
        rw [blt_iff] at hb
        have := h1 y hy; omega
      have e2 : (r.filter fun y => y.blt i) = [] := e1 i (by omega)
      by_cases hxi : x = i
      · subst hxi
        rw [List.filter_cons_of_pos (by rw [blt_iff]; omega), List.filter_cons_of_neg (by rw [blt_iff]; omega), e2, if_pos (List.mem_cons_self ..), List.length_cons]
        rw [e2] at h3
        have hn : x ∉ r := fun h => by have := h1 x h; omega
        rw [if_neg hn] at h3
        rw [h3]
      · rw [List.filter_cons_of_neg (by rw [blt_iff]; omega), List.filter_cons_of_neg (by rw [blt_iff]; omega), e1 (i + 1) (by omega), e2]
        have hn : i ∉ x :: r := fun h => by
          rcases List.mem_cons.1 h with rfl | h
          · exact hxi rfl
          · have := h1 i h; omega
        rw [if_neg hn]; rfl
end
/-! ### what a statement's order is, once it has been looked at -/
theorem whoIs_lt {f : Cls → Bool} {T : Tab} {l : List Oper} : (whoIs f T l).Pairwise (· < ·) := by
  unfold whoIs idx ups
  have h1 : (((List.range l.length).zip l).map (·.1)) = List.range l.length := by
    rw [List.map_fst_zip]; simp
  have h2 : ((((List.range l.length).zip l).filter fun p => f (cls T p.2.op)).map (·.1)).Sublist (List.range l.length) := by
    rw [← h1]
    simp only [h1]
    have := (List.filter_sublist (p := fun p : Nat × Oper => f (cls T p.2.op)) (l := (List.range l.length).zip l)).map (·.1)
    rw [h1] at this
    exact this
  exact List.pairwise_lt_range.sublist h2
/-- the last two effects are stores in no order -/
structure Twin (T : Tab) (L : List Oper) (hi : List Nat) (x y : Nat) : Prop where
  lt : x < y
  mx : x ∈ hi
  my : y ∈ hi
  top : ∀ z ∈ hi, z ≠ x → z ≠ y → z < x ∧ bitAt ((ancs L).getD x 0) z = true ∧ bitAt ((ancs L).getD y 0) z = true
  len : before hi x + 2 = hi.length
  soft : ∀ a ∈ whoIs Cls.isSoft T L, ∃ c ∈ hi, c < x ∧ a < c
  sx : ∃ o, L[x]? = some o ∧ o.guard = none ∧ o.dst = none ∧ isStore o.op = true
  sy : ∃ o, L[y]? = some o ∧ o.guard = none ∧ o.dst = none ∧ isStore o.op = true
theorem storeAt_some {L : List Oper} {x : Nat} (h : storeAt L x = true) : ∃ o, L[x]? = some o ∧ o.guard = none ∧ o.dst = none ∧ isStore o.op = true := by
  unfold storeAt at h
  split at h
  · rename_i o ho
    split at h
    · rename_i hg
      split at h
      · rename_i hd; exact ⟨o, ho, hg, hd, h⟩
      · cases h
    · cases h
  · cases h
theorem drop_two {hi : List Nat} {x y : Nat} (h : hi.drop (hi.length - 2) = [x, y]) : hi = hi.take (hi.length - 2) ++ [x, y] := by rw [← h, List.take_append_drop]
theorem twin_some {T : Tab} {L : List Oper} {hi : List Nat} {pl : Bool} {x y : Nat} (hp : hi.Pairwise (· < ·)) (h : twinFor pl (twinOf (ancs L) hi (whoIs Cls.isSoft T L) L) = some (x, y)) : Twin T L hi x y := by
  unfold twinFor at h
  cases pl with
  | true => cases h
  | false =>
    have h : twinOf (ancs L) hi (whoIs Cls.isSoft T L) L = some (x, y) := h
    unfold twinOf at h
    split at h
    · rename_i x' y' hd
      cases hok : twinOk (ancs L) hi (whoIs Cls.isSoft T L) L (hi.take (hi.length - 2)) x' y' with
      | false => rw [hok] at h; cases h
      | true =>
        rw [hok] at h
        injection h with h
        obtain ⟨rfl, rfl⟩ := Prod.mk.inj h
        have e := drop_two hd
        generalize hP : hi.take (hi.length - 2) = p at *
        unfold twinOk at hok
        simp only [Bool.and_eq_true] at hok
        obtain ⟨⟨⟨⟨h1, h2⟩, h3⟩, h4⟩, h5⟩ := hok
        have c1 := List.pairwise_append.1 (chain_pair h3)
        have c2 := List.pairwise_append.1 (chain_pair h4)
        have hp' := hp
        rw [e, List.pairwise_append] at hp'
        have hxy : x' < y' := (List.pairwise_cons.1 hp'.2.1).1 y' (by simp)
        refine ⟨hxy, by rw [e]; simp, by rw [e]; simp, fun z hz n1 n2 => ?_, ?_, fun a ha => ?_, storeAt_some h1, storeAt_some h2⟩
        · rw [e] at hz
          have hz : z ∈ p := by
            rcases List.mem_append.1 hz with h | h
            · exact h
            · simp only [List.mem_cons, List.not_mem_nil, or_false] at h
              rcases h with rfl | rfl
              · exact absurd rfl n1
              · exact absurd rfl n2
          exact ⟨(c1.2.2 z hz x' (by simp)).1, (c1.2.2 z hz x' (by simp)).2, (c2.2.2 z hz y' (by simp)).2⟩
        · have : hi.filter (fun z => z.blt x') = p := by
            rw [e, List.filter_append]
            have e1 : p.filter (fun z => z.blt x') = p := List.filter_eq_self.2 fun z hz => blt_iff.2 (c1.2.2 z hz x' (by simp)).1
            have e2 : [x', y'].filter (fun z => z.blt x') = [] := by
              rw [List.filter_eq_nil_iff]
              intro z hz hb
              rw [blt_iff] at hb
              simp only [List.mem_cons, List.not_mem_nil, or_false] at hz
              rcases hz with rfl | rfl <;> omega
            rw [e1, e2, List.append_nil]
          unfold before
          rw [this]
          have := congrArg List.length e
          simp at this
          omega
        · have := List.all_eq_true.1 h5 a ha
          obtain ⟨c, hc, hb⟩ := List.any_eq_true.1 this
          exact ⟨c, by rw [e]; exact List.mem_append_left _ hc, (c1.2.2 c hc x' (by simp)).1, blt_iff.1 hb⟩
    · cases h
theorem pairs_of {T : Tab} {L : List Oper} {hi : List Nat} (hp : hi.Pairwise (· < ·)) (h : (chainOk (ancs L) hi || isSm (twinFor (chainOk (ancs L) hi) (twinOf (ancs L) hi (whoIs Cls.isSoft T L) L))) = true) :
    ∀ x ∈ hi, ∀ y ∈ hi, x < y → bitAt ((ancs L).getD y 0) x = true ∨ twinFor (chainOk (ancs L) hi) (twinOf (ancs L) hi (whoIs Cls.isSoft T L) L) = some (x, y) := by
  intro x hx y hy hxy
  cases hc : chainOk (ancs L) hi with
  | true =>
    left
    obtain ⟨p, hpx⟩ := List.mem_iff_getElem?.1 hx
    obtain ⟨q, hqy⟩ := List.mem_iff_getElem?.1 hy
    have hpl := lt_of_get hpx
    have hql := lt_of_get hqy
    have e1 : hi[p] = x := by rw [List.getElem?_eq_getElem hpl] at hpx; injection hpx
    have e2 : hi[q] = y := by rw [List.getElem?_eq_getElem hql] at hqy; injection hqy
    have hpq := chain_pair hc
    rcases Nat.lt_trichotomy p q with h | h | h
    · have := List.pairwise_iff_getElem.1 hpq p q hpl hql h
      rw [e1, e2] at this
      exact this.2
    · subst h; rw [e1] at e2; omega
    · have := List.pairwise_iff_getElem.1 hpq q p hql hpl h
      rw [e1, e2] at this
      omega
  | false =>
    rw [hc] at h
    have h : isSm (twinFor false (twinOf (ancs L) hi (whoIs Cls.isSoft T L) L)) = true := h
    cases ht : twinFor false (twinOf (ancs L) hi (whoIs Cls.isSoft T L) L) with
    | none => rw [ht] at h; cases h
    | some z =>
      obtain ⟨x', y'⟩ := z
      have tw := twin_some hp ht
      by_cases h1 : x = x'
      · by_cases h2 : y = y'
        · subst h1 h2; right; rfl
        · exfalso
          rcases Nat.lt_trichotomy y x' with h | h | h
          · omega
          · omega
          · have := (tw.top y hy (by omega) h2).1; omega
      · by_cases h2 : x = y'
        · exfalso
          by_cases h3 : y = x'
          · have := tw.lt; omega
          · have := (tw.top y hy h3 (by omega)).1; have := tw.lt; omega
        · have h4 := tw.top x hx h1 h2
          left
          by_cases h5 : y = x'
          · subst h5; exact h4.2.1
          · by_cases h6 : y = y'
            · subst h6; exact h4.2.2
            · -- both stand ahead of the twin
              have : chainOk (ancs L) (hi.take (hi.length - 2) ++ [x']) = true := by
                have hh : twinOf (ancs L) hi (whoIs Cls.isSoft T L) L = some (x', y') := ht
                unfold twinOf at hh
                split at hh
                · rename_i a b hd
                  cases hok : twinOk (ancs L) hi (whoIs Cls.isSoft T L) L (hi.take (hi.length - 2)) a b with
                  | false => rw [hok] at hh; cases hh
                  | true =>
                    rw [hok] at hh
                    injection hh with hh
                    obtain ⟨rfl, rfl⟩ := Prod.mk.inj hh
                    unfold twinOk at hok
                    simp only [Bool.and_eq_true] at hok
                    exact hok.1.1.2
                · cases hh
              have hpq := (List.pairwise_append.1 (chain_pair this)).1
              have mem : ∀ z ∈ hi, z ≠ x' → z ≠ y' → z ∈ hi.take (hi.length - 2) := by
                intro z hz n1 n2
                have hh : twinOf (ancs L) hi (whoIs Cls.isSoft T L) L = some (x', y') := ht
                unfold twinOf at hh
                split at hh
                · rename_i a b hd
                  cases hok : twinOk (ancs L) hi (whoIs Cls.isSoft T L) L (hi.take (hi.length - 2)) a b with
                  | false => rw [hok] at hh; cases hh
                  | true =>
                    rw [hok] at hh
                    injection hh with hh
                    obtain ⟨rfl, rfl⟩ := Prod.mk.inj hh
                    have e := drop_two hd
                    rw [e] at hz
                    rcases List.mem_append.1 hz with h | h
                    · exact h
                    · simp only [List.mem_cons, List.not_mem_nil, or_false] at h
                      rcases h with rfl | rfl
                      · exact absurd rfl n1
                      · exact absurd rfl n2
                · cases hh
              obtain ⟨p, hpx⟩ := List.mem_iff_getElem?.1 (mem x hx h1 h2)
              obtain ⟨q, hqy⟩ := List.mem_iff_getElem?.1 (mem y hy h5 h6)
              have hpl := lt_of_get hpx
              have hql := lt_of_get hqy
              have e1 : (hi.take (hi.length - 2))[p] = x := by rw [List.getElem?_eq_getElem hpl] at hpx; injection hpx
              have e2 : (hi.take (hi.length - 2))[q] = y := by rw [List.getElem?_eq_getElem hql] at hqy; injection hqy
              rcases Nat.lt_trichotomy p q with h | h | h
              · have := List.pairwise_iff_getElem.1 hpq p q hpl hql h
                rw [e1, e2] at this
                exact this.2
              · subst h; rw [e1] at e2; omega
              · have := List.pairwise_iff_getElem.1 hpq q p hql hpl h
                rw [e1, e2] at this
                omega
theorem soft_of {m hi soft : List Nat} (h : softOk m hi soft = true) : ∀ a ∈ soft, ∀ c ∈ hi, c < a ∨ bitAt (m.getD c 0) a = true := by
  intro a ha c hc
  have := List.all_eq_true.1 (List.all_eq_true.1 h a ha) c hc
  rw [Bool.or_eq_true, blt_iff] at this
  exact this
end Go.Proofs.YtkclgbccnbiojaaGreatDoor.SX

namespace Go.Proofs.YtkclgbccnbiojaaGreatDoor.SX
section
variable {T : Tab} {call : CallT} {L : List Oper}
def GuardOn (ops : List Oper) (o : Oper) (env : Tr AV) (pc : Prop) : Prop := o.guard = none ∨ ∃ j want gd s b, o.guard = some (j, want) ∧ dstOf ops j = some gd ∧ evT env gd = .bool s b ∧ (pc → b = want)
def GuardOff (ops : List Oper) (o : Oper) (env : Tr AV) (pc : Prop) : Prop := ∃ j want gd, o.guard = some (j, want) ∧ dstOf ops j = some gd ∧ (evT env gd = .und ∨ ∃ s b, evT env gd = .bool s b ∧ (pc → b ≠ want))
theorem one_some {o : Oper} {st : St} {q : Option AV × St} (h : oneOp L o T call st = some q) : ∃ g1, Pc st.g g1 ∧ ((opRun o.op T call o.dst { st with g := g1 } = some q ∧ GuardOn L o st.env g1.pc) ∨ (q = (none, setD o.dst .und { st with g := g1 } g1) ∧ GuardOff L o st.env g1.pc)) := by
  have fin : ∀ {r : O}, onRes (fun st => some (none, st)) r = some q → r = some q := by
    intro r hr
    rcases onRes_some hr with ⟨st1, h1, h2⟩ | ⟨v, st1, h1, h2⟩
    · injection h2 with h2; rw [h1, h2]
    · rw [h1, h2]
  unfold oneOp at h
  rcases hg : o.guard with _ | ⟨j, want⟩
  · have e : opOne L o (fun _ _ st => some (none, st)) = opPlain (opRun o.op) o.dst (fun _ _ st => some (none, st)) := by unfold opOne; rw [hg]
    rw [e] at h
    exact ⟨st.g, .refl _, .inl ⟨fin h, .inl hg⟩⟩
  · have e : opOne L o (fun _ _ st => some (none, st)) = opGuarded (opRun o.op) o.dst want (dstOf L j) (fun _ _ st => some (none, st)) := by unfold opOne; rw [hg]
    rw [e] at h
    cases hgd : dstOf L j with
    | none => rw [hgd] at h; cases h
    | some gd =>
      rw [hgd] at h
      have h3 : guardRun (opRun o.op T call o.dst) o.dst want (fun st => some (none, st)) st (evT st.env gd) = some q := h
      unfold guardRun at h3
      split at h3
      · rename_i he
        injection h3 with h3
        exact ⟨st.g, .refl _, .inr ⟨h3.symm, j, want, gd, hg, hgd, .inl he⟩⟩
      · rename_i s t he
        obtain ⟨z, g1, hp, hc, h4⟩ := test_some h3
        split at h4
        · rename_i hz
          have hz' : z = want := beq_iff_eq.1 hz
          exact ⟨g1, hp, .inl ⟨fin h4, .inr ⟨j, want, gd, s, t, hg, hgd, he, fun p => (hc p).trans hz'⟩⟩⟩
        · rename_i hz
          injection h4 with h4
          have hz' : z ≠ want := fun e => by rw [e] at hz; simp at hz
          exact ⟨g1, hp, .inr ⟨h4.symm, j, want, gd, hg, hgd, .inr ⟨s, t, he, fun p e => hz' ((hc p).symm.trans e)⟩⟩⟩
      · cases h3
theorem opRun_env {op : Op} {d : Option Nat} {st st1 : St} (h : opRun op T call d st = some (none, st1)) : ∃ v, st1.env = (setD d v st st.g).env ∧ st1.sn = st.sn := by
  have v : ∀ {r : R AV}, oV d st r = some (none, st1) → ∃ v, st1.env = (setD d v st st.g).env ∧ st1.sn = st.sn := by
    intro r hr
    obtain ⟨v, g, _, h2⟩ := oV_some hr
    obtain ⟨_, rfl⟩ := Prod.mk.inj h2
    exact ⟨v, setD_env _ _ _ _ _, setD_sn _ _ _ _⟩
  have u : ∀ {r : R Unit}, oU d st r = some (none, st1) → ∃ v, st1.env = (setD d v st st.g).env ∧ st1.sn = st.sn := by
    intro r hr
    obtain ⟨g, _, h2⟩ := oU_some hr
    obtain ⟨_, rfl⟩ := Prod.mk.inj h2
    exact ⟨_, setD_env _ _ _ _ _, setD_sn _ _ _ _⟩
  cases op <;> simp only [opRun, fV, fU] at h <;> first | exact v h | exact u h | (cases h; done) | skip
  case slice t x lo hi mx =>
    cases mx with
    | none => exact v h
    | some m => cases h
  case call c =>
    obtain ⟨callee, args, ats⟩ := c
    cases callee with
    | invoke r m => cases h
    | value f =>
      have h1 : oCallV call d (ev st.env f) (args.toList.map (ev st.env)) st = some (none, st1) := h
      unfold oCallV at h1
      split at h1
      · unfold oCallR at h1
        split at h1
        · injection h1 with h1
          obtain ⟨_, rfl⟩ := Prod.mk.inj h1
          exact ⟨_, setD_env _ _ _ _ _, setD_sn _ _ _ _⟩
        · injection h1 with h1
          obtain ⟨h2, _⟩ := Prod.mk.inj h1
          cases h2
        · cases h1
      · cases h1
    | builtin b =>
      cases hb : isRecover b with
      | true =>
        obtain rfl := isRecover_eq hb
        have h1 : oRecover d st = some (none, st1) := h
        unfold oRecover at h1
        split at h1
        · injection h1 with h1
          obtain ⟨_, rfl⟩ := Prod.mk.inj h1
          exact ⟨_, rfl, by cases d <;> rfl⟩
        · injection h1 with h1
          obtain ⟨_, rfl⟩ := Prod.mk.inj h1
          exact ⟨_, rfl, by cases d <;> rfl⟩
        · injection h1 with h1
          obtain ⟨_, rfl⟩ := Prod.mk.inj h1
          exact ⟨_, rfl, by cases d <;> rfl⟩
        · cases h1
      | false =>
        have h0 : oCall ⟨.builtin b, args, ats⟩ T call d st = oV d st (oBuiltin T st.env b args.toList ats.toList st.g) := by simp only [oCall, hb]
        rw [h0] at h
        exact v h
  case defer c =>
    obtain ⟨callee, args, ats⟩ := c
    cases callee with
    | invoke r m => cases h
    | builtin b => cases h
    | value f =>
      have h1 : deferOp d (ev st.env f) (args.toList.map (ev st.env)) st = some (none, st1) := h
      unfold deferOp at h1
      split at h1
      · injection h1 with h1
        obtain ⟨_, rfl⟩ := Prod.mk.inj h1
        exact ⟨.und, rfl, by cases d <;> rfl⟩
      · cases h1
  case panic x =>
    have h1 : panicOp (ev st.env x) st = some (none, st1) := h
    unfold panicOp at h1
    split at h1
    · injection h1 with h1
      obtain ⟨h2, _⟩ := Prod.mk.inj h1
      cases h2
    · cases h1
/-- all but the variables is the same -/
structure Same (s t : St) : Prop where
  h : t.g.h = s.g.h
  nx : t.g.nx = s.g.nx
  df : t.df = s.df
  pm : t.pm = s.pm
theorem Same.refl (s : St) : Same s s := ⟨rfl, rfl, rfl, rfl⟩
theorem Same.trans {s t u : St} (h : Same s t) (k : Same t u) : Same s u := ⟨k.h.trans h.h, k.nx.trans h.nx, k.df.trans h.df, k.pm.trans h.pm⟩
theorem Same.symm {s t : St} (h : Same s t) : Same t s := ⟨h.h.symm, h.nx.symm, h.df.symm, h.pm.symm⟩
theorem setD_same {d : Option Nat} {v : AV} {st : St} {g1 g' : G} (h : Pc st.g g') : Same st (setD d v { st with g := g1 } g') := ⟨by rw [setD_g]; exact h.h, by rw [setD_g]; exact h.nx, by cases d <;> rfl, by cases d <;> rfl⟩
structure Tra (T : Tab) (call : CallT) (L : List Oper) (hi : List Nat) (tw : Option (Nat × Nat)) (N : Nat) (st0 : St) (s : Nat → St) (e : Nat) : Prop where
  s0 : s 0 = { st0 with sn := [st0.g.h] }
  le : e ≤ L.length
  step : ∀ i, i < e → ∃ o st1, L[i]? = some o ∧ oneOp L o T call (s i) = some (none, st1) ∧ s (i + 1) = snapI (hi.contains i) st1
  small : N < 16000000
  dst : ∀ o ∈ L, DstOk N o.dst
  his : hi = whoIs Cls.isHard T L
  ok : okTmps T (ancs L) L = true
  pair : ∀ x ∈ hi, ∀ y ∈ hi, x < y → bitAt ((ancs L).getD y 0) x = true ∨ tw = some (x, y)
  soft : ∀ a ∈ whoIs Cls.isSoft T L, ∀ c ∈ hi, c < a ∨ bitAt ((ancs L).getD c 0) a = true
  twin : ∀ x y, tw = some (x, y) → Twin T L hi x y
theorem trace {ops : List Oper} : ∀ (l : List (Oper × Bool × Bool)) (st : St) (q : Option AV × St), opsDraw ops l T call st = some q → ∃ (s : Nat → St) (e : Nat), s 0 = st ∧ e ≤ l.length ∧ (∀ i, i < e → ∃ p st1, l[i]? = some p ∧ oneOp ops p.1 T call (s i) = some (none, st1) ∧ s (i + 1) = snapI p.2.1 st1) ∧
    ((e = l.length ∧ q = (none, s e)) ∨ ∃ p v st1, l[e]? = some p ∧ p.2.2 = true ∧ oneOp ops p.1 T call (s e) = some (some v, st1) ∧ q = (some v, st1)) := by
  intro l
  induction l with
  | nil =>
    intro st q h
    injection h with h
    exact ⟨fun _ => st, 0, rfl, Nat.le_refl _, fun i hi => absurd hi (Nat.not_lt_zero _), .inl ⟨rfl, h.symm⟩⟩
  | cons p r ih =>
    intro st q h
    have h1 : onPan p.2.2 (fun st => opsDraw ops r T call (snapI p.2.1 st)) (oneOp ops p.1 T call st) = some q := h
    unfold onPan at h1
    split at h1
    · rename_i st1 h2
      obtain ⟨s, e, a1, a2, a3, a4⟩ := ih _ q h1
      refine ⟨fun i => match i with | 0 => st | i + 1 => s i, e + 1, rfl, by simp; exact a2, fun i hi => ?_, ?_⟩
      · cases i with
        | zero => exact ⟨p, st1, rfl, h2, a1⟩
        | succ i =>
          obtain ⟨p', st', b1, b2, b3⟩ := a3 i (by omega)
          exact ⟨p', st', by simpa using b1, b2, b3⟩
      · rcases a4 with ⟨b1, b2⟩ | ⟨p', v, st', b1, b2, b3, b4⟩
        · exact .inl ⟨by rw [b1]; rfl, b2⟩
        · exact .inr ⟨p', v, st', by simpa using b1, b2, b3, b4⟩
    · rename_i v st1 h2
      split at h1
      · rename_i hok
        injection h1 with h1
        exact ⟨fun _ => st, 0, rfl, Nat.zero_le _, fun i hi => absurd hi (Nat.not_lt_zero _), .inr ⟨p, v, st1, rfl, hok, h2, h1.symm⟩⟩
      · cases h1
    · cases h1
theorem snapI_eq (b : Bool) (st : St) : (snapI b st).env = st.env ∧ (snapI b st).g = st.g ∧ (snapI b st).df = st.df ∧ (snapI b st).pm = st.pm := by cases b <;> exact ⟨rfl, rfl, rfl, rfl⟩
section
variable {hi : List Nat} {tw : Option (Nat × Nat)} {N : Nat} {st0 : St} {s : Nat → St} {e : Nat}
theorem Tra.lt (tr : Tra T call L hi tw N st0 s e) : hi.Pairwise (· < ·) := by rw [tr.his]; exact whoIs_lt
theorem Tra.okAt (tr : Tra T call L hi tw N st0 s e) {i : Nat} {o : Oper} (ho : L[i]? = some o) : (∀ ed ∈ o.after.toList, Region.binds .any ed = true → ed.on < i) ∧ ∀ k o', L[k]? = some o' → (i < k → ∀ d, o.dst = some d → o'.dst ≠ some d) ∧ (∀ t ∈ tmpsOf L o, o'.dst = some t → bitAt ((ancs L).getD i 0) k = true ∨ (isLate T o.op = true ∧ bitAt ((ancs L).getD k 0) i = true)) := by
  have h1 := List.all_eq_true.1 tr.ok (i, o) (mem_idx.2 ho)
  rw [Bool.and_eq_true] at h1
  refine ⟨fun ed he hb => ?_, fun k o' hk => ?_⟩
  · have := List.all_eq_true.1 h1.1 ed he
    rw [hb] at this
    simpa [blt_iff] using this
  · have h2 := List.all_eq_true.1 h1.2 (k, o') (mem_idx.2 hk)
    rw [Bool.and_eq_true] at h2
    refine ⟨fun hik d hd hd' => ?_, fun t ht hd' => ?_⟩
    · have h3 := h2.1
      simp only [Bool.or_eq_true, Bool.not_eq_true', sameDst, hd, dstIs, hd'] at h3
      rcases h3 with h3 | h3
      · rw [blt_iff.2 hik] at h3; cases h3
      · rw [Nat.beq_refl] at h3; cases h3
    · have h3 := List.all_eq_true.1 h2.2 t ht
      simp only [Bool.or_eq_true, Bool.not_eq_true', dstIs, hd', Bool.and_eq_true] at h3
      rcases h3 with h3 | h3
      · rw [Nat.beq_refl] at h3; cases h3
      · exact h3
theorem Tra.anc_lt (tr : Tra T call L hi tw N st0 s e) : ∀ (i j : Nat), bitAt ((ancs L).getD i 0) j = true → j < i := by
  intro i
  induction i using Nat.strongRecOn with
  | _ i ih =>
    intro j h
    obtain ⟨o, ho, ed, he, hb, h1⟩ := ancs_bits h
    have hlt := (tr.okAt ho).1 ed he hb
    rcases h1 with rfl | h1
    · exact hlt
    · exact Nat.lt_trans (ih _ hlt j h1) hlt
theorem Tra.one (tr : Tra T call L hi tw N st0 s e) {i : Nat} (h : i < e) : ∃ o st1 g1, L[i]? = some o ∧ s (i + 1) = snapI (hi.contains i) st1 ∧ Pc (s i).g g1 ∧ ((opRun o.op T call o.dst { s i with g := g1 } = some (none, st1) ∧ GuardOn L o (s i).env g1.pc) ∨ (st1 = setD o.dst .und { s i with g := g1 } g1 ∧ GuardOff L o (s i).env g1.pc)) := by
  obtain ⟨o, st1, h1, h2, h3⟩ := tr.step i h
  obtain ⟨g1, hp, h4⟩ := one_some h2
  refine ⟨o, st1, g1, h1, h3, hp, h4.imp id fun ⟨a, b⟩ => ⟨(Prod.mk.inj a).2, b⟩⟩
theorem Tra.env (tr : Tra T call L hi tw N st0 s e) {i : Nat} (h : i < e) : ∃ o v, L[i]? = some o ∧ (s (i + 1)).env = (setD o.dst v (s i) (s i).g).env ∧ (∃ st1, s (i + 1) = snapI (hi.contains i) st1 ∧ st1.sn = (s i).sn) := by
  obtain ⟨o, st1, g1, h1, h2, hp, h3⟩ := tr.one h
  rcases h3 with ⟨h3, _⟩ | ⟨h3, _⟩
  · obtain ⟨v, h4, h5⟩ := opRun_env h3
    refine ⟨o, v, h1, ?_, st1, h2, h5⟩
    rw [h2, (snapI_eq _ _).1, h4]
    cases o.dst <;> rfl
  · refine ⟨o, .und, h1, ?_, st1, h2, ?_⟩
    · rw [h2, (snapI_eq _ _).1, h3]
      cases o.dst <;> rfl
    · rw [h3, setD_sn]
theorem Tra.evT (tr : Tra T call L hi tw N st0 s e) {i : Nat} (h : i < e) : ∃ o v, L[i]? = some o ∧ (∀ d, o.dst = some d → evT (s (i + 1)).env d = v) ∧ ∀ t, o.dst ≠ some t → SX.evT (s (i + 1)).env t = SX.evT (s i).env t := by
  obtain ⟨o, v, h1, h2, _⟩ := tr.env h
  have hd := tr.dst o (List.mem_of_getElem? h1)
  refine ⟨o, v, h1, fun d hdd => ?_, fun t ht => ?_⟩
  · rw [h2, hdd]
    show SX.evT ((s i).env.put d (some v)) d = v
    rw [evT_eq, get_put _ _ _ _ (Nat.lt_trans (hd d hdd) tr.small), if_pos rfl]
  · rw [h2]
    cases hdd : o.dst with
    | none => rfl
    | some d =>
      show SX.evT ((s i).env.put d (some v)) t = _
      rw [evT_eq, get_put _ _ _ _ (Nat.lt_trans (hd d hdd) tr.small), if_neg (fun e => ht (by rw [hdd, e])), ← evT_eq]
theorem Tra.keep (tr : Tra T call L hi tw N st0 s e) {a b t : Nat} (hab : a ≤ b) (hb : b ≤ e) (h : ∀ k o, a ≤ k → k < b → L[k]? = some o → o.dst ≠ some t) : SX.evT (s b).env t = SX.evT (s a).env t := by
  induction b with
  | zero => obtain rfl : a = 0 := by omega
            rfl
  | succ b ih =>
    by_cases hab' : a = b + 1
    · rw [hab']
    · obtain ⟨o, v, h1, _, h3⟩ := tr.evT (show b < e by omega)
      rw [h3 t (h b o (by omega) (by omega) h1)]
      exact ih (by omega) (by omega) (fun k o h1 h2 => h k o h1 (by omega))
/-- what an operation looks at is the same at the end -/
theorem Tra.looks (tr : Tra T call L hi tw N st0 s e) {i : Nat} {o : Oper} (ho : L[i]? = some o) (hie : i ≤ e) (hs : isLate T o.op = false) {t : Nat} (ht : t ∈ tmpsOf L o) : SX.evT (s e).env t = SX.evT (s i).env t := by
  refine tr.keep hie (Nat.le_refl _) (fun k o' h1 h2 h3 h4 => ?_)
  rcases ((tr.okAt ho).2 k o' h3).2 t ht h4 with h5 | ⟨h5, _⟩
  · have := tr.anc_lt i k h5; omega
  · rw [hs] at h5; cases h5
theorem Tra.made (tr : Tra T call L hi tw N st0 s e) {i : Nat} {o : Oper} (ho : L[i]? = some o) (hie : i < e) {d : Nat} (hd : o.dst = some d) : SX.evT (s e).env d = SX.evT (s (i + 1)).env d := by
  refine tr.keep hie (Nat.le_refl _) (fun k o' h1 h2 h3 h4 => ?_)
  exact ((tr.okAt ho).2 k o' h3).1 (by omega) d hd h4
theorem soft_form {op : Op} {d : Option Nat} {st st1 : St} (hp : cls T op = .soft) (h : opRun op T call d st = some (none, st1)) : ∃ v ob, st1 = setD d v st { st.g with h := st.g.h.put st.g.nx (some ob), nx := st.g.nx + 1 } ∧ st.g.nx < 16000000 := by
  have fin : ∀ {r : R AV}, (∀ q, r = some q → ∃ v ob, q = (v, { st.g with h := st.g.h.put st.g.nx (some ob), nx := st.g.nx + 1 }) ∧ st.g.nx < 16000000) → oV d st r = some (none, st1) → ∃ v ob, st1 = setD d v st { st.g with h := st.g.h.put st.g.nx (some ob), nx := st.g.nx + 1 } ∧ st.g.nx < 16000000 := by
    intro r hr hh
    obtain ⟨v, g', h1, h2⟩ := oV_some hh
    obtain ⟨_, rfl⟩ := Prod.mk.inj h2
    obtain ⟨v', ob, h3, h4⟩ := hr _ h1
    obtain ⟨rfl, rfl⟩ := Prod.mk.inj h3
    exact ⟨_, ob, rfl, h4⟩
  cases op <;> first | (cases hp; done) | skip
  case alloc t =>
    refine fin (fun q hq => ?_) h
    obtain ⟨i, _, h⟩ := ti_some hq
    obtain ⟨hn, h⟩ := alloc_some h
    exact ⟨_, _, rok_some h, hn⟩
  case box t x =>
    refine fin (fun q hq => ?_) h
    obtain ⟨_, h⟩ := guardB_some hq
    obtain ⟨hn, h⟩ := alloc_some h
    exact ⟨_, _, rok_some h, hn⟩
  case buildSlice t n ps =>
    refine fin (fun q hq => ?_) h
    obtain ⟨i, _, h⟩ := ti_some hq
    obtain ⟨_, _, h⟩ := elem_some h
    obtain ⟨_, _, h⟩ := ti_some h
    obtain ⟨_, h⟩ := guardB_some h
    obtain ⟨_, _, h⟩ := obind_some h
    obtain ⟨hn, h⟩ := alloc_some h
    exact ⟨_, _, rok_some h, hn⟩
  case makeMap t x =>
    refine fin (fun q hq => ?_) h
    obtain ⟨i, _, h⟩ := ti_some hq
    obtain ⟨_, h⟩ := guardB_some h
    revert h
    generalize x.map (ev st.env) = y
    intro h
    unfold oMakeMap optInt at h
    split at h
    · obtain ⟨hn, h⟩ := alloc_some h
      exact ⟨_, _, rok_some h, hn⟩
    · obtain ⟨_, _, _, _, h⟩ := intOf_some h
      obtain ⟨hn, h⟩ := alloc_some h
      exact ⟨_, _, rok_some h, hn⟩
  case convert s d x =>
    exfalso
    have hp' : clsConv (T.ti.get s) (T.ti.get d) = .soft := hp
    unfold clsConv at hp'
    split at hp'
    · split at hp' <;> cases hp'
    · cases hp'
  case call c =>
    exfalso
    obtain ⟨callee, args, ats⟩ := c
    cases callee with
    | value f => simp [cls, clsCall] at hp
    | invoke r m => simp [cls, clsCall] at hp
    | builtin b => cases b <;> simp [cls, clsCall, clsBuiltin, clsLen] at hp
theorem Tra.still (tr : Tra T call L hi tw N st0 s e) {i : Nat} (h : i < e) (hn : i ∉ hi) (hs : i ∉ whoIs Cls.isSoft T L) : Same (s i) (s (i + 1)) ∧ (s (i + 1)).sn = (s i).sn := by
  obtain ⟨o, st1, g1, h1, h2, hp, h3⟩ := tr.one h
  have hc : hi.contains i = false := by
    cases hc : hi.contains i with
    | false => rfl
    | true => exact absurd (List.contains_iff_mem.1 hc) hn
  have hne : isEff (cls T o.op) = false := by
    cases hx : cls T o.op with
    | pure => rfl
    | read => rfl
    | soft => exact absurd (mem_whoIs.2 ⟨o, h1, by rw [hx]; rfl⟩) hs
    | hard => exact absurd (by rw [tr.his]; exact mem_whoIs.2 ⟨o, h1, by rw [hx]; rfl⟩) hn
  rw [hc] at h2
  have h2' : s (i + 1) = st1 := h2
  rcases h3 with ⟨h3, _⟩ | ⟨h3, _⟩
  · obtain ⟨v, g', h4, h5⟩ := quiet hne h3
    obtain ⟨_, rfl⟩ := Prod.mk.inj h4
    rw [h2']
    exact ⟨setD_same (hp.trans h5), by rw [setD_sn]⟩
  · rw [h2', h3]
    exact ⟨setD_same hp, by rw [setD_sn]⟩
/-- new memory -/
structure Newly (s t : St) (ob : AObj) : Prop where
  h : t.g.h = s.g.h.put s.g.nx (some ob)
  nx : t.g.nx = s.g.nx + 1
  df : t.df = s.df
  pm : t.pm = s.pm
  sm : s.g.nx < 16000000
theorem Tra.softly (tr : Tra T call L hi tw N st0 s e) {i : Nat} (h : i < e) (hs : i ∈ whoIs Cls.isSoft T L) : (s (i + 1)).sn = (s i).sn ∧ (Same (s i) (s (i + 1)) ∨ ∃ ob, Newly (s i) (s (i + 1)) ob) := by
  obtain ⟨o, st1, g1, h1, h2, hp, h3⟩ := tr.one h
  obtain ⟨o', h1', hcl⟩ := mem_whoIs.1 hs
  rw [h1] at h1'
  injection h1' with h1'
  subst h1'
  have hcl' : cls T o.op = .soft := by cases hx : cls T o.op <;> rw [hx] at hcl <;> first | rfl | cases hcl
  have hc : hi.contains i = false := by
    cases hc : hi.contains i with
    | false => rfl
    | true =>
      have hm := List.contains_iff_mem.1 hc
      rw [tr.his] at hm
      obtain ⟨o2, h4, h5⟩ := mem_whoIs.1 hm
      rw [h1] at h4
      injection h4 with h4
      subst h4
      rw [hcl'] at h5; cases h5
  rw [hc] at h2
  have h2' : s (i + 1) = st1 := h2
  rcases h3 with ⟨h3, _⟩ | ⟨h3, _⟩
  · obtain ⟨v, ob, rfl, hsm⟩ := soft_form hcl' h3
    rw [h2']
    refine ⟨by rw [setD_sn], .inr ⟨ob, ?_, ?_, by cases o.dst <;> rfl, by cases o.dst <;> rfl, by rw [← hp.nx]; exact hsm⟩⟩
    · rw [setD_g]; show g1.h.put g1.nx _ = _; rw [hp.h, hp.nx]
    · rw [setD_g]; show g1.nx + 1 = _; rw [hp.nx]
  · rw [h2', h3]
    exact ⟨by rw [setD_sn], .inl (setD_same hp)⟩
theorem Tra.mono (tr : Tra T call L hi tw N st0 s e) {a b : Nat} (h : a ≤ b) : before hi a ≤ before hi b := by
  induction b with
  | zero => obtain rfl : a = 0 := by omega
            exact Nat.le_refl _
  | succ b ih =>
    by_cases hab : a = b + 1
    · rw [hab]; exact Nat.le_refl _
    · have := before_succ tr.lt b
      have := ih (by omega)
      omega
theorem Tra.same_le (tr : Tra T call L hi tw N st0 s e) {a b : Nat} (hab : a ≤ b) (hb : b ≤ e) (h : ∀ k, a ≤ k → k < b → k ∉ hi ∧ k ∉ whoIs Cls.isSoft T L) : Same (s a) (s b) := by
  induction b with
  | zero => obtain rfl : a = 0 := by omega
            exact .refl _
  | succ b ih =>
    by_cases hab' : a = b + 1
    · rw [hab']; exact .refl _
    · obtain ⟨h1, h2⟩ := h b (by omega) (by omega)
      exact (ih (by omega) (by omega) (fun k k1 k2 => h k k1 (by omega))).trans (tr.still (by omega) h1 h2).1
theorem before_zero (hi : List Nat) : before hi 0 = 0 := by
  unfold before
  rw [List.length_eq_zero_iff, List.filter_eq_nil_iff]
  intro x _ hb
  rw [blt_iff] at hb; omega
theorem Tra.sn (tr : Tra T call L hi tw N st0 s e) {i : Nat} (h : i ≤ e) : (s i).sn.length = before hi i + 1 ∧ ∀ j, j ≤ i → (j = 0 ∨ ∃ k ∈ hi, j = k + 1) → (s i).sn.reverse[before hi j]? = some (s j).g.h := by
  induction i with
  | zero =>
    rw [tr.s0, before_zero]
    refine ⟨rfl, fun j hj _ => ?_⟩
    obtain rfl : j = 0 := by omega
    rw [before_zero, tr.s0]; rfl
  | succ i ih =>
    obtain ⟨i1, i2⟩ := ih (by omega)
    have hb := before_succ tr.lt i
    by_cases hm : i ∈ hi
    · obtain ⟨o, v, h1, h2, st1, h3, h4⟩ := tr.env (show i < e by omega)
      rw [List.contains_iff_mem.2 hm] at h3
      rw [if_pos hm] at hb
      have hsn : (s (i + 1)).sn = st1.g.h :: (s i).sn := by rw [h3]; show st1.g.h :: st1.sn = _; rw [h4]
      have hg : (s (i + 1)).g.h = st1.g.h := by rw [h3]; rfl
      refine ⟨by rw [hsn, List.length_cons, i1, hb], fun j hj hj2 => ?_⟩
      rw [hsn, List.reverse_cons]
      by_cases hji : j ≤ i
      · have := tr.mono hji
        rw [List.getElem?_append_left (by rw [List.length_reverse, i1]; omega)]
        exact i2 j hji hj2
      · obtain rfl : j = i + 1 := by omega
        rw [List.getElem?_append_right (by rw [List.length_reverse, i1]; omega), List.length_reverse, i1, hb, hg, Nat.sub_self]
        rfl
    · have h2 : (s (i + 1)).sn = (s i).sn := by
        by_cases hs : i ∈ whoIs Cls.isSoft T L
        · exact (tr.softly (show i < e by omega) hs).1
        · exact (tr.still (show i < e by omega) hm hs).2
      rw [if_neg hm] at hb
      have hb : before hi (i + 1) = before hi i := hb
      refine ⟨by rw [h2, i1, hb], fun j hj hj2 => ?_⟩
      rw [h2]
      by_cases hji : j ≤ i
      · exact i2 j hji hj2
      · obtain rfl : j = i + 1 := by omega
        rcases hj2 with hj2 | ⟨k, hk, hk2⟩
        · omega
        · obtain rfl : k = i := by omega
          exact absurd hk hm
end
end
end Go.Proofs.YtkclgbccnbiojaaGreatDoor.SX

namespace Go.Proofs.YtkclgbccnbiojaaGreatDoor.SX
section
variable {P : Program} {T : Tab} {E : Nat → Prop} {ρ ρ' ρ0 : Rn} {call : CallT}
theorem mo_rdV {env : Tr AV} {op : Op} {g : G} : Mo g (rdV T env op g) := by
  unfold rdV
  split
  · exact mo_oLoad
  · exact mo_oLookup
  · exact mo_convert
  · split
    · exact mo_oBuiltin
    · exact Mo.none
  · exact Mo.none
theorem winRead_some {env : Tr AV} {op : Op} {d : Nat} {h : Mem} {g g2 : G} (hh : winRead T env op d h g = some ((), g2)) : ∃ v g' g'', rdV T env op { g with h := h } = some (v, g') ∧ sameV v (evT env d) g' = some ((), g'') ∧ Pc g g2 ∧ (g2.pc → g''.pc ∧ g'.pc) := by
  unfold winRead at hh
  split at hh
  · rename_i v g' h1
    split at hh
    · rename_i u g'' h2
      injection hh with hh
      obtain ⟨_, rfl⟩ := Prod.mk.inj hh
      have m1 := mo_rdV (T := T) v g' h1
      have m2 := (sameV_ok (ρ := ⟨id, id⟩) (D := fun _ => True) h2).1
      exact ⟨v, g', g'', h1, h2, ⟨rfl, rfl, fun p => m1.pc (m2.pc p)⟩, fun p => ⟨p, m2.pc p⟩⟩
    · cases hh
  · cases hh
theorem winOne_some {L : List Oper} {env : Tr AV} {hs : List (Mem)} {w : Nat × Nat} {g g2 : G} (hh : winOne T L env hs w g = some ((), g2)) : ∃ o d h, L[w.1]? = some o ∧ o.dst = some d ∧ hs[w.2]? = some h ∧ winGuard T L env o d h g = some ((), g2) := by
  unfold winOne at hh
  split at hh
  · rename_i o ho
    split at hh
    · rename_i d h hd hx
      exact ⟨o, d, h, ho, hd, hx, hh⟩
    · cases hh
  · cases hh
theorem winGuard_pc {L : List Oper} {env : Tr AV} {o : Oper} {d : Nat} {h : Mem} {g g2 : G} (hh : winGuard T L env o d h g = some ((), g2)) : Pc g g2 := by
  unfold winGuard at hh
  split at hh
  · obtain ⟨_, _, _, _, _, hp, _⟩ := winRead_some hh
    exact hp
  · split at hh
    · unfold winWant at hh
      split at hh
      · obtain ⟨_, rfl⟩ := Prod.mk.inj (rok_some hh); exact .refl _
      · split at hh
        · obtain ⟨g1, hp, _, h1⟩ := chk_some hh
          obtain ⟨_, rfl⟩ := Prod.mk.inj (rok_some h1); exact hp
        · obtain ⟨g1, hp, _, h1⟩ := chk_some hh
          obtain ⟨_, _, _, _, _, hp1, _⟩ := winRead_some h1
          exact hp.trans hp1
      · cases hh
    · cases hh
theorem winAll_some {L : List Oper} {env : Tr AV} {hs : List (Mem)} : ∀ (l : List (Nat × Nat)) (g g' : G), winAll T L env hs l g = some ((), g') → Pc g g' ∧ ∀ w ∈ l, ∃ g1 g2, winOne T L env hs w g1 = some ((), g2) ∧ (g'.pc → g2.pc) := by
  intro l
  induction l with
  | nil =>
    intro g g' h
    obtain ⟨_, rfl⟩ := Prod.mk.inj (rok_some (show rok () g = some ((), g') from h))
    exact ⟨.refl _, fun w hw => by cases hw⟩
  | cons x r ih =>
    intro g g' h
    have h1 : winC (winOne T L env hs x g) (winAll T L env hs r) = some ((), g') := h
    unfold winC at h1
    split at h1
    · rename_i u ga h2
      obtain ⟨p1, p2⟩ := ih ga g' h1
      obtain ⟨o, d, hx, _, _, _, h3⟩ := winOne_some h2
      refine ⟨(winGuard_pc h3).trans p1, fun w hw => ?_⟩
      rcases List.mem_cons.1 hw with rfl | hw
      · exact ⟨g, ga, h2, p1.pc⟩
      · exact p2 w hw
    · cases h1
/-- where the read is carried out elsewhere it gives the same -/
theorem winGuard_on {L : List Oper} {env env' : Tr AV} {o : Oper} {d : Nat} {h : Mem} {g g2 : G} {pc : Prop} (hh : winGuard T L env o d h g = some ((), g2)) (p : g2.pc) (hpc : pc) (hon : GuardOn L o env' pc) (he : ∀ j want gd, o.guard = some (j, want) → dstOf L j = some gd → evT env gd = evT env' gd) :
    ∃ ga, winRead T env o.op d h ga = some ((), g2) := by
  unfold winGuard at hh
  rcases hon with hg | ⟨j, want, gd, s, b, hg, hgd, hv, hb⟩
  · rw [hg] at hh; exact ⟨g, hh⟩
  · rw [hg] at hh
    simp only [hgd] at hh
    rw [he j want gd hg hgd, hv] at hh
    unfold winWant at hh
    simp only at hh
    split at hh
    · obtain ⟨g1, hp, hc, h1⟩ := chk_some hh
      obtain ⟨_, rfl⟩ := Prod.mk.inj (rok_some h1)
      have h2 := boolEq_iff (hc p)
      have h3 := hb hpc
      rw [h3] at h2
      cases want <;> cases h2
    · obtain ⟨g1, hp, hc, h1⟩ := chk_some hh
      exact ⟨g1, h1⟩
variable {ops : Array Oper} {hi : List Nat} {tw : Option (Nat × Nat)} {hX : Option (Mem)} {N : Nat} {st0 : St} {s : Nat → St} {e : Nat} {b : Frame} {w w' w0 : World} {cs cs' cs0 : List Frame} {a a' : Act}
theorem Tra.leStep {L : List Oper} (hc : CallMo call) (tr : Tra T call L hi tw N st0 s e) {i : Nat} (h : i < e) : Le (s i).g (s (i + 1)).g := by
  obtain ⟨o, st1, h1, h2, h3⟩ := tr.step i h
  rw [h3, (snapI_eq _ _).2.1]
  exact opOne_mo (T := T) hc (ops := L) (o := o) (ih := fun _ _ st => some (none, st)) (fun st => .some (.refl _)) (s i) none st1 h2
theorem Tra.leTo {L : List Oper} (hc : CallMo call) (tr : Tra T call L hi tw N st0 s e) {i j : Nat} (hij : i ≤ j) (hj : j ≤ e) : Le (s i).g (s j).g := by
  induction j with
  | zero => obtain rfl : i = 0 := by omega
            exact .refl _
  | succ j ih =>
    by_cases h : i = j + 1
    · rw [h]; exact .refl _
    · exact (ih (by omega) (by omega)).trans (tr.leStep hc (by omega))
theorem SR0.same {st st' : St} {ds : List Deferred} {kd : CallKind} (h : SR0 P E ρ st ds w kd cs) (k : Same st st') : SR0 P E ρ st' ds w kd cs :=
  ⟨by rw [k.nx]; exact h.gl, by rw [k.nx, k.df]; exact h.df, by rw [k.nx, k.pm]; exact h.pm, by rw [k.nx, k.h]; exact h.gr⟩
theorem Eff.sameR {g g' g'' : G} (h : Eff P E ρ g w ρ' g' w') (h1 : g''.h = g'.h) (h2 : g''.nx = g'.nx) : Eff P E ρ g w ρ' g'' w' :=
  ⟨by rw [h2]; exact h.nx, h.ext, by rw [h2, h1]; exact h.gr, by rw [h1]; exact h.fr⟩
theorem Eff.sameL {g0 g g' : G} (h1 : g0.h = g.h) (h2 : g0.nx = g.nx) (h : Eff P E ρ g w ρ' g' w') : Eff P E ρ g0 w ρ' g' w' :=
  ⟨by rw [h2]; exact h.nx, by rw [h2]; exact h.ext, h.gr, by rw [h1]; exact h.fr⟩
/-! ### memory that was made ahead of its turn -/
def Ea (T : Tab) (L : List Oper) (s : Nat → St) (La : Array Bool) (c i : Nat) : Prop := i ∈ whoIs Cls.isSoft T L ∧ La.getD i false = true ∧ c ≤ i ∧ (s i).g.nx < (s (i + 1)).g.nx
def Early (E : Nat → Prop) (T : Tab) (L : List Oper) (s : Nat → St) (La : Array Bool) (c b : Nat) : Prop := E b ∨ ∃ i, Ea T L s La c i ∧ b = (s i).g.nx
/-- the blocks that are known where the memory is that of c -/
def Dx (E : Nat → Prop) (T : Tab) (L : List Oper) (s : Nat → St) (La : Array Bool) (c : Nat) : Nat → Prop := Dm (Early E T L s La c) (s c).g.nx
theorem Early_congr {L : List Oper} {La La' : Array Bool} {c c' : Nat} (h : ∀ i, Ea T L s La c i ↔ Ea T L s La' c' i) : Early E T L s La c = Early E T L s La' c' := by
  funext b
  apply propext
  exact ⟨fun hh => hh.imp id fun ⟨i, h1, h2⟩ => ⟨i, (h i).1 h1, h2⟩, fun hh => hh.imp id fun ⟨i, h1, h2⟩ => ⟨i, (h i).2 h1, h2⟩⟩
structure Pos (P : Program) (T : Tab) (E : Nat → Prop) (ops : Array Oper) (st0 : St) (s : Nat → St) (ρ0 : Rn) (w0 : World) (cs0 : List Frame) (La : Array Bool) (c : Nat) (M : Mem) (ρ : Rn) (ds : List Deferred) (w : World) (kd : CallKind) (cs : List Frame) : Prop where
  sr : SR0 P (Early E T ops.toList s La c) ρ { s c with g := { (s c).g with h := M } } ds w kd cs
  ea : ∀ i, Ea T ops.toList s La c i → ∃ ob r, Newly (s i) (s (i + 1)) ob ∧ ob.fixed = false ∧ w.heap[ρ.b (s i).g.nx]? = some r ∧ OR P ρ (Dx E T ops.toList s La c) (s i).g.nx ob r ∧ w0.heap.size ≤ ρ.b (s i).g.nx ∧ ∀ b o, M.get b = some o → ρ.b b ≠ ρ.b (s i).g.nx
  ed : ∀ i j, Ea T ops.toList s La c i → Ea T ops.toList s La c j → ρ.b (s i).g.nx = ρ.b (s j).g.nx → i = j
  ext : ∀ b, Dm E st0.g.nx b → ρ.b b = ρ0.b b ∧ ρ.c b = ρ0.c b
  fr : Fram ρ0 st0.g.h.get w0 ρ M.get w
  nx0 : st0.g.nx ≤ (s c).g.nx
  no : isNo (s c).pm = isNo st0.pm
  keep : Keep st0.pm cs0 cs
/-- the next operation is none, or was made ahead -/
theorem Pos.step (tr : Tra T call ops.toList hi tw N st0 s e) {kd : CallKind} {La : Array Bool} {c : Nat} {ds : List Deferred} (h : c < e) (hc : c ∉ hi) (hs : c ∈ whoIs Cls.isSoft T ops.toList → La.getD c false = true)
    (p : Pos P T E ops st0 s ρ0 w0 cs0 La c (s c).g.h ρ ds w kd cs) : Pos P T E ops st0 s ρ0 w0 cs0 La (c + 1) (s (c + 1)).g.h ρ ds w kd cs ∧ Dx E T ops.toList s La (c + 1) = Dx E T ops.toList s La c := by
  have hA : (Same (s c) (s (c + 1))) ∨ (∃ ob, Newly (s c) (s (c + 1)) ob ∧ Ea T ops.toList s La c c) := by
    by_cases hm : c ∈ whoIs Cls.isSoft T ops.toList
    · rcases (tr.softly h hm).2 with h1 | ⟨ob, h1⟩
      · exact .inl h1
      · exact .inr ⟨ob, h1, hm, hs hm, Nat.le_refl _, by rw [h1.nx]; omega⟩
    · exact .inl (tr.still h hc hm).1
  rcases hA with hsame | ⟨_, _, hEc⟩
  · have hEa : ∀ i, Ea T ops.toList s La c i ↔ Ea T ops.toList s La (c + 1) i := fun i => ⟨fun ⟨h1, h2, h3, h4⟩ => ⟨h1, h2, by
      by_cases hi : i = c
      · subst hi; rw [hsame.nx] at h4; omega
      · omega, h4⟩, fun ⟨h1, h2, h3, h4⟩ => ⟨h1, h2, by omega, h4⟩⟩
    have hEx : Early E T ops.toList s La (c + 1) = Early E T ops.toList s La c := (Early_congr hEa).symm
    have hD : Dx E T ops.toList s La (c + 1) = Dx E T ops.toList s La c := by unfold Dx; rw [hEx, hsame.nx]
    refine ⟨⟨?_, fun i hi => ?_, fun i j hi hj => p.ed i j ((hEa i).2 hi) ((hEa j).2 hj), p.ext, by rw [hsame.h]; exact p.fr, by rw [hsame.nx]; exact p.nx0, by rw [hsame.pm]; exact p.no, p.keep⟩, hD⟩
    · rw [hEx]
      exact SR0.same (st := s c) p.sr hsame
    · obtain ⟨ob, r, q1, q2, q3, q4, q5, q6⟩ := p.ea i ((hEa i).2 hi)
      exact ⟨ob, r, q1, q2, q3, by rw [hD]; exact q4, q5, by rw [hsame.h]; exact q6⟩
  · obtain ⟨ob, r, hn, hf, hr, hor, hw0, hne⟩ := p.ea c hEc
    have hEa : ∀ i, Ea T ops.toList s La (c + 1) i → Ea T ops.toList s La c i ∧ i ≠ c := fun i ⟨h1, h2, h3, h4⟩ => ⟨⟨h1, h2, by omega, h4⟩, by omega⟩
    have hD : Dx E T ops.toList s La (c + 1) = Dx E T ops.toList s La c := by
      funext q
      apply propext
      unfold Dx
      rw [hn.nx]
      constructor
      · rintro (h1 | h1 | ⟨i, h1, h2⟩)
        · by_cases hq : q = (s c).g.nx
          · exact .inr (.inr ⟨c, hEc, hq⟩)
          · exact .inl (by omega)
        · exact .inr (.inl h1)
        · exact .inr (.inr ⟨i, (hEa i h1).1, h2⟩)
      · rintro (h1 | h1 | ⟨i, h1, h2⟩)
        · exact .inl (by omega)
        · exact .inr (.inl h1)
        · by_cases hi : i = c
          · subst hi; exact .inl (by omega)
          · exact .inr (.inr ⟨i, ⟨h1.1, h1.2.1, by have := h1.2.2.1; omega, h1.2.2.2⟩, h2⟩)
    have hget : ∀ q, (s (c + 1)).g.h.get q = if q = (s c).g.nx then some ob else (s c).g.h.get q := fun q => by rw [hn.h]; exact mget_put _ _ _ _
    have hDc : Dm (Early E T ops.toList s La (c + 1)) (s (c + 1)).g.nx = Dm (Early E T ops.toList s La c) (s c).g.nx := hD
    have hgr : GR P ρ (Dx E T ops.toList s La c) (s c).g.h.get w := p.sr.gr
    refine ⟨⟨⟨?_, ?_, ?_, ?_⟩, fun i hi => ?_, fun i j hi hj => p.ed i j (hEa i hi).1 (hEa j hj).1, p.ext, ?_, ?_, ?_, p.keep⟩, hD⟩
    · have := p.sr.gl
      show Gl ρ (s (c + 1)).g.nx
      rw [hn.nx]
      exact ⟨Nat.le_succ_of_le this.le, this.at_, this.c0⟩
    · show DfR ρ (Dm (Early E T ops.toList s La (c + 1)) (s (c + 1)).g.nx) (s (c + 1)).df ds
      rw [hDc, hn.df]; exact p.sr.df
    · show PMR ρ (Dm (Early E T ops.toList s La (c + 1)) (s (c + 1)).g.nx) (s (c + 1)).pm kd cs
      rw [hDc, hn.pm]; exact p.sr.pm
    · show GR P ρ (Dm (Early E T ops.toList s La (c + 1)) (s (c + 1)).g.nx) (s (c + 1)).g.h.get w
      rw [hDc]
      refine ⟨fun q o hq => ?_, fun q o hq => ?_, fun q q' o o' hq hq' hfi he => ?_⟩
      · rw [hget] at hq
        split at hq
        · rename_i hqq; subst hqq; exact ⟨.inr (.inr ⟨c, hEc, rfl⟩), trivial⟩
        · exact hgr.dom q o hq
      · rw [hget] at hq
        split at hq
        · rename_i hqq; subst hqq; injection hq with hq; subst hq; exact ⟨r, hr, hor⟩
        · exact hgr.at_ q o hq
      · rw [hget] at hq hq'
        split at hq
        · rename_i h1
          split at hq'
          · rename_i h2; omega
          · subst h1; exact absurd he.symm (hne q' o' hq')
        · split at hq'
          · rename_i h2; subst h2; exact absurd he (hne q o hq)
          · exact hgr.inj q q' o o' hq hq' hfi he
    · obtain ⟨h1, h2⟩ := hEa i hi
      obtain ⟨ob', r', q1, q2, q3, q4, q5, q6⟩ := p.ea i h1
      refine ⟨ob', r', q1, q2, q3, by rw [hD]; exact q4, q5, fun q o hq => ?_⟩
      rw [hget] at hq
      split at hq
      · rename_i hqq; subst hqq; exact fun he => h2 (p.ed c i hEc h1 he).symm
      · exact q6 q o hq
    · refine ⟨p.fr.os, p.fr.tape, p.fr.output, p.fr.size, p.fr.keep, fun q o hq hf' => ?_, fun q o hq hf' => ?_⟩
      · rw [hget] at hq
        split at hq
        · rename_i hqq; subst hqq; exact .inl hw0
        · exact p.fr.own q o hq hf'
      · rw [hget] at hq
        split at hq
        · injection hq with hq; subst hq; rw [hf] at hf'; cases hf'
        · exact p.fr.fix q o hq hf'
    · rw [hn.nx]; exact Nat.le_succ_of_le p.nx0
    · rw [hn.pm]; exact p.no
theorem Pos.to (tr : Tra T call ops.toList hi tw N st0 s e) {kd : CallKind} {La : Array Bool} {c : Nat} {ds : List Deferred} (p : Pos P T E ops st0 s ρ0 w0 cs0 La c (s c).g.h ρ ds w kd cs) : ∀ i, c ≤ i → i ≤ e → (∀ k, c ≤ k → k < i → k ∉ hi ∧ (k ∈ whoIs Cls.isSoft T ops.toList → La.getD k false = true)) →
    Pos P T E ops st0 s ρ0 w0 cs0 La i (s i).g.h ρ ds w kd cs ∧ Dx E T ops.toList s La i = Dx E T ops.toList s La c := by
  intro i
  induction i with
  | zero => intro h1 _ _; obtain rfl : c = 0 := by omega
            exact ⟨p, rfl⟩
  | succ i ih =>
    intro h1 h2 h3
    by_cases hc : c = i + 1
    · subst hc; exact ⟨p, rfl⟩
    · obtain ⟨q1, q2⟩ := ih (by omega) (by omega) (fun k k1 k2 => h3 k k1 (by omega))
      obtain ⟨r1, r2⟩ := h3 i (by omega) (by omega)
      obtain ⟨q3, q4⟩ := q1.step tr (by omega) r1 r2
      exact ⟨q3, q4.trans q2⟩
/-- an effect -/
theorem Pos.eff {kd : CallKind} {La La' : Array Bool} {c c' : Nat} {M M' : Mem} {ds ds' : List Deferred} (p : Pos P T E ops st0 s ρ0 w0 cs0 La c M ρ ds w kd cs) {g1 g' : G} (h1 : g1.h = M) (h2 : g1.nx = (s c).g.nx) (he : Eff P (Early E T ops.toList s La c) ρ g1 w ρ' g' w') (h3 : g'.h = M') (h4 : g'.nx = (s c').g.nx)
    (hEa : ∀ i, Ea T ops.toList s La c i ↔ Ea T ops.toList s La' c' i) (hsr : SR0 P (Early E T ops.toList s La c) ρ' { s c' with g := { (s c').g with h := M' } } ds' w' kd cs') (hno : isNo (s c').pm = isNo (s c).pm) (hk : Keep (s c).pm cs cs') : Pos P T E ops st0 s ρ0 w0 cs0 La' c' M' ρ' ds' w' kd cs' := by
  have hEx : Early E T ops.toList s La c = Early E T ops.toList s La' c' := Early_congr hEa
  have huse : ∀ q, Dx E T ops.toList s La c q → Dx E T ops.toList s La' c' q ∧ ρ'.b q = ρ.b q ∧ ρ'.c q = ρ.c q := fun q hq => by
    have := he.use q (by rw [h2]; exact hq)
    refine ⟨?_, this.2⟩
    unfold Dx
    rw [← hEx, ← h4]; exact this.1
  have hid : ∀ i, Ea T ops.toList s La c i → Dx E T ops.toList s La c (s i).g.nx := fun i hi => .inr (.inr ⟨i, hi, rfl⟩)
  refine ⟨by rw [← hEx]; exact hsr, fun i hi => ?_, fun i j hi hj hij => ?_, fun q hq => ?_, ?_, Nat.le_trans p.nx0 (by rw [← h2, ← h4]; exact he.nx), hno.trans p.no, p.keep.trans p.no hk⟩
  · have hi' := (hEa i).2 hi
    obtain ⟨ob, r, q1, q2, q3, q4, q5, q6⟩ := p.ea i hi'
    obtain ⟨u1, u2, u3⟩ := huse _ (hid i hi')
    have hlt : ρ.b (s i).g.nx < w.heap.size := (Array.getElem?_eq_some_iff.1 q3).1
    refine ⟨ob, r, q1, q2, ?_, q4.mono huse u3, by rw [u2]; exact q5, fun b o hb => ?_⟩
    · rw [u2, he.fr.keep _ hlt (fun b o hb _ => by rw [h1] at hb; exact q6 b o hb)]
      exact q3
    · rw [u2]
      cases hf : o.fixed with
      | false =>
        rcases he.fr.own b o (by rw [h3]; exact hb) hf with hh | ⟨b0, o0, h0, _, e0⟩
        · omega
        · rw [← e0]; exact q6 b0 o0 (by rw [← h1]; exact h0)
      | true =>
        obtain ⟨b0, o0, h0, _, e0⟩ := he.fr.fix b o (by rw [h3]; exact hb) hf
        rw [← e0]; exact q6 b0 o0 (by rw [← h1]; exact h0)
  · have hi' := (hEa i).2 hi
    have hj' := (hEa j).2 hj
    rw [(huse _ (hid i hi')).2.1, (huse _ (hid j hj')).2.1] at hij
    exact p.ed i j hi' hj' hij
  · have hq' : Dx E T ops.toList s La c q := by
      rcases hq with hq | hq
      · exact .inl (Nat.lt_of_lt_of_le hq p.nx0)
      · exact .inr (.inl hq)
    obtain ⟨u1, u2, u3⟩ := huse q hq'
    obtain ⟨v1, v2⟩ := p.ext q hq
    exact ⟨u2.trans v1, u3.trans v2⟩
  · have := p.fr.trans (by have := he.fr; rw [h1, h3] at this; exact this)
    exact this
end
end Go.Proofs.YtkclgbccnbiojaaGreatDoor.SX

namespace Go.Proofs.YtkclgbccnbiojaaGreatDoor.SX
section
variable {P : Program} {T : Tab} {E : Nat → Prop} {ρ ρ' ρ0 : Rn} {call : CallT}
variable {ops : Array Oper} {hi : List Nat} {tw : Option (Nat × Nat)} {hX : Option (Mem)} {N : Nat} {st0 : St} {s : Nat → St} {e : Nat} {b : Frame} {w w' w0 : World} {cs cs' cs0 : List Frame} {a a' : Act}
def memOf (s : Nat → St) (c : Nat) : Option (Mem) → Mem
  | none => (s c).g.h
  | some h => h
structure Inv (P : Program) (T : Tab) (E : Nat → Prop) (ops : Array Oper) (hi : List Nat) (tw : Option (Nat × Nat)) (hX : Option (Mem)) (N : Nat) (st0 : St) (s : Nat → St) (e : Nat) (kd : CallKind) (ρ0 : Rn) (w0 : World) (cs0 : List Frame) (La : Array Bool) (c : Nat) (d : Option (Mem)) (ρ : Rn) (a : Act) (w : World) (cs : List Frame) : Prop where
  sz : La.size = ops.size
  cl : ∀ i j, La.getD i false = true → bitAt ((ancs ops.toList).getD i 0) j = true → La.getD j false = true
  ce : c ≤ e
  cp : c = 0 ∨ ∃ k ∈ hi, c = k + 1
  ef : ∀ j ∈ hi, La.getD j false = true ↔ (j < c ∨ (d ≠ none ∧ ∃ x, tw = some (x, j)))
  dd : ∀ h, d = some h → hX = some h ∧ ∃ x y, tw = some (x, y) ∧ before hi c = before hi x ∧ La.getD x false = false
  lt : ∀ i, La.getD i false = true → i < e
  tsz : a.tmps.size = N
  vin : ∀ i o t, La.getD i false = true → ops.toList[i]? = some o → o.dst = some t → VR ρ (Dx E T ops.toList s La c) (evT (s e).env t) (a.tmps.getD t undef)
  vout : ∀ t, (∀ i o, La.getD i false = true → ops.toList[i]? = some o → o.dst ≠ some t) → VR ρ (Dx E T ops.toList s La c) (evT st0.env t) (a.tmps.getD t undef)
  pos : Pos P T E ops st0 s ρ0 w0 cs0 La c (memOf s c d) ρ a.defers w kd cs
theorem getD_set {La : Array Bool} {i j : Nat} (hi : i < La.size) : (La.setIfInBounds i true).getD j false = if j = i then true else La.getD j false := by
  simp only [Array.getD_eq_getD_getElem?, Array.getElem?_setIfInBounds]
  by_cases h : j = i
  · subst h; simp [hi]
  · rw [if_neg (fun e => h e.symm), if_neg h]
structure Ready (ops : Array Oper) (La : Array Bool) (i : Nat) : Prop where
  lt : i < ops.size
  no : La.getD i false = false
  anc : ∀ k, bitAt ((ancs ops.toList).getD i 0) k = true → La.getD k false = true
theorem ready_of {La : Array Bool} {i : Nat} (hsz : La.size = ops.size) (hcl : ∀ i j, La.getD i false = true → bitAt ((ancs ops.toList).getD i 0) j = true → La.getD j false = true) (h : i ∈ Region.ready .any ops La) : Ready ops La i := by
  unfold Region.ready at h
  rw [List.mem_filter, List.mem_range, Bool.and_eq_true] at h
  obtain ⟨h1, h2, h3⟩ := h
  have hx : La[i]? = some (La[i]'(by omega)) := Array.getElem?_eq_getElem _
  refine ⟨h1, ?_, fun k hk => ?_⟩
  · simp only [Array.getD_eq_getD_getElem?, hx, Option.getD_some, Bool.not_eq_true'] at h2 ⊢
    exact h2
  · obtain ⟨o, ho, ed, hed, hb, hk2⟩ := ancs_bits hk
    have ho' : ops[i]? = some o := by simpa using ho
    rw [ho'] at h3
    simp only [Option.map_some, Option.getD_some] at h3
    rw [Array.all_eq_true_iff_forall_mem] at h3
    have h4 := h3 ed (Array.mem_def.2 hed)
    rw [hb] at h4
    simp only [Bool.not_true, Bool.false_or] at h4
    rcases hk2 with rfl | hk2
    · exact h4
    · exact hcl _ _ h4 hk2
theorem Inv.next (tr : Tra T call ops.toList hi tw N st0 s e) {kd : CallKind} {La : Array Bool} {c c' i : Nat} {d d' : Option (Mem)} (iv : Inv P T E ops hi tw hX N st0 s e kd ρ0 w0 cs0 La c d ρ a w cs) (rd : Ready ops La i) (hie : i < e) (hce : c' ≤ e) (hcp : c' = 0 ∨ ∃ k ∈ hi, c' = k + 1)
    (hef : ∀ j ∈ hi, (La.getD j false = true ∨ j = i) ↔ (j < c' ∨ (d' ≠ none ∧ ∃ x, tw = some (x, j)))) (hdd : ∀ h, d' = some h → hX = some h ∧ ∃ x y, tw = some (x, y) ∧ before hi c' = before hi x ∧ La.getD x false = false ∧ x ≠ i)
    {o : Oper} (ho : ops.toList[i]? = some o) {v : AV} {x : Value} (hv : (s (i + 1)).env = (setD o.dst v (s i) (s i).g).env) (ht : a'.tmps = (a.put o.dst x).tmps) (hx : VR ρ' (Dx E T ops.toList s (La.setIfInBounds i true) c') v x)
    (hu : ∀ q, Dx E T ops.toList s La c q → Dx E T ops.toList s (La.setIfInBounds i true) c' q ∧ ρ'.b q = ρ.b q ∧ ρ'.c q = ρ.c q) (hp : Pos P T E ops st0 s ρ0 w0 cs0 (La.setIfInBounds i true) c' (memOf s c' d') ρ' a'.defers w' kd cs') :
    Inv P T E ops hi tw hX N st0 s e kd ρ0 w0 cs0 (La.setIfInBounds i true) c' d' ρ' a' w' cs' := by
  have hil : i < La.size := by rw [iv.sz]; exact rd.lt
  have hd := tr.dst o (List.mem_of_getElem? ho)
  have hset : ∀ j, (La.setIfInBounds i true).getD j false = true ↔ (La.getD j false = true ∨ j = i) := by
    intro j
    rw [getD_set hil]
    by_cases h : j = i
    · simp [h]
    · simp [h]
  have htm : ∀ t, o.dst ≠ some t → a'.tmps.getD t undef = a.tmps.getD t undef := by
    intro t hne
    rw [ht]
    cases hdd : o.dst with
    | none => rfl
    | some d =>
      simp only [Act.put, Array.getD_eq_getD_getElem?]
      rw [Array.getElem?_setIfInBounds_ne (fun e => hne (by rw [hdd, e]))]
  refine ⟨by simp [iv.sz], ?_, hce, hcp, ?_, fun h hh => ?_, ?_, ?_, ?_, ?_, hp⟩
  · intro q j hq hb
    rw [hset] at hq ⊢
    rcases hq with hq | rfl
    · exact .inl (iv.cl q j hq hb)
    · exact .inl (rd.anc j hb)
  · intro j hj
    rw [hset]
    exact hef j hj
  · obtain ⟨q1, x', y', q2, q3, q4, q5⟩ := hdd h hh
    refine ⟨q1, x', y', q2, q3, ?_⟩
    rw [getD_set hil, if_neg q5]; exact q4
  · intro q hq
    rw [hset] at hq
    rcases hq with hq | rfl
    · exact iv.lt q hq
    · exact hie
  · rw [ht]
    cases o.dst with
    | none => exact iv.tsz
    | some d => simp [Act.put, iv.tsz]
  · intro q o' t hq ho' hdt
    rw [hset] at hq
    by_cases hqi : q = i
    · subst hqi
      rw [ho] at ho'
      injection ho' with ho'
      subst ho'
      rw [tr.made ho hie hdt, hv, hdt]
      have e1 : evT (setD (some t) v (s q) (s q).g).env t = v := by
        show evT ((s q).env.put t (some v)) t = v
        rw [evT_eq, get_put _ _ _ _ (Nat.lt_trans (hd t hdt) tr.small), if_pos rfl]
      rw [e1, ht, hdt]
      have e2 : (a.put (some t) x).tmps.getD t undef = x := by
        simp only [Act.put, Array.getD_eq_getD_getElem?]
        rw [Array.getElem?_setIfInBounds_self_of_lt (by rw [iv.tsz]; exact hd t hdt)]; rfl
      rw [e2]
      exact hx
    · have hq' : La.getD q false = true := hq.resolve_right hqi
      have hne : o.dst ≠ some t := by
        intro hh
        rcases Nat.lt_or_gt_of_ne hqi with hlt | hlt
        · exact ((tr.okAt ho').2 i o ho).1 hlt t hdt hh
        · exact ((tr.okAt ho).2 q o' ho').1 hlt t hh hdt
      rw [htm t hne]
      exact (iv.vin q o' t hq' ho' hdt).mono hu
  · intro t hno
    have hne : o.dst ≠ some t := hno i o ((hset i).2 (.inr rfl)) ho
    rw [htm t hne]
    exact (iv.vout t fun q o' hq ho' => hno q o' ((hset q).2 (.inl hq)) ho').mono hu
/-- what a ready operation looks at -/
theorem Inv.sees (tr : Tra T call ops.toList hi tw N st0 s e) {kd : CallKind} {La : Array Bool} {c i : Nat} {d : Option (Mem)} (iv : Inv P T E ops hi tw hX N st0 s e kd ρ0 w0 cs0 La c d ρ a w cs) (rd : Ready ops La i) (hie : i ≤ e) {o : Oper} (ho : ops.toList[i]? = some o) {t : Nat} (ht : t ∈ tmpsOf ops.toList o) :
    VR ρ (Dx E T ops.toList s La c) (evT (s i).env t) (a.tmps.getD t undef) := by
  by_cases hx : ∃ (k : Nat) (o' : Oper), ops.toList[k]? = some o' ∧ o'.dst = some t
  · obtain ⟨k, o', hk, hd⟩ := hx
    have uniq : ∀ q o2, ops.toList[q]? = some o2 → o2.dst = some t → q = k := fun q o2 hq hd2 => by
      rcases Nat.lt_trichotomy q k with h | h | h
      · exact absurd hd (((tr.okAt hq).2 k o' hk).1 h t hd2)
      · exact h
      · exact absurd hd2 (((tr.okAt hk).2 q o2 hq).1 h t hd)
    rcases ((tr.okAt ho).2 k o' hk).2 t ht hd with h0 | ⟨_, h0⟩
    · have h1 := rd.anc k h0
      have h2 := iv.vin k o' t h1 hk hd
      have hki := tr.anc_lt i k h0
      have h3 : evT (s e).env t = evT (s i).env t := tr.keep hie (Nat.le_refl _) (fun q o2 q1 q2 hq hd2 => by have := uniq q o2 hq hd2; omega)
      rw [h3] at h2
      exact h2
    · have hki := tr.anc_lt k i h0
      have h1 := iv.vout t fun q o2 hq ho2 hd2 => by
        obtain rfl := uniq q o2 ho2 hd2
        have := iv.cl q i hq h0
        rw [rd.no] at this; cases this
      have h2 := tr.keep (t := t) (Nat.zero_le i) hie (fun q o2 _ q2 hq hd2 => by have := uniq q o2 hq hd2; omega)
      rw [h2, tr.s0]
      exact h1
  · have h1 := iv.vout t fun q o' _ ho' hd => hx ⟨q, o', ho', hd⟩
    have h2 := tr.keep (t := t) (Nat.zero_le i) hie (fun k o' _ _ hk hd => hx ⟨k, o', hk, hd⟩)
    rw [h2, tr.s0]
    exact h1
theorem mem_tmpsOf {L : List Oper} {o : Oper} {t : Nat} (h : Operand.tmp t ∈ o.op.operands) : t ∈ tmpsOf L o := by
  unfold tmpsOf
  refine List.mem_append_left _ (List.mem_filterMap.2 ⟨.tmp t, Array.mem_def.1 h, rfl⟩)
theorem mem_tmpsOf_guard {L : List Oper} {o : Oper} {j gd : Nat} {want : Bool} (hg : o.guard = some (j, want)) (hd : dstOf L j = some gd) : gd ∈ tmpsOf L o := by
  unfold tmpsOf
  refine List.mem_append_right _ ?_
  rw [hg]
  simp only [hd]
  exact List.mem_cons_self ..
theorem Inv.operands (tr : Tra T call ops.toList hi tw N st0 s e) {kd : CallKind} {La : Array Bool} {c i : Nat} {d : Option (Mem)} (iv : Inv P T E ops hi tw hX N st0 s e kd ρ0 w0 cs0 La c d ρ a w cs) (rd : Ready ops La i) (hie : i ≤ e) {o : Oper} (ho : ops.toList[i]? = some o) :
    ∀ x ∈ o.op.operands, VR ρ (Dx E T ops.toList s La c) (ev (s i).env x) (a.eval x) := by
  intro x hx
  cases x with
  | tmp t => exact iv.sees tr rd hie ho (mem_tmpsOf hx)
  | const v => exact ofV_ok ρ _ v
  | global g => exact glob_ok iv.pos.sr.gl g
  | func f => exact .fn _ [] [] #[] #[] rfl (fun i x a hx => by simp at hx) rfl (fun i x a hx => by simp at hx)
/-- .. of an operation whose variables stay -/
theorem Inv.operandsE (tr : Tra T call ops.toList hi tw N st0 s e) {kd : CallKind} {La : Array Bool} {c i : Nat} {d : Option (Mem)} (iv : Inv P T E ops hi tw hX N st0 s e kd ρ0 w0 cs0 La c d ρ a w cs) (rd : Ready ops La i) (hie : i ≤ e) {o : Oper} (ho : ops.toList[i]? = some o) (hl : isLate T o.op = false) :
    ∀ x ∈ o.op.operands, VR ρ (Dx E T ops.toList s La c) (ev (s e).env x) (a.eval x) := by
  intro x hx
  have h17 := iv.operands tr rd hie ho x hx
  cases x with
  | tmp t =>
    show VR ρ _ (evT (s e).env t) _
    rw [tr.looks ho hie hl (mem_tmpsOf hx)]
    exact h17
  | _ => exact h17
/-- the guard tells the same -/
theorem Inv.guardOn (tr : Tra T call ops.toList hi tw N st0 s e) {kd : CallKind} {La : Array Bool} {c i : Nat} {d : Option (Mem)} (iv : Inv P T E ops hi tw hX N st0 s e kd ρ0 w0 cs0 La c d ρ a w cs) (rd : Ready ops La i) (hie : i ≤ e) {o : Oper} (ho : ops.toList[i]? = some o) {pc : Prop} (p : pc) (h : GuardOn ops.toList o (s i).env pc) : Region.wanted o (yielded ops a.tmps) = true := by
  rcases h with hg | ⟨j, want, gd, f, t, hg, hd, hv, hb⟩
  · exact wanted_none hg
  · have h1 := iv.sees tr rd hie ho (mem_tmpsOf_guard hg hd)
    rw [hv] at h1
    rw [wanted_bool hg hd h1.bool_inv, hb p]
    simp
theorem Inv.guardOff (tr : Tra T call ops.toList hi tw N st0 s e) {kd : CallKind} {La : Array Bool} {c i : Nat} {d : Option (Mem)} (iv : Inv P T E ops hi tw hX N st0 s e kd ρ0 w0 cs0 La c d ρ a w cs) (rd : Ready ops La i) (hie : i ≤ e) {o : Oper} (ho : ops.toList[i]? = some o) {pc : Prop} (p : pc) (h : GuardOff ops.toList o (s i).env pc) : Region.wanted o (yielded ops a.tmps) = false := by
  obtain ⟨j, want, gd, hg, hd, h⟩ := h
  have h1 := iv.sees tr rd hie ho (mem_tmpsOf_guard hg hd)
  rcases h with hv | ⟨f, t, hv, hb⟩
  · rw [hv] at h1
    exact wanted_und hg hd (by generalize a.tmps.getD gd undef = z at h1; cases h1; rfl)
  · rw [hv] at h1
    rw [wanted_bool hg hd h1.bool_inv]
    have := hb p
    cases t <;> cases want <;> first | rfl | exact absurd rfl this
end
end Go.Proofs.YtkclgbccnbiojaaGreatDoor.SX

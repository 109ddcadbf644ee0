import Derived.Test.YtkclgbccnbiojaaGreatDoorSx2
import Derived.Laws.Append
import Derived.Laws.MakeOwn
import Derived.Lib.ConvBytes
import Derived.MapKept
import Derived.KernelRfl
set_option linter.unusedVariables false
set_option linter.unusedSimpArgs false
namespace Go.Proofs.YtkclgbccnbiojaaGreatDoor.SX
/-- the blocks that are known: below n, and some others, far off -/
def Dm (E : Nat → Prop) (n : Nat) (b : Nat) : Prop := b < n ∨ E b
def Rn.set (ρ : Rn) (n B c : Nat) : Rn := ⟨fun b => if b = n then B else ρ.b b, fun b => if b = n then c else ρ.c b⟩
theorem Rn.set_b (ρ : Rn) (n B c : Nat) : (ρ.set n B c).b n = B := by simp [Rn.set]
theorem Rn.set_c (ρ : Rn) (n B c : Nat) : (ρ.set n B c).c n = c := by simp [Rn.set]
theorem Rn.set_ne {ρ : Rn} {n B c b : Nat} (h : b ≠ n) : (ρ.set n B c).b b = ρ.b b ∧ (ρ.set n B c).c b = ρ.c b := by simp [Rn.set, h]
structure Eff (P : Program) (E : Nat → Prop) (ρ : Rn) (g : G) (w : World) (ρ' : Rn) (g' : G) (w' : World) : Prop where
  nx : g.nx ≤ g'.nx
  ext : ∀ b, Dm E g.nx b → ρ'.b b = ρ.b b ∧ ρ'.c b = ρ.c b
  gr : GR P ρ' (Dm E g'.nx) g'.h.get w'
  fr : Fram ρ g.h.get w ρ' g'.h.get w'
section
variable {P : Program} {T : Tab} {E : Nat → Prop}
theorem Dm.mono {n m b : Nat} (h : Dm E n b) (hn : n ≤ m) : Dm E m b := h.imp (fun h => Nat.lt_of_lt_of_le h hn) id
theorem Eff.refl {ρ : Rn} {g : G} {w : World} (h : GR P ρ (Dm E g.nx) g.h.get w) : Eff P E ρ g w ρ g w := ⟨Nat.le_refl _, fun _ _ => ⟨rfl, rfl⟩, h, .refl _ _ _⟩
theorem Eff.trans {ρ ρ1 ρ2 : Rn} {g g1 g2 : G} {w w1 w2 : World} (h : Eff P E ρ g w ρ1 g1 w1) (k : Eff P E ρ1 g1 w1 ρ2 g2 w2) : Eff P E ρ g w ρ2 g2 w2 :=
  ⟨Nat.le_trans h.nx k.nx, fun b hb => by
    obtain ⟨e1, e2⟩ := h.ext b hb
    obtain ⟨f1, f2⟩ := k.ext b (hb.mono h.nx)
    exact ⟨f1.trans e1, f2.trans e2⟩, k.gr, h.fr.trans k.fr⟩
theorem Eff.use {ρ ρ' : Rn} {g g' : G} {w w' : World} (h : Eff P E ρ g w ρ' g' w') : ∀ b, Dm E g.nx b → Dm E g'.nx b ∧ ρ'.b b = ρ.b b ∧ ρ'.c b = ρ.c b := fun b hb => ⟨hb.mono h.nx, h.ext b hb⟩
/-- only told conditions, and what is not seen of the world, have turned -/
theorem GR.pc {ρ : Rn} {D : Nat → Prop} {H : Nat → Option AObj} {w w' : World} (h : GR P ρ D H w) (hw : w'.heap = w.heap) : GR P ρ D H w' := ⟨h.dom, fun b o hb => by rw [hw]; exact h.at_ b o hb, h.inj⟩
theorem Eff.pcR {ρ ρ' : Rn} {g g' g'' : G} {w w' : World} (h : Eff P E ρ g w ρ' g' w') (hp : Pc g' g'') : Eff P E ρ g w ρ' g'' w' :=
  ⟨by rw [hp.nx]; exact h.nx, h.ext, by rw [hp.nx, hp.h]; exact h.gr, by rw [hp.h]; exact h.fr⟩
theorem Eff.pcL {ρ ρ' : Rn} {g0 g g' : G} {w w' : World} (hp : Pc g0 g) (h : Eff P E ρ g w ρ' g' w') : Eff P E ρ g0 w ρ' g' w' :=
  ⟨by rw [← hp.nx]; exact h.nx, by rw [← hp.nx]; exact h.ext, h.gr, by rw [← hp.h]; exact h.fr⟩
theorem GR.lt {ρ : Rn} {D : Nat → Prop} {H : Nat → Option AObj} {w : World} (h : GR P ρ D H w) {b : Nat} {o : AObj} (hb : H b = some o) : ρ.b b < w.heap.size := by
  obtain ⟨r, hr, _⟩ := h.at_ b o hb
  exact (Array.getElem?_eq_some_iff.1 hr).1
/-- a new block -/
theorem alloc_eff {ρ : Rn} {g : G} {w : World} {o : AObj} {r : Obj} {c : Nat} (hG : GR P ρ (Dm E g.nx) g.h.get w) (hn : g.nx < 16000000) (hE : ∀ b, E b → g.nx + 1 ≤ b)
    (ho : OR P (ρ.set g.nx w.heap.size c) (Dm E (g.nx + 1)) g.nx o r) (hfo : o.fixed = false := by rfl) : Eff P E ρ g w (ρ.set g.nx w.heap.size c) { g with h := g.h.put g.nx (some o), nx := g.nx + 1 } { w with heap := w.heap.push r } := by
  have hne : ∀ b, Dm E g.nx b → b ≠ g.nx := fun b hb e => by
    subst e
    rcases hb with hb | hb
    · omega
    · have := hE _ hb; omega
  have hext : ∀ b, Dm E g.nx b → (ρ.set g.nx w.heap.size c).b b = ρ.b b ∧ (ρ.set g.nx w.heap.size c).c b = ρ.c b := fun b hb => Rn.set_ne (hne b hb)
  have hget : ∀ b, (g.h.put g.nx (some o)).get b = if b = g.nx then some o else g.h.get b := fun b => mget_put _ _ _ _
  refine ⟨Nat.le_succ _, hext, ⟨fun b o' hb => ?_, fun b o' hb => ?_, fun b b' o1 o2 h1 h2 hfi he => ?_⟩, ⟨rfl, rfl, rfl, by simp, fun i hi _ => ?_, fun b o' hb hfx => ?_, fun b o' hb hfx => ?_⟩⟩
  · simp only at hb
    rw [hget] at hb
    split at hb
    · rename_i e; subst e; exact ⟨.inl (Nat.lt_succ_self _), trivial⟩
    · obtain ⟨h1, h2⟩ := hG.dom b o' hb
      exact ⟨h1.mono (Nat.le_succ _), h2⟩
  · simp only at hb
    rw [hget] at hb
    split at hb
    · rename_i e
      subst e
      injection hb with hb
      subst hb
      refine ⟨r, ?_, ho⟩
      rw [Rn.set_b]; simp
    · obtain ⟨r', hr', hor⟩ := hG.at_ b o' hb
      have hd := (hG.dom b o' hb).1
      obtain ⟨e1, e2⟩ := hext b hd
      have hlt := hG.lt hb
      refine ⟨r', ?_, hor.mono (fun b hb => ⟨hb.mono (Nat.le_succ _), hext b hb⟩) e2⟩
      rw [e1]
      simp only
      rw [Array.getElem?_push, if_neg (by omega)]
      exact hr'
  · simp only at h1 h2
    rw [hget] at h1 h2
    split at h1
    · split at h2
      · rename_i e1 e2; omega
      · rename_i e1 e2
        exfalso
        subst e1
        rw [Rn.set_b, (Rn.set_ne e2).1] at he
        have := hG.lt h2
        omega
    · split at h2
      · rename_i e1 e2
        exfalso
        subst e2
        rw [Rn.set_b, (Rn.set_ne e1).1] at he
        have := hG.lt h1
        omega
      · rename_i e1 e2
        rw [(Rn.set_ne e1).1, (Rn.set_ne e2).1] at he
        exact hG.inj b b' o1 o2 h1 h2 hfi he
  · simp only
    rw [Array.getElem?_push, if_neg (by omega)]
  · simp only at hb
    rw [hget] at hb
    split at hb
    · rename_i e; subst e; rw [Rn.set_b]; exact .inl (Nat.le_refl _)
    · rename_i e
      refine .inr ⟨b, o', hb, hfx, ?_⟩
      rw [(Rn.set_ne e).1]
  · simp only at hb
    rw [hget] at hb
    split at hb
    · injection hb with hb; subst hb; rw [hfo] at hfx; cases hfx
    · rename_i e
      refine ⟨b, o', hb, hfx, ?_⟩
      rw [(Rn.set_ne e).1]
/-- a block's contents are turned -/
theorem set_eff {ρ : Rn} {g : G} {w w' : World} {b : Nat} {o0 o : AObj} {r : Obj} (hG : GR P ρ (Dm E g.nx) g.h.get w) (hb : g.h.get b = some o0) (hw : Only w w' (ρ.b b) r) (ho : OR P ρ (Dm E g.nx) b o r) (hfx0 : o0.fixed = false := by rfl) (hfo : o.fixed = false := by rfl) :
    Eff P E ρ g w ρ (g.set b (some o)) w' := by
  obtain ⟨hd, hn⟩ := hG.dom b o0 hb
  have hget : ∀ q, (g.set b (some o)).h.get q = if q = b then some o else g.h.get q := fun q => mget_put _ _ _ _
  have hold : ∀ q o', (g.set b (some o)).h.get q = some o' → ∃ o'', g.h.get q = some o'' := by
    intro q o' hq
    rw [hget] at hq
    split at hq
    · rename_i e; subst e; exact ⟨_, hb⟩
    · exact ⟨_, hq⟩
  refine ⟨Nat.le_refl _, fun _ _ => ⟨rfl, rfl⟩, ⟨fun q o' hq => ?_, fun q o' hq => ?_, fun q q' o1 o2 h1 h2 hfi he => ?_⟩, ⟨hw.os, hw.tape, hw.output, by rw [hw.size]; exact Nat.le_refl _, fun i hi hne => ?_, fun q o' hq hfx => ?_, fun q o' hq hfx => ?_⟩⟩
  · obtain ⟨o'', h⟩ := hold q o' hq
    exact hG.dom q o'' h
  · rw [hget] at hq
    split at hq
    · rename_i e
      subst e
      injection hq with hq
      subst hq
      exact ⟨r, hw.here, ho⟩
    · rename_i e
      obtain ⟨r', hr', hor⟩ := hG.at_ q o' hq
      refine ⟨r', ?_, hor⟩
      rw [hw.keep _ (fun e2 => e (hG.inj b q o0 o' hb hq hfx0 e2.symm).symm)]
      exact hr'
  · obtain ⟨_, h2'⟩ := hold q' o2 h2
    rw [hget] at h1
    split at h1
    · rename_i e; subst e; exact hG.inj q q' _ _ hb h2' hfx0 he
    · exact hG.inj q q' _ _ h1 h2' hfi he
  · exact hw.keep i (fun e => hne b o0 hb hfx0 e.symm)
  · rw [hget] at hq
    split at hq
    · rename_i e; subst e; exact .inr ⟨q, o0, hb, hfx0, rfl⟩
    · exact .inr ⟨q, o', hq, hfx, rfl⟩
  · rw [hget] at hq
    split at hq
    · injection hq with hq; subst hq; rw [hfo] at hfx; cases hfx
    · exact ⟨q, o', hq, hfx, rfl⟩
/-- an elder row is given up, a new one stands in its place: the same block -/
theorem swap_eff {ρ : Rn} {g : G} {w w' : World} {b : Nat} {o0 o : AObj} {r : Obj} (hG : GR P ρ (Dm E g.nx) g.h.get w) (hb : g.h.get b = some o0) (hn : g.nx < 16000000) (hE : ∀ b, E b → g.nx + 1 ≤ b) (hbn : b ≠ g.nx) (hw : Only w w' (ρ.b b) r)
    (ho : OR P (ρ.set g.nx (ρ.b b) (ρ.c b)) (Dm E (g.nx + 1)) g.nx o r) (hfx0 : o0.fixed = false := by rfl) (hfo : o.fixed = false := by rfl) : Eff P E ρ g w (ρ.set g.nx (ρ.b b) (ρ.c b)) { (g.set b none) with h := (g.set b none).h.put g.nx (some o), nx := g.nx + 1 } w' := by
  obtain ⟨hd, hnb⟩ := hG.dom b o0 hb
  have hne : ∀ b, Dm E g.nx b → b ≠ g.nx := fun b hb e => by
    subst e
    rcases hb with hb | hb
    · omega
    · have := hE _ hb; omega
  have hext : ∀ q, Dm E g.nx q → (ρ.set g.nx (ρ.b b) (ρ.c b)).b q = ρ.b q ∧ (ρ.set g.nx (ρ.b b) (ρ.c b)).c q = ρ.c q := fun q hq => Rn.set_ne (hne q hq)
  have hget : ∀ q, ((g.h.put b none).put g.nx (some o)).get q = if q = g.nx then some o else if q = b then none else g.h.get q := fun q => by rw [mget_put, mget_put]
  have hold : ∀ q o', ((g.h.put b none).put g.nx (some o)).get q = some o' → (q = g.nx ∧ o' = o) ∨ (q ≠ g.nx ∧ q ≠ b ∧ g.h.get q = some o') := by
    intro q o' hq
    rw [hget] at hq
    split at hq
    · rename_i e; injection hq with hq; exact .inl ⟨e, hq.symm⟩
    · split at hq
      · cases hq
      · rename_i e1 e2; exact .inr ⟨e1, e2, hq⟩
  refine ⟨Nat.le_succ _, hext, ⟨fun q o' hq => ?_, fun q o' hq => ?_, fun q q' o1 o2 h1 h2 hfi he => ?_⟩, ⟨hw.os, hw.tape, hw.output, by rw [hw.size]; exact Nat.le_refl _, fun i hi hne' => ?_, fun q o' hq hfx => ?_, fun q o' hq hfx => ?_⟩⟩
  · rcases hold q o' hq with ⟨rfl, _⟩ | ⟨_, _, h⟩
    · exact ⟨.inl (Nat.lt_succ_self _), trivial⟩
    · obtain ⟨h1, h2⟩ := hG.dom q o' h
      exact ⟨h1.mono (Nat.le_succ _), h2⟩
  · rcases hold q o' hq with ⟨rfl, rfl⟩ | ⟨e1, e2, h⟩
    · exact ⟨r, by rw [Rn.set_b]; exact hw.here, ho⟩
    · obtain ⟨r', hr', hor⟩ := hG.at_ q o' h
      have hdq := (hG.dom q o' h).1
      refine ⟨r', ?_, hor.mono (fun b hb => ⟨hb.mono (Nat.le_succ _), hext b hb⟩) (hext q hdq).2⟩
      rw [(Rn.set_ne e1).1, hw.keep _ (fun e => e2 (hG.inj b q o0 o' hb h hfx0 e.symm).symm)]
      exact hr'
  · rcases hold q o1 h1 with ⟨rfl, _⟩ | ⟨e1, e2, h1'⟩
    · rcases hold q' o2 h2 with ⟨rfl, _⟩ | ⟨f1, f2, h2'⟩
      · rfl
      · exfalso
        rw [Rn.set_b, (Rn.set_ne f1).1] at he
        exact f2 (hG.inj b q' o0 o2 hb h2' hfx0 he).symm
    · rcases hold q' o2 h2 with ⟨rfl, _⟩ | ⟨f1, f2, h2'⟩
      · exfalso
        rw [Rn.set_b, (Rn.set_ne e1).1] at he
        exact e2 (hG.inj b q o0 o1 hb h1' hfx0 he.symm).symm
      · rw [(Rn.set_ne e1).1, (Rn.set_ne f1).1] at he
        exact hG.inj q q' _ _ h1' h2' hfi he
  · exact hw.keep i (fun e => hne' b o0 hb hfx0 e.symm)
  · rcases hold q o' hq with ⟨rfl, _⟩ | ⟨e1, e2, h⟩
    · exact .inr ⟨b, o0, hb, hfx0, by rw [Rn.set_b]⟩
    · exact .inr ⟨q, o', h, hfx, by rw [(Rn.set_ne e1).1]⟩
  · rcases hold q o' hq with ⟨rfl, rfl⟩ | ⟨e1, e2, h⟩
    · rw [hfo] at hfx; cases hfx
    · exact ⟨q, o', h, hfx, by rw [(Rn.set_ne e1).1]⟩
/-- a row that is given up -/
theorem drop_eff {ρ : Rn} {g : G} {w : World} {b : Nat} {o0 : AObj} (hG : GR P ρ (Dm E g.nx) g.h.get w) (hb : g.h.get b = some o0) : Eff P E ρ g w ρ (g.set b none) w := by
  obtain ⟨hd, hnb⟩ := hG.dom b o0 hb
  have hget : ∀ q, (g.set b none).h.get q = if q = b then none else g.h.get q := fun q => mget_put _ _ _ _
  have hold : ∀ q o', (g.set b none).h.get q = some o' → g.h.get q = some o' := by
    intro q o' hq
    rw [hget] at hq
    split at hq
    · cases hq
    · exact hq
  exact ⟨Nat.le_refl _, fun _ _ => ⟨rfl, rfl⟩, ⟨fun q o' hq => hG.dom q o' (hold q o' hq), fun q o' hq => hG.at_ q o' (hold q o' hq), fun q q' o1 o2 h1 h2 hfi he => hG.inj q q' _ _ (hold _ _ h1) (hold _ _ h2) hfi he⟩, ⟨rfl, rfl, rfl, Nat.le_refl _, fun _ _ _ => rfl, fun q o' hq hfx => .inr ⟨q, o', hold q o' hq, hfx, rfl⟩, fun q o' hq hfx => ⟨q, o', hold q o' hq, hfx, rfl⟩⟩⟩
end
end Go.Proofs.YtkclgbccnbiojaaGreatDoor.SX

namespace Go.Proofs.YtkclgbccnbiojaaGreatDoor.SX
section
variable {P : Program} {T : Tab} {E : Nat → Prop} {ρ : Rn}
/-- what an operation that writes or makes memory does -/
def Does (P : Program) (E : Nat → Prop) (ρ : Rn) (g : G) (r : AV × G) (s : Sem Value) : Prop :=
  (r.2.pc → g.pc) ∧ g.nx ≤ r.2.nx ∧ (r.2.pc → (∀ b, E b → r.2.nx ≤ b) → ∀ w, GR P ρ (Dm E g.nx) g.h.get w → ∃ x w' ρ', s.run P w = .ok x w' ∧ Eff P E ρ g w ρ' r.2 w' ∧ VR ρ' (Dm E r.2.nx) r.1 x)
theorem Reads.does {g : G} {r : AV × G} {s : Sem Value} (h : Reads P ρ (Dm E g.nx) g r s) : Does P E ρ g r s := by
  refine ⟨h.1.pc, by rw [h.1.nx]; exact Nat.le_refl _, fun p _ w hw => ?_⟩
  obtain ⟨x, hx, hv⟩ := h.2 p w hw
  exact ⟨x, w, ρ, hx, (Eff.refl hw).pcR h.1, by rw [h.1.nx]; exact hv⟩
theorem Does.pcL {g0 g : G} {r : AV × G} {s : Sem Value} (hp : Pc g0 g) (h : Does P E ρ g r s) : Does P E ρ g0 r s := by
  refine ⟨fun p => hp.pc (h.1 p), by rw [← hp.nx]; exact h.2.1, fun p hE w hw => ?_⟩
  obtain ⟨x, w', ρ', hx, he, hv⟩ := h.2.2 p hE w (by rw [hp.nx, hp.h]; exact hw)
  exact ⟨x, w', ρ', hx, .pcL hp he, hv⟩
theorem alloc_some {α : Type} {g : G} {o : AObj} {k : Nat → G → R α} {r : α × G} (h : alloc g o k = some r) : g.nx < 16000000 ∧ k g.nx { g with h := g.h.put g.nx (some o), nx := g.nx + 1 } = some r := by
  unfold alloc at h
  split at h
  · rename_i hb; exact ⟨blt_iff.1 hb, h⟩
  · cases h
theorem open0 (n : Nat) : Open (0, 0) n := fun i _ h => by simp at h
/-- a new row of cells -/
theorem newCells_eff {g : G} {w : World} {e : Nat} {cs : List AV} {as : Array Value} (hG : GR P ρ (Dm E g.nx) g.h.get w) (hn : g.nx < 16000000) (hE : ∀ b, E b → g.nx + 1 ≤ b) (hL : LR ρ (Dm E g.nx) cs as.toList) :
    Eff P E ρ g w (ρ.set g.nx w.heap.size 0) { g with h := g.h.put g.nx (some (.cells e cs false)), nx := g.nx + 1 } { w with heap := w.heap.push (.cells as e) } := by
  refine alloc_eff hG hn hE ?_
  have hne : ∀ b, Dm E g.nx b → Dm E (g.nx + 1) b ∧ (ρ.set g.nx w.heap.size 0).b b = ρ.b b ∧ (ρ.set g.nx w.heap.size 0).c b = ρ.c b := fun b hb => ⟨hb.mono (Nat.le_succ _), Rn.set_ne (fun e => by
    subst e
    rcases hb with hb | hb
    · omega
    · have := hE _ hb; omega)⟩
  have hl : cs.length = as.size := by have := hL.1; simpa using this
  exact .cells e cs false as (0, 0) (hL.read.mono hne) (open0 _) ⟨by omega, fun _ => hl.symm, fun h => by cases h⟩
theorem new_ptr {g : G} {w : World} {c : Nat} : VR (ρ.set g.nx w.heap.size c) (Dm E (g.nx + 1)) (.ptr g.nx 0) (.pointer (some ⟨w.heap.size, 0, none⟩)) := by
  have := VR.ptr (ρ := ρ.set g.nx w.heap.size c) (D := Dm E (g.nx + 1)) g.nx 0 (.inl (Nat.lt_succ_self _))
  rw [Rn.set_b] at this
  exact this
theorem new_sl {g : G} {w : World} {c n m : Nat} {s : Bool} (h : n ≤ m) : VR (ρ.set g.nx w.heap.size c) (Dm E (g.nx + 1)) (.sl s g.nx 0 n (.kn m)) (.slice (some ⟨w.heap.size, 0, none⟩) n m) := by
  have := VR.slk (ρ := ρ.set g.nx w.heap.size c) (D := Dm E (g.nx + 1)) s g.nx 0 n m (.inl (Nat.lt_succ_self _)) h
  rw [Rn.set_b] at this
  exact this
theorem new_slu {g : G} {w : World} {c n : Nat} {s : Bool} (h : n ≤ c) : VR (ρ.set g.nx w.heap.size c) (Dm E (g.nx + 1)) (.sl s g.nx 0 n (.un 0)) (.slice (some ⟨w.heap.size, 0, none⟩) n c) := by
  have := VR.slu (ρ := ρ.set g.nx w.heap.size c) (D := Dm E (g.nx + 1)) s g.nx 0 n 0 (.inl (Nat.lt_succ_self _)) (by rw [Rn.set_c]; omega)
  rw [Rn.set_b, Rn.set_c] at this
  exact this
theorem oAlloc_ok (hT : TabOk P T) {t : Nat} {g : G} {r : AV × G} (h : oAlloc T t g = some r) (old : Value) : Does P E ρ g r (Instr.alloc t true old) := by
  obtain ⟨i, hi, h⟩ := ti_some h
  obtain ⟨info, z, d, e1, e2, e3, he⟩ := hT.ti t i hi
  subst he
  obtain ⟨hn, h⟩ := alloc_some h
  obtain rfl := rok_some h
  refine ⟨id, Nat.le_succ _, fun p hE w hw => ⟨_, _, _, ?_, newCells_eff hw hn hE zero_LR, new_ptr⟩⟩
  simp [Instr.alloc, run_zero e1 e2, newVar, newRow]
theorem oBox_ok {t : Nat} {v : AV} {g : G} {r : AV × G} {a : Value} (hv : VR ρ (Dm E g.nx) v a) (h : oBox t v g = some r) : Does P E ρ g r (Instr.box t a) := by
  obtain ⟨hb, h⟩ := guardB_some h
  obtain ⟨hn, h⟩ := alloc_some h
  obtain rfl := rok_some h
  refine ⟨id, Nat.le_succ _, fun p hE w hw => ⟨_, _, _, ?_, newCells_eff hw hn hE (hv.cells (notBad_ne hb)), new_ptr⟩⟩
  simp [Instr.box, newVar, newRow]
theorem reps_succ (z : List AV) (n : Nat) : reps z (n + 1) = z ++ reps z n := rfl
theorem reps_length (z : List AV) (n : Nat) : (reps z n).length = n * z.length := by
  induction n with
  | zero => show ([] : List AV).length = _; simp
  | succ n ih => rw [reps_succ, List.length_append, ih, Nat.succ_mul, Nat.add_comm]
theorem reps_get (z : List AV) (n i : Nat) (h : i < n * z.length) : (reps z n)[i]? = z[i % z.length]? := by
  induction n generalizing i with
  | zero => simp at h
  | succ n ih =>
    rw [reps_succ]
    by_cases hi : i < z.length
    · rw [List.getElem?_append_left hi, Nat.mod_eq_of_lt hi]
    · rw [Nat.succ_mul] at h
      rw [List.getElem?_append_right (by omega), ih _ (by omega), Nat.mod_eq_sub_mod (a := i) (by omega)]
/-- so many zero values -/
theorem reps_LR {D : Nat → Prop} {z : Value} (n m : Nat) (hm : m = n * z.cells.size) : LR ρ D (reps (z.cells.toList.map ofCell) n) (madeCells z.cells m).toList := by
  subst hm
  refine ⟨by rw [reps_length]; simp [madeCells], fun i x a hx ha => ?_⟩
  have hi : i < n * z.cells.size := by have := lt_of_get ha; simpa [madeCells] using this
  rw [reps_get _ _ _ (by simpa using hi)] at hx
  have hz : 0 < z.cells.size := by
    rcases Nat.eq_zero_or_pos z.cells.size with h0 | h0
    · rw [h0] at hi; simp at hi
    · exact h0
  have hm : i % z.cells.size < z.cells.size := Nat.mod_lt _ hz
  have ha2 : a = z.cells[i % z.cells.size] := by
    have : (madeCells z.cells (n * z.cells.size))[i]? = some a := by simpa using ha
    unfold madeCells at this
    rw [Array.getElem?_map, Array.getElem?_range, if_pos hi] at this
    simp only [Option.map_some, Option.some.injEq] at this
    rw [← this]
    exact getElem!_pos z.cells _ hm
  have hx2 : x = ofCell z.cells[i % z.cells.size] := by
    simp only [List.length_map, Array.length_toList, List.getElem?_map, Array.getElem?_toList, Array.getElem?_eq_getElem hm, Option.map_some, Option.some.injEq] at hx
    exact hx.symm
  rw [ha2, hx2]
  exact ofCell_ok ρ D _
theorem oBuildSlice_ok (hT : TabOk P T) {t n : Nat} {ps : List (Nat × AV)} {qs : Array (Nat × Value)} {g : G} {r : AV × G} (hp : PR ρ (Dm E g.nx) ps qs.toList) (h : oBuildSlice T t n ps g = some r) : Does P E ρ g r (Instr.buildSlice t n qs) := by
  obtain ⟨i, hi, h⟩ := ti_some h
  obtain ⟨info, z, d, e1, e2, e3, he⟩ := hT.ti t i hi
  subst he
  obtain ⟨e, hk, h⟩ := elem_some h
  obtain rfl := tk_slice hk
  obtain ⟨ei, hei, h⟩ := ti_some h
  obtain ⟨einfo, ez, ed, g1, g2, g3, hee⟩ := hT.ti e ei hei
  have hz := (hT.zi e ei einfo ez ed hei g1 g2 g3).1
  subst hee
  obtain ⟨hle, h⟩ := guardB_some h
  obtain ⟨cs, hf, h⟩ := obind_some h
  obtain ⟨hn, h⟩ := alloc_some h
  obtain rfl := rok_some h
  have hle2 : n * einfo.size ≤ 16777216 := ble_iff.1 hle
  obtain ⟨as', hfill, hL⟩ := fill_ok (ρ := ρ) (D := Dm E g.nx) _ ps qs.toList _ cs _ hp (reps_LR n (n * einfo.size) (by rw [hz])) hf
  refine ⟨id, Nat.le_succ _, fun p hE w hw => ⟨_, _, _, ?_, newCells_eff hw hn hE hL, new_sl (Nat.le_refl _)⟩⟩
  have h24 : ¬ (n * einfo.size > 2 ^ 24) := by omega
  by_cases h0 : n * einfo.size = 0
  · have hm : madeCells ez.cells (n * einfo.size) = #[] := by rw [h0]; simp [madeCells, Array.range_zero']
    rw [hm] at hfill
    simp only [Instr.buildSlice, Sem.run_bind, run_underlying e3, Result.andThen_ok, run_size g1, if_neg h24, Sem.run_pure]
    rw [if_pos h0]
    simp only [pure_bind]
    have : (Array.range (n * einfo.size)).map (fun x => (#[] : Array Value)[x % (#[] : Array Value).size]!) = #[] := by rw [h0]; simp [Array.range_zero']
    rw [this, hfill]
    simp [newRow]
  · simp only [Instr.buildSlice, Sem.run_bind, run_underlying e3, Result.andThen_ok, run_size g1, if_neg h24, Sem.run_pure]
    rw [if_neg h0]
    simp only [Sem.run_bind, run_zero g1 g2, Sem.run_pure, Result.andThen_ok]
    have : (Array.range (n * einfo.size)).map (fun x => ez.cells[x % ez.cells.size]!) = madeCells ez.cells (n * einfo.size) := rfl
    rw [this, hfill]
    simp [newRow]
end
end Go.Proofs.YtkclgbccnbiojaaGreatDoor.SX

namespace Go.Proofs.YtkclgbccnbiojaaGreatDoor.SX
section
variable {P : Program} {T : Tab} {E : Nat → Prop} {ρ : Rn}
def DoesU (P : Program) (E : Nat → Prop) (ρ : Rn) (g g' : G) (s : Sem Unit) : Prop :=
  (g'.pc → g.pc) ∧ g.nx ≤ g'.nx ∧ (g'.pc → (∀ b, E b → g'.nx ≤ b) → ∀ w, GR P ρ (Dm E g.nx) g.h.get w → ∃ w' ρ', s.run P w = .ok () w' ∧ Eff P E ρ g w ρ' g' w')
theorem fits_some (hT : TabOk P T) {t : Nat} {v : AV} {x : R Unit} {r : Unit × G} (h : fits T t v x = some r) : ∃ info, P.info? t = some info ∧ info.size = v.cells.length ∧ v.cells.all oneCell = true ∧ x = some r := by
  obtain ⟨i, hi, h1⟩ := ti_some h
  obtain ⟨hb, h2⟩ := guardB_some h1
  obtain ⟨info, z, d, e1, e2, e3, he⟩ := hT.ti t i hi
  subst he
  rw [Bool.and_eq_true] at hb
  exact ⟨info, e1, beq_iff.1 hb.1, hb.2, h2⟩
theorem all_one_ne {v : AV} (h : v.cells.all oneCell = true) : v ≠ .bad := by intro e; subst e; simp [AV.cells, oneCell] at h
theorem all_one {D : Nat → Prop} {cs : List AV} {as : List Value} (hL : LR ρ D cs as) (h : cs.all oneCell = true) : ∀ u ∈ as, u.oneCell' = true := by
  intro u hu
  obtain ⟨i, hi, rfl⟩ := List.getElem_of_mem hu
  have hi2 : i < cs.length := by rw [hL.1]; exact hi
  have := hL.2 i cs[i] as[i] (List.getElem?_eq_getElem hi2) (List.getElem?_eq_getElem hi)
  exact one_of this (List.all_eq_true.1 h _ (List.getElem_mem hi2))
theorem run_storeAt {t : Nat} {info : TypeInfo} {a : Addr} {x : Value} {w w' : World} (hi : P.info? t = some info) (hs : info.size = x.cells.size) (hr : (storeCells a x.cells.toList).run P w = .ok () w') : (Instr.storeAt t (.pointer (some a)) x).run P w = .ok () w' := by
  simp only [Instr.storeAt, Instr.sureAddr, Sem.run_bind, Sem.run_pure, Result.andThen_ok, storeVar, run_size hi]
  rw [if_neg (by rw [hs]; simp)]
  exact hr
theorem nums_put {D : Nat → Prop} {k : IntKind} {xs : List Int} {arr : Array Value} {i : Nat} {n : Int} (h : ReadL ρ D (xs.map (.int true k)) arr) (hs : xs.length ≤ arr.size) (hi : i < xs.length) : ReadL ρ D ((xs.set i n).map (.int true k)) (arr.setIfInBounds i (.int k n)) := by
  intro q x hq
  rw [List.getElem?_map, List.getElem?_set] at hq
  by_cases he : i = q
  · subst he
    rw [if_pos rfl, if_pos hi] at hq
    simp only [Option.map_some, Option.some.injEq] at hq
    subst hq
    exact ⟨_, by rw [Array.getElem?_setIfInBounds_self_of_lt (by omega)], .int _ _ _⟩
  · rw [if_neg he] at hq
    rw [Array.getElem?_setIfInBounds_ne he]
    exact h q x (by rw [List.getElem?_map]; exact hq)
theorem stNum_ok {b e i o : Nat} {k : IntKind} {xs : List Int} {gr : Bool} {x : AV} {g : G} {r : Unit × G} {a : Value} {t : Nat} {info : TypeInfo} (ho : o = i) (hb : g.h.get b = some (.nums e k xs gr)) (hx : VR ρ (Dm E g.nx) x a) (hi : P.info? t = some info) (hs : info.size = x.cells.length)
    (h : stNum b e k xs gr i x g = some r) : DoesU P E ρ g r.2 (Instr.storeAt t (.pointer (some ⟨ρ.b b, o, none⟩)) a) := by
  subst ho
  unfold stNum at h
  split at h
  · rename_i s k' n
    obtain ⟨hk, h1⟩ := guardB_some h
    clear h
    obtain rfl := kindEq_iff.1 hk
    obtain rfl := hx.int_inv
    obtain ⟨g1, hp, hc, h2⟩ := chk_some h1
    obtain rfl := rok_some h2
    refine ⟨hp.pc, by show g.nx ≤ g1.nx; rw [hp.nx]; exact Nat.le_refl _, fun p hE w hw => ?_⟩
    have hlt : o < xs.length := blt_iff.1 (hc p)
    obtain ⟨rr, hr, hor⟩ := hw.at_ b _ hb
    cases hor with
    | nums e k xs gr arr fz hR hO hRm =>
      have hsz : o < arr.size := Nat.lt_of_lt_of_le hlt hRm.1
      have hon := setCell_only (o := o) (v := .int k n) hr
      refine ⟨_, ρ, run_storeAt hi hs (w' := w.setCell ⟨ρ.b b, o, none⟩ (.int k n)) ?_, ?_⟩
      · show (storeCells _ [Value.int k n]).run P w = _
        simp only [storeCells, Sem.run_bind, add_at, Nat.add_zero]
        rw [run_store1 hr hO hsz rfl]
        rfl
      · refine Eff.pcL hp (set_eff (by rw [hp.nx, hp.h]; exact hw) (by rw [hp.h]; exact hb) hon ?_)
        rw [hp.nx]
        exact .nums e k (xs.set o n) gr _ fz (nums_put hR hRm.1 hlt) (by simpa using hO) ⟨by simpa using hRm.1, fun hg => by simpa using hRm.2.1 hg, fun hg => by simpa using hRm.2.2 hg⟩
  · cases h
theorem oStore_ok (hT : TabOk P T) {t : Nat} {p x : AV} {g : G} {r : Unit × G} {a b : Value} (hp : VR ρ (Dm E g.nx) p a) (hx : VR ρ (Dm E g.nx) x b) (h : oStore T t p x g = some r) : DoesU P E ρ g r.2 (Instr.storeAt t a b) := by
  unfold oStore at h
  split at h
  · rename_i B o
    obtain ⟨rfl, hB⟩ := hp.ptr_inv
    obtain ⟨ob, hob, h⟩ := obj_some h
    unfold stCell at h
    split at h
    · rename_i e cs gr
      obtain ⟨info, h1, h2, h3, h⟩ := fits_some hT h
      obtain ⟨hl, h⟩ := guardB_some h
      obtain rfl := rok_some h
      have hL := hx.cells (all_one_ne h3)
      have hlen : x.cells.length = b.cells.size := by have := hL.1; simpa using this
      have hl2 : o + x.cells.length ≤ cs.length := ble_iff.1 hl
      refine ⟨id, Nat.le_refl _, fun _ hE w hw => ?_⟩
      obtain ⟨rr, hr, hor⟩ := hw.at_ B _ hob
      cases hor with
      | cells e cs gr arr fz hR hO hRm =>
        obtain ⟨w', hrun, hon⟩ := run_stores (P := P) b.cells.toList w (ρ.b B) o 0 e arr fz hr hO (by simp; have := hRm.1; omega) (all_one hL h3)
        refine ⟨w', ρ, run_storeAt h1 (by rw [h2, hlen]) hrun, set_eff hw hob hon ?_⟩
        have hpl := putSeg_length hl2
        exact .cells e _ gr _ fz (hR.put hL hl2 hRm.1) (by rw [putAt_size]; exact hO) ⟨by rw [putAt_size, hpl]; exact hRm.1, fun hg => by rw [putAt_size, hpl]; exact hRm.2.1 hg, fun hg => by rw [putAt_size]; exact hRm.2.2 hg⟩
    · rename_i e k xs gr
      obtain ⟨info, h1, h2, h3, h⟩ := fits_some hT h
      exact stNum_ok rfl hob hx h1 h2 h
    · cases h
  · rename_i B sz i j
    obtain ⟨rfl, hB⟩ := hp.rptr_inv
    obtain ⟨ob, hob, h⟩ := obj_some h
    unfold stRow at h
    split at h
    · rename_i e k xs gr
      obtain ⟨info, h1, h2, h3, h⟩ := fits_some hT h
      obtain ⟨hc, h⟩ := guardB_some h
      rw [Bool.and_eq_true, beq_iff, beq_iff] at hc
      exact stNum_ok (by rw [hc.1, hc.2]; simp) hob hx h1 h2 h
    · cases h
  · cases h
theorem oMakeMap_ok {t kt e : Nat} {x : Option AV} {g : G} {r : AV × G} {a : Option Value} (hu : P.underlying t = some (.map kt e)) (hx : OV ρ (Dm E g.nx) x a) (h : oMakeMap x g = some r) : Does P E ρ g r (Instr.makeMap t a) := by
  obtain ⟨s, l, hb, h⟩ := optInt_some hx h
  obtain ⟨hn, h⟩ := alloc_some h
  obtain rfl := rok_some h
  refine ⟨id, Nat.le_succ _, fun p hE w hw => ⟨.map (some w.heap.size), { w with heap := w.heap.push (.map #[] 0) }, ρ.set g.nx w.heap.size 0, ?_, alloc_eff hw hn hE ?_, ?_⟩⟩
  · rcases hb with ⟨rfl, _⟩ | ⟨k, rfl⟩
    · simp [Instr.makeMap]
    · simp [Instr.makeMap, run_underlying hu, asInt, asIntOf]
  · exact .map [] #[] rfl (fun i p m hp => by simp at hp)
  · have := VR.mp (ρ := ρ.set g.nx w.heap.size 0) (D := Dm E (g.nx + 1)) g.nx (.inl (Nat.lt_succ_self _))
    rw [Rn.set_b] at this
    exact this
theorem numCells_eff {g : G} {w : World} {e c : Nat} {k : IntKind} {xs : List Int} {gr : Bool} {as : Array Value} {fz : Nat × Nat} (hG : GR P ρ (Dm E g.nx) g.h.get w) (hn : g.nx < 16000000) (hE : ∀ b, E b → g.nx + 1 ≤ b) (hL : ∀ (i : Nat) (n : Int), xs[i]? = some n → as[i]? = some (.int k n)) (ho : Open fz as.size)
    (hR : ∀ ρ' : Rn, ρ'.c g.nx = c → Roomy P ρ' g.nx e xs.length gr as) :
    Eff P E ρ g w (ρ.set g.nx w.heap.size c) { g with h := g.h.put g.nx (some (.nums e k xs gr)), nx := g.nx + 1 } { w with heap := w.heap.push (.cells as e fz) } := by
  refine alloc_eff hG hn hE ?_
  refine .nums e k xs gr as fz (fun i x hx => ?_) ho (hR _ (Rn.set_c _ _ _ _))
  rw [List.getElem?_map] at hx
  cases hxs : xs[i]? with
  | none => rw [hxs] at hx; cases hx
  | some n =>
    rw [hxs] at hx
    injection hx with hx
    subst hx
    exact ⟨_, hL i n hxs, .int _ _ _⟩
end
end Go.Proofs.YtkclgbccnbiojaaGreatDoor.SX

namespace Go.Proofs.YtkclgbccnbiojaaGreatDoor.SX
section
variable {P : Program} {T : Tab} {E : Nat → Prop} {ρ : Rn}
theorem room_some {s : Bool} {n bytes : Nat} {g : G} {k : G → R AV} {r : AV × G} (h : room s n bytes g k = some r) : ∃ g1, Pc g g1 ∧ (g1.pc → n * bytes ≤ 140737488355328 ∧ n ≤ 140737488355328) ∧ k g1 = some r := by
  obtain ⟨g1, hp, hc, h1⟩ := chk_some h
  refine ⟨g1, hp, fun p => ?_, h1⟩
  have := hc p
  rw [Bool.and_eq_true, ble_iff, ble_iff] at this
  exact this
theorem zeroInt_some {k : IntKind} {z : Value} (h : zeroInt k (z.cells.toList.map ofCell) = true) : z.cells = #[.int k 0] := by
  unfold zeroInt at h
  split at h
  · rename_i k' n heq
    rw [Bool.and_eq_true] at h
    obtain rfl := kindEq_iff.1 h.1
    have hn : n = 0 := by have := h.2; rw [ieq_eq] at this; exact beq_iff_eq.1 this
    subst hn
    apply Array.toList_inj.1
    cases hz : z.cells.toList with
    | nil => rw [hz] at heq; simp at heq
    | cons c r =>
      rw [hz] at heq
      simp only [List.map_cons, List.cons.injEq, List.map_eq_nil_iff] at heq
      obtain ⟨hc, rfl⟩ := heq
      have := ofCell_ok ⟨id, id⟩ (fun _ => True) c
      rw [hc] at this
      obtain rfl := this.int_inv
      rfl
  · cases h
theorem madeCells_one {v : Value} {n i : Nat} (h : i < n) : (madeCells #[v] n)[i]? = some v := by
  unfold madeCells
  rw [Array.getElem?_map, Array.getElem?_range, if_pos h]
  simp [Nat.mod_one]
theorem oMakeSlice_ok (hT : TabOk P T) {t : Nat} {n c : AV} {g : G} {r : AV × G} {a b : Value} (hn : VR ρ (Dm E g.nx) n a) (hc : VR ρ (Dm E g.nx) c b) (h : oMakeSlice T t n c g = some r) : Does P E ρ g r (Instr.makeSlice t a b) := by
  obtain ⟨s, k, l, rfl, h1⟩ := intOf_some h
  obtain ⟨s', k', m, rfl, h2⟩ := intOf_some h1
  obtain rfl := hn.int_inv
  obtain rfl := hc.int_inv
  obtain ⟨g1, hp, hcc, h3⟩ := chk_some h2
  obtain ⟨i, hi, h4⟩ := ti_some h3
  obtain ⟨info, z, d, e1, e2, e3, he⟩ := hT.ti t i hi
  subst he
  obtain ⟨e, hk, h5⟩ := elem_some h4
  obtain rfl := tk_slice hk
  obtain ⟨ei, hei, h6⟩ := ti_some h5
  obtain ⟨einfo, ez, ed, f1, f2, f3, hee⟩ := hT.ti e ei hei
  have hz := (hT.zi e ei einfo ez ed hei f1 f2 f3).1
  subst hee
  obtain ⟨g2, hp2, hr, h7⟩ := room_some h6
  refine Does.pcL (hp.trans hp2) ?_
  have fin : ∀ x : G, (x.pc → g2.pc) → x.pc → ∀ w : World, (Instr.makeSlice t (.int k l) (.int k' m)).run P w = .ok (.slice (some ⟨w.heap.size, 0, none⟩) l.toNat m.toNat) (w.alloc (.cells (madeCells ez.cells (m.toNat * einfo.size)) e)) ∧ l.toNat ≤ m.toNat := by
    intro x hx p w
    have q := hcc (hp2.pc (hx p))
    have q2 := hr (hx p)
    simp only [ilt_eq, Bool.and_eq_true, Bool.not_eq_true', decide_eq_false_iff_not] at q
    obtain ⟨q3, q4⟩ := q
    simp only [] at q2
    have hm : ((m.toNat : Nat) : Int) = m := by omega
    refine ⟨run_make w t e einfo ez e3 f1 f2 k k' l m (by omega) (by omega) ?_ (by omega), by omega⟩
    have : ((einfo.bytes * m.toNat : Nat) : Int) ≤ 281474976710656 := by rw [Nat.mul_comm]; omega
    rwa [Int.natCast_mul, hm] at this
  unfold mkSl at h7
  split at h7
  · obtain ⟨hnx, h8⟩ := alloc_some h7
    obtain rfl := rok_some h8
    refine ⟨id, Nat.le_succ _, fun p hE w hw => ?_⟩
    obtain ⟨hrun, hle⟩ := fin g2 id p w
    exact ⟨_, _, _, hrun, newCells_eff hw hnx hE (reps_LR _ _ (by rw [hz])), new_sl hle⟩
  · unfold mkNums at h7
    split at h7
    · rename_i kk hkk
      obtain ⟨hzi, h9⟩ := guardB_some h7
      obtain ⟨hnx, h8⟩ := alloc_some h9
      obtain rfl := rok_some h8
      refine ⟨id, Nat.le_succ _, fun p hE w hw => ?_⟩
      obtain ⟨hrun, hle⟩ := fin g2 id p w
      have hz1 := zeroInt_some hzi
      have hs : einfo.size = 1 := by rw [hz1] at hz; exact hz.symm
      refine ⟨_, _, _, hrun, numCells_eff (c := 0) hw hnx hE ?_ (open0 _) ?_, new_sl hle⟩
      · intro i n hx
        have hi := lt_of_get hx
        rw [List.length_replicate] at hi
        rw [List.getElem?_replicate, if_pos hi] at hx
        injection hx with hx
        subst hx
        rw [hz1, hs]
        exact madeCells_one (by omega)
      · intro ρ' _
        have : (madeCells ez.cells (m.toNat * einfo.size)).size = m.toNat := by rw [size_madeCells, hs, Nat.mul_one]
        exact ⟨by rw [this]; simp, fun _ => by rw [this]; simp, fun hh => by cases hh⟩
    · cases h7
end
end Go.Proofs.YtkclgbccnbiojaaGreatDoor.SX

namespace Go.Proofs.YtkclgbccnbiojaaGreatDoor.SX
section
variable {P : Program} {T : Tab} {E : Nat → Prop} {ρ : Rn}
/-- the same for what is seen of a world -/
structure Alike (w w' : World) : Prop where
  os : w'.os = w.os
  tape : w'.tape = w.tape
  output : w'.output = w.output
  heap : w'.heap = w.heap
theorem Eff.alike {ρ' : Rn} {g g' : G} {w w1 w2 : World} (h : Eff P E ρ g w ρ' g' w1) (k : Alike w1 w2) : Eff P E ρ g w ρ' g' w2 :=
  ⟨h.nx, h.ext, h.gr.pc k.heap, ⟨k.os.trans h.fr.os, k.tape.trans h.fr.tape, k.output.trans h.fr.output, by rw [k.heap]; exact h.fr.size, fun i hi hne => by rw [k.heap]; exact h.fr.keep i hi hne, h.fr.own, h.fr.fix⟩⟩
theorem one_cell {e : Nat} {i : TI} {info : TypeInfo} {z : Value} {d : TypeDesc} (hT : TabOk P T) (hi : T.ti.get e = some i) (h1 : P.info? e = some info) (h2 : info.zero = some z) (h3 : P.underlying e = some d) (hd : (tkD d).isAgg = false) : info.size = 1 ∧ z.cells = #[z] := by
  obtain ⟨hz, _, hw⟩ := hT.zi e i info z d hi h1 h2 h3
  have := hw hd
  have e : z.cells = #[z] := by cases z <;> first | rfl | exact absurd rfl (this _)
  refine ⟨?_, e⟩
  rw [e] at hz
  exact hz.symm
theorem isU8_some (hT : TabOk P T) {e : Nat} {x : R AV} {r : AV × G} (h : isU8 T e x = some r) : ∃ info z, P.info? e = some info ∧ info.zero = some z ∧ P.underlying e = some (.int .u8) ∧ info.size = 1 ∧ z.cells = #[z] ∧ x = some r := by
  obtain ⟨i, hi, h1⟩ := ti_some h
  obtain ⟨info, z, d, e1, e2, e3, he⟩ := hT.ti e i hi
  split at h1
  · rename_i hk
    rw [he] at hk
    simp only at hk
    obtain rfl := tk_int hk
    obtain ⟨hs, hc⟩ := one_cell hT hi e1 e2 e3 rfl
    exact ⟨info, z, e1, e2, e3, hs, hc, h1⟩
  · cases h1
theorem bytesCells_get (w : World) (e : TypeId) (s : ByteArray) (i x : Nat) (h : (bts s)[i]? = some x) : (Lib.bytesCells w e s)[i]? = some (.int .u8 (x : Int)) := by
  unfold bts at h
  rw [List.getElem?_map] at h
  cases hb : s.data.toList[i]? with
  | none => rw [hb] at h; cases h
  | some u =>
    rw [hb] at h
    simp only [Option.map_some, Option.some.injEq] at h
    subst h
    have hi : i < s.data.size := by have := lt_of_get hb; simpa using this
    unfold Lib.bytesCells
    rw [Array.getElem?_append_left (by simpa using hi), Array.getElem?_map]
    have : s.data[i]? = some u := by simpa using hb
    rw [this]; rfl
theorem bytesCells_size (w : World) (e : TypeId) (s : ByteArray) : (Lib.bytesCells w e s).size = grownCap w s.size 0 e := by
  have h1 := grownCap_ge w s.size 0 e
  have : s.data.size = s.size := rfl
  simp [Lib.bytesCells]
  omega
theorem bts_length (s : ByteArray) : (bts s).length = s.size := by simp [bts]
theorem bytesWorld_alike (w : World) (e : TypeId) (s : ByteArray) : Alike { w with heap := w.heap.push (.cells (Lib.bytesCells w e s) e ((Lib.bytesCells w e s).size, (Lib.bytesCells w e s).size + 1)) } (Lib.bytesWorld w e s) := by
  refine ⟨rfl, rfl, rfl, ?_⟩
  apply Array.ext_getElem?
  intro i
  simp only
  rw [Array.getElem?_push]
  by_cases h1 : i = w.heap.size
  · subst h1
    rw [if_pos rfl, Lib.bytesWorld_at_new]
  · rw [if_neg h1]
    rcases Nat.lt_or_ge i w.heap.size with h2 | h2
    · rw [Lib.bytesWorld_at_old _ _ _ _ h2]
    · rw [Array.getElem?_eq_none (xs := w.heap) h2, Array.getElem?_eq_none (by rw [Lib.bytesWorld_size]; omega)]
theorem fromStr_ok (hT : TabOk P T) {s d e : Nat} {u : TypeDesc} {x : AV} {g : G} {r : AV × G} {a : Value} (hs : P.underlying s = some u) (hd : P.underlying d = some (.slice e)) (hx : VR ρ (Dm E g.nx) x a) (h : isU8 T e (fromStr e x g) = some r) : Does P E ρ g r (convert s d a) := by
  obtain ⟨info, z, e1, e2, e3, hsz, hzc, h1⟩ := isU8_some hT h
  have room : ∀ (w : World) (s : ByteArray) (ρ' : Rn) (b : Nat), ρ'.c b = grownCap w s.size 0 e → Roomy P ρ' b e s.size true (Lib.bytesCells w e s) := by
    intro w s ρ' b hc
    rw [show Roomy P ρ' b e s.size true (Lib.bytesCells w e s) = _ from rfl]
    refine ⟨by rw [bytesCells_size]; exact grownCap_ge _ _ _ _, fun hh => (by cases hh), fun _ => ⟨info, e1, ?_⟩⟩
    rw [bytesCells_size, hsz, hc, Nat.mul_one]
  have op : ∀ (w : World) (s : ByteArray), Open ((Lib.bytesCells w e s).size, (Lib.bytesCells w e s).size + 1) (Lib.bytesCells w e s).size := fun w s i hi hh => by omega
  unfold fromStr at h1
  split at h1
  · obtain ⟨b, rfl, rfl⟩ := hx.str_inv
    obtain ⟨hn, h2⟩ := alloc_some h1
    obtain rfl := rok_some h2
    refine ⟨id, Nat.le_succ _, fun p hE w hw => ⟨_, _, ρ.set g.nx w.heap.size (grownCap w b.size 0 e), Lib.run_convert_string_bytes w s d e b hs hd e3, Eff.alike (alloc_eff hw hn hE ?_) (bytesWorld_alike w e b), ?_⟩⟩
    · refine .cells e _ true _ _ ?_ (op w b) ?_
      · intro i x hx
        unfold strBytes at hx
        rw [List.getElem?_map] at hx
        cases hb : (bts b)[i]? with
        | none => rw [hb] at hx; cases hx
        | some y =>
          rw [hb] at hx
          simp only [Option.map_some, Option.some.injEq] at hx
          subst hx
          exact ⟨_, bytesCells_get w e b i y hb, .int _ _ _⟩
      · have := room w b (ρ.set g.nx w.heap.size (grownCap w b.size 0 e)) g.nx (Rn.set_c _ _ _ _)
        rw [show (strBytes (bts b)).length = b.size from by simp [strBytes, bts_length]]
        exact this
    · simp only
      rw [bts_length]
      exact new_slu (grownCap_ge _ _ _ _)
  · obtain ⟨b, rfl, rfl⟩ := hx.str_inv
    obtain ⟨hn, h2⟩ := alloc_some h1
    obtain rfl := rok_some h2
    refine ⟨id, Nat.le_succ _, fun p hE w hw => ⟨_, _, ρ.set g.nx w.heap.size (grownCap w b.size 0 e), Lib.run_convert_string_bytes w s d e b hs hd e3, Eff.alike (numCells_eff hw hn hE ?_ (op w b) ?_) (bytesWorld_alike w e b), ?_⟩⟩
    · intro i n hi
      unfold natInts at hi
      rw [List.getElem?_map] at hi
      cases hb : (bts b)[i]? with
      | none => rw [hb] at hi; cases hi
      | some y =>
        rw [hb] at hi
        simp only [Option.map_some, Option.some.injEq] at hi
        subst hi
        exact bytesCells_get w e b i y hb
    · intro ρ' hc
      rw [show (natInts (bts b)).length = b.size from by simp [natInts, bts_length]]
      exact room w b ρ' g.nx hc
    · simp only
      rw [bts_length]
      exact new_slu (grownCap_ge _ _ _ _)
  · cases h1
/-! ### maps -/
theorem put_ok {d : TypeDesc} {k v : AV} {a : Value} {D : Nat → Prop} (hk : VR ρ D k a) (ha : MapKept.IsKey d a) : ∀ (es es' : List (AV × AV)) (ms : List MapEntry) (s : Nat), ER ρ D es ms → putE k v es = some es' →
    (∃ i p m, Instr.findNow d a ms s = some (some (s + i, m.val)) ∧ es[i]? = some p ∧ ms[i]? = some m ∧ m.key = a ∧ es' = es.set i (p.1, v)) ∨ (Instr.findNow d a ms s = some none ∧ es' = es ++ [(k, v)]) := by
  intro es
  induction es with
  | nil =>
    intro es' ms s h hp
    have : ms = [] := List.length_eq_zero_iff.1 h.1.symm
    subst this
    injection hp with hp
    exact .inr ⟨rfl, hp.symm⟩
  | cons p r ih =>
    intro es' ms s h hp
    cases ms with
    | nil => have := h.1; simp at this
    | cons m ms =>
      obtain ⟨h1, h2⟩ := h.2 0 p m rfl rfl
      have e : putE k v (p :: r) = putOne k v p r (putE k v r) := rfl
      rw [e] at hp
      unfold putOne at hp
      split at hp
      · rename_i hq
        injection hp with hp
        have hka := keyEq_yes hk h1 hq
        have := now_eq ha hka
        exact .inl ⟨0, p, m, by simp [Instr.findNow, this], rfl, rfl, hka.symm, hp.symm⟩
      · rename_i hq
        have hn := now_ne hk h1 hq ha
        split at hp
        · rename_i l hl
          injection hp with hp
          subst hp
          rcases ih l ms (s + 1) h.tail hl with ⟨i, p', m', q1, q2, q3, q4, q5⟩ | ⟨q1, q2⟩
          · refine .inl ⟨i + 1, p', m', ?_, by simpa using q2, by simpa using q3, q4, by rw [q5]; rfl⟩
            simp only [Instr.findNow, hn]
            rw [q1, show s + 1 + i = s + (i + 1) from by omega]
          · refine .inr ⟨?_, by rw [q2]; rfl⟩
            simp only [Instr.findNow, hn]
            exact q1
        · cases hp
      · cases hp
theorem setObj_only {w : World} {B : Nat} {o o' : Obj} (h : w.heap[B]? = some o) : Only w { w with heap := w.heap.setIfInBounds B o' } B o' := by
  have hB : B < w.heap.size := (Array.getElem?_eq_some_iff.1 h).1
  refine ⟨rfl, rfl, rfl, by simp, ?_, fun i hi => ?_⟩
  · simp only; rw [Array.getElem?_setIfInBounds_self_of_lt hB]
  · simp only; rw [Array.getElem?_setIfInBounds_ne (fun e => hi e.symm)]
theorem oMapUpdate_ok (hT : TabOk P T) {t : Nat} {m k v : AV} {g : G} {r : Unit × G} {a b c : Value} (hm : VR ρ (Dm E g.nx) m a) (hk : VR ρ (Dm E g.nx) k b) (hv : VR ρ (Dm E g.nx) v c) (h : oMapUpdate T t m k v g = some r) : DoesU P E ρ g r.2 (Instr.mapUpdate t a b c) := by
  obtain ⟨i, hi, h0⟩ := ti_some h
  clear h
  obtain ⟨info, z, d, e1, e2, e3, he⟩ := hT.ti t i hi
  subst he
  simp only at h0
  split at h0
  · rename_i kt e hkk
    obtain rfl := tk_map hkk
    obtain ⟨ki, hki, h1⟩ := ti_some h0
    clear h0
    obtain ⟨kinfo, kz, kd, f1, f2, f3, hke⟩ := hT.ti kt ki hki
    subst hke
    obtain ⟨hfit, h2⟩ := guardB_some h1
    clear h1
    have hkey := keyFit_ok hk hfit
    unfold mapPut at h2
    split at h2
    · rename_i B
      obtain ⟨o, ho, h3⟩ := obj_some h2
      clear h2
      unfold AObj.mapD at h3
      split at h3
      · rename_i es
        obtain ⟨es', hes, h4⟩ := obind_some h3
        clear h3
        obtain rfl := rok_some h4
        have : a = .map (some (ρ.b B)) := by cases hm; rfl
        subst this
        refine ⟨id, Nat.le_refl _, fun p hE w hw => ?_⟩
        obtain ⟨rr, hr, hor⟩ := hw.at_ B _ ho
        cases hor with
        | map es ms hl hEE =>
          have hER : ER ρ (Dm E g.nx) es ms.toList := ⟨by simpa using hl, fun i p m hp hm => by
            obtain ⟨q1, q2, _⟩ := hEE i p m hp (by simpa using hm)
            exact ⟨q1, q2⟩⟩
          rcases put_ok hk hkey es es' ms.toList 0 hER hes with ⟨i, p, m, q1, q2, q3, q4, q5⟩ | ⟨q1, q2⟩
          · have q3' : ms[i]? = some m := by simpa using q3
            refine ⟨{ w with heap := w.heap.setIfInBounds (ρ.b B) (.map (ms.modify i fun e => { e with key := b, val := c }) ms.size) }, ρ, ?_, set_eff hw ho (setObj_only hr) ?_⟩
            · rw [Nat.zero_add] at q1
              simp [Instr.mapUpdate, run_underlying e3, MapKept.run_getObj_map hr, MapKept.run_checkKey f3 hkey _ 9999, MapKept.run_findKey f3 q1, q3', q4, MapKept.run_keyThatStays hkey, MapKept.run_setObj_map _ hr]
            · rw [q5]
              have hsz : (ms.modify i fun e => { e with key := b, val := c }).size = ms.size := by simp
              have := OR.map (P := P) (ρ := ρ) (D := Dm E g.nx) (b := B) (es.set i (p.1, v)) (ms.modify i fun e => { e with key := b, val := c }) (by simpa using hl) (fun j q m' hq hm' => ?_)
              · rw [hsz] at this; exact this
              · rw [List.getElem?_set] at hq
                rw [Array.getElem?_modify] at hm'
                by_cases hj : i = j
                · subst hj
                  have hi : i < es.length := lt_of_get q2
                  rw [if_pos rfl, if_pos hi] at hq
                  rw [if_pos rfl, q3'] at hm'
                  simp only [Option.map_some, Option.some.injEq] at hq hm'
                  subst hq; subst hm'
                  obtain ⟨g1, g2, g3⟩ := hEE i p m q2 q3'
                  rw [q4] at g1
                  exact ⟨g1, hv, g3⟩
                · rw [if_neg hj] at hq hm'
                  exact hEE j q m' hq hm'
          · refine ⟨{ w with heap := w.heap.setIfInBounds (ρ.b B) (.map (ms.push { key := b, val := c, born := ms.size }) (ms.size + 1)) }, ρ, ?_, set_eff hw ho (setObj_only hr) ?_⟩
            · simp [Instr.mapUpdate, run_underlying e3, MapKept.run_getObj_map hr, MapKept.run_checkKey f3 hkey _ 9999, MapKept.run_findKey f3 q1, MapKept.run_setObj_map _ hr]
            · rw [q2]
              have := OR.map (P := P) (ρ := ρ) (D := Dm E g.nx) (b := B) (es ++ [(k, v)]) (ms.push { key := b, val := c, born := ms.size }) (by simp [hl]) (fun j q m' hq hm' => ?_)
              · rw [Array.size_push] at this; exact this
              · rw [Array.getElem?_push] at hm'
                by_cases hj : j = ms.size
                · subst hj
                  rw [if_pos rfl] at hm'
                  rw [List.getElem?_append_right (by omega)] at hq
                  rw [show ms.size - es.length = 0 from by omega] at hq
                  injection hm' with hm'
                  injection hq with hq
                  subst hm'; subst hq
                  exact ⟨hk, hv, rfl⟩
                · rw [if_neg hj] at hm'
                  have hjl : j < es.length := by have := (Array.getElem?_eq_some_iff.1 hm').1; omega
                  rw [List.getElem?_append_left hjl] at hq
                  exact hEE j q m' hq hm'
      · cases h3
    · cases h2
  · cases h0
end
end Go.Proofs.YtkclgbccnbiojaaGreatDoor.SX

namespace Go.Proofs.YtkclgbccnbiojaaGreatDoor.SX
section
variable {P : Program} {T : Tab} {E : Nat → Prop} {ρ : Rn}
/-- what is appended or copied -/
structure Src (P : Program) (w : World) (x : Value) (sz n : Nat) (news : List Value) : Prop where
  len : ∀ w' : World, (Builtin.lenOf x).run P w' = .ok n w'
  size : news.length = n * sz
  cells : ∀ m, m ≤ n → ∀ w' : World, w'.heap = w.heap → (Builtin.firstCells sz m x).run P w' = .ok (news.take (m * sz)).toArray w'
theorem Src.all {w : World} {x : Value} {sz n : Nat} {news : List Value} (h : Src P w x sz n news) {w' : World} (hw : w'.heap = w.heap) : (Builtin.firstCells sz n x).run P w' = .ok news.toArray w' := by
  rw [h.cells n (Nat.le_refl _) w' hw, ← h.size, List.take_length]
theorem cells_first {w : World} {B o e sz m len cap : Nat} {arr : Array Value} {fz : Nat × Nat} {as : List Value} (h : w.heap[B]? = some (.cells arr e fz)) (hl : as.length = m * sz) (ha : ∀ (j : Nat) (v : Value), as[j]? = some v → arr[o + j]? = some v) {w' : World} (hw : w'.heap = w.heap) :
    (Builtin.firstCells sz m (.slice (some ⟨B, o, none⟩) len cap)).run P w' = .ok as.toArray w' := by
  refine run_firstCells_some w' sz m _ len cap as hl (fun j v hj => ?_)
  have h' : w'.heap[B]? = some (.cells arr e fz) := by rw [hw]; exact h
  rw [add_at, cell_at h']
  exact ha j v hj
theorem src_nil (w : World) (sz : Nat) : Src P w (.slice none 0 0) sz 0 [] := ⟨fun w' => rfl, by simp, fun m hm w' _ => by simp [Builtin.firstCells]⟩
theorem src_sl {w : World} {B o e sz n cap : Nat} {arr : Array Value} {fz : Nat × Nat} {as : List Value} (h : w.heap[B]? = some (.cells arr e fz)) (hl : as.length = n * sz) (ha : ∀ (j : Nat) (v : Value), as[j]? = some v → arr[o + j]? = some v) :
    Src P w (.slice (some ⟨B, o, none⟩) n cap) sz n as := by
  refine ⟨fun w' => rfl, hl, fun m hm w' hw => cells_first h ?_ (fun j v hj => ?_) hw⟩
  · have : m * sz ≤ n * sz := Nat.mul_le_mul_right _ hm
    simp; omega
  · rw [List.getElem?_take] at hj
    split at hj
    · exact ha j v hj
    · cases hj
theorem src_str (w : World) (s : ByteArray) : Src P w (.string s) 1 s.size (s.data.toList.map fun b => Value.int .u8 b.toNat) := by
  refine ⟨fun w' => rfl, by simp, fun m hm w' hw => ?_⟩
  simp only [Builtin.firstCells, Sem.run_pure]
  congr 1
  apply Array.toList_inj.1
  simp [List.map_take]
theorem guardB2 {α : Type} {b : Bool} {x : R α} {r : α × G} (h : guardB b x = some r) : b = true ∧ x = some r := guardB_some h
theorem srcOf_ok {D : Nat → Prop} {sz : Nat} {x : AV} {g : G} {f : List AV → Nat → R AV} {r : AV × G} {a : Value} (hx : VR ρ D x a) (h : srcOf sz x g f = some r) :
    ∃ new n, f new n = some r ∧ ∀ w, GR P ρ D g.h.get w → ∃ news, Src P w a sz n news ∧ LR ρ D new news := by
  unfold srcOf at h
  split at h
  · obtain rfl : a = .slice none 0 0 := by cases hx; rfl
    exact ⟨_, _, h, fun w hw => ⟨[], src_nil w sz, LR.nil _ _⟩⟩
  · obtain ⟨hs, h1⟩ := guardB_some h
    obtain rfl := beq_iff.1 hs
    obtain ⟨b, rfl, rfl⟩ := hx.str_inv
    refine ⟨_, _, h1, fun w hw => ⟨_, by rw [bts_length]; exact src_str w b, ?_⟩⟩
    refine ⟨by simp [strBytes, bts], fun i x y hx hy => ?_⟩
    simp only [strBytes, bts, List.map_map, List.getElem?_map] at hx hy
    cases hb : b.data.toList[i]? with
    | none => rw [hb] at hx; cases hx
    | some u =>
      rw [hb] at hx hy
      simp at hx hy
      subst hx; subst hy
      exact .int _ _ _
  · rename_i b o n c
    obtain ⟨ob, hob, h1⟩ := obj_some h
    unfold srcO at h1
    split at h1
    · rename_i e cs gr
      obtain ⟨hl, h2⟩ := guardB_some h1
      refine ⟨_, _, h2, fun w hw => ?_⟩
      obtain ⟨rr, hr, hor⟩ := hw.at_ b _ hob
      cases hor with
      | cells e cs gr arr fz hR hO hRm =>
        obtain ⟨as, hal, hL, hg⟩ := hR.seg (ble_iff.1 hl)
        refine ⟨as, ?_, hL⟩
        cases hx with
        | slk s b o n c h hn => exact src_sl hr hal hg
        | slu s b o n k h hn => exact src_sl hr hal hg
    · cases h1
  · cases h
theorem intsOf_ok {D : Nat → Prop} {k : IntKind} : ∀ {cs : List AV} {l : List Int} {as : List Value}, LR ρ D cs as → intsOf k cs = some l → as = l.map (Value.int k) := by
  intro cs
  induction cs with
  | nil =>
    intro l as hL h
    injection h with h
    subst h
    exact List.length_eq_zero_iff.1 hL.1.symm
  | cons c r ih =>
    intro l as hL h
    have e : intsOf k (c :: r) = intCons k c (intsOf k r) := rfl
    rw [e] at h
    unfold intCons at h
    split at h
    · rename_i s k' n
      split at h
      · rename_i l' hl'
        cases hk : kindEq k k' with
        | false => rw [hk] at h; cases h
        | true =>
          rw [hk] at h
          injection h with h
          subst h
          obtain rfl := kindEq_iff.1 hk
          cases as with
          | nil => have := hL.1; simp at this
          | cons a as =>
            have h0 := hL.2 0 _ a rfl rfl
            obtain rfl := h0.int_inv
            have hT : LR ρ D r as := ⟨by have := hL.1; simpa using this, fun i x a hx ha => hL.2 (i + 1) x a (by simpa using hx) (by simpa using ha)⟩
            rw [ih hT hl']; rfl
      · cases h
    · cases h
theorem nsrcOf_ok {D : Nat → Prop} {k : IntKind} {x : AV} {g : G} {f : List Int → Nat → G → R AV} {r : AV × G} {a : Value} (hx : VR ρ D x a) (h : nsrcOf k x g f = some r) :
    ∃ new n g1, Pc g g1 ∧ f new n g1 = some r ∧ (g1.pc → ∀ w, GR P ρ D g.h.get w → Src P w a 1 n (new.map (Value.int k))) := by
  unfold nsrcOf at h
  split at h
  · obtain rfl : a = .slice none 0 0 := by cases hx; rfl
    exact ⟨_, _, g, .refl g, h, fun _ w hw => src_nil w 1⟩
  · obtain ⟨hs, h1⟩ := guardB_some h
    obtain rfl := kindEq_iff.1 hs
    obtain ⟨b, rfl, rfl⟩ := hx.str_inv
    refine ⟨_, _, g, .refl g, h1, fun _ w hw => ?_⟩
    have := src_str (P := P) w b
    rw [bts_length]
    simpa [natInts, bts, Function.comp_def] using this
  · rename_i s b o n c
    obtain ⟨ob, hob, h1⟩ := obj_some h
    have key : ∀ (w : World) (arr : Array Value) (e : Nat) (fz : Nat × Nat) (as : List Value), w.heap[ρ.b b]? = some (.cells arr e fz) → as.length = n → (∀ (j : Nat) (v : Value), as[j]? = some v → arr[o + j]? = some v) → Src P w a 1 n as := by
      intro w arr e fz as hr hl hg
      cases hx with
      | slk s b o n c h hn => exact src_sl hr (by omega) hg
      | slu s b o n k h hn => exact src_sl hr (by omega) hg
    unfold nsrcO at h1
    split at h1
    · rename_i e cs gr
      obtain ⟨hl, h2⟩ := guardB_some h1
      obtain ⟨l, hl2, h3⟩ := obind_some h2
      refine ⟨_, _, g, .refl g, h3, fun _ w hw => ?_⟩
      obtain ⟨rr, hr, hor⟩ := hw.at_ b _ hob
      cases hor with
      | cells e cs gr arr fz hR hO hRm =>
        obtain ⟨as, hal, hL, hg⟩ := hR.seg (ble_iff.1 hl)
        rw [← intsOf_ok hL hl2]
        exact key w arr e fz as hr hal hg
    · rename_i e k' xs gr
      obtain ⟨hk, h2⟩ := guardB_some h1
      obtain rfl := kindEq_iff.1 hk
      obtain ⟨g1, hp, hc, h3⟩ := chk_some h2
      refine ⟨_, _, g1, hp, h3, fun p w hw => ?_⟩
      obtain ⟨rr, hr, hor⟩ := hw.at_ b _ hob
      have hle : o + n ≤ xs.length := ble_iff.1 (hc p)
      cases hor with
      | nums e k xs gr arr fz hR hO hRm =>
        refine key w arr e fz _ hr (by simp; omega) (fun j v hj => ?_)
        rw [List.getElem?_map, List.getElem?_take] at hj
        split at hj
        · rw [List.getElem?_drop] at hj
          cases hxs : xs[o + j]? with
          | none => rw [hxs] at hj; cases hj
          | some y =>
            rw [hxs] at hj
            simp only [Option.map_some, Option.some.injEq] at hj
            subst hj
            obtain ⟨v', hv', hvr⟩ := hR (o + j) (.int true k y) (by rw [List.getElem?_map, hxs]; rfl)
            obtain rfl := hvr.int_inv
            exact hv'
        · cases hj
    · cases h1
  · cases h
/-! ### append -/
theorem run_append_in {ts : Array TypeId} {t u ty e : Nat} {du : TypeDesc} {i : TypeInfo} {w w' : World} {A : Addr} {len cap n : Nat} {x : Value} {news : List Value} (h0 : ts[0]? = some t) (h1 : ts[1]? = some u) (ht : P.underlying t = some (.slice e)) (hu : P.underlying u = some du) (hd : du = .string ∨ ∃ e', du = .slice e')
    (hi : P.info? e = some i) (hs : Src P w x i.size n news) (hle : len + n ≤ cap) (hst : (storeCells (A.add (len * i.size)) news).run P w = .ok () w') :
    (Builtin.append_ ts ty #[.slice (some A) len cap, x]).run P w = .ok (.slice (some A) (len + n) cap) w' := by
  have hl := hs.len w
  have hc := hs.all (w' := w) rfl
  rcases hd with rfl | ⟨e', rfl⟩ <;> simp [Builtin.append_, h0, h1, run_underlying ht, run_underlying hu, run_size hi, hl, hle, hc, hst]
theorem run_append_nil0 {ts : Array TypeId} {t u ty e : Nat} {du : TypeDesc} {i : TypeInfo} {w : World} {x : Value} {news : List Value} (h0 : ts[0]? = some t) (h1 : ts[1]? = some u) (ht : P.underlying t = some (.slice e)) (hu : P.underlying u = some du) (hd : du = .string ∨ ∃ e', du = .slice e')
    (hi : P.info? e = some i) (hs : Src P w x i.size 0 news) : (Builtin.append_ ts ty #[.slice none 0 0, x]).run P w = .ok (.slice none 0 0) w := by
  have hl := hs.len w
  have hc := hs.all (w' := w) rfl
  rcases hd with rfl | ⟨e', rfl⟩ <;> simp [Builtin.append_, h0, h1, run_underlying ht, run_underlying hu, run_size hi, hl, hc]
theorem run_append_new {ts : Array TypeId} {t u ty e : Nat} {du : TypeDesc} {i : TypeInfo} {z : Value} {w : World} {base : Option Addr} {len cap n : Nat} {x : Value} {olds news : List Value} (h0 : ts[0]? = some t) (h1 : ts[1]? = some u) (ht : P.underlying t = some (.slice e)) (hu : P.underlying u = some du) (hd : du = .string ∨ ∃ e', du = .slice e')
    (hi : P.info? e = some i) (hz : i.zero = some z) (hs : Src P w x i.size n news) (ho : ∀ w' : World, w'.heap = w.heap → (Builtin.firstCells i.size len (.slice base len cap)).run P w' = .ok olds.toArray w') (hgt : cap < len + n)
    (h63 : len + n ≤ 9223372036854775807) (hb : (len + n) * i.bytes ≤ 140737488355328) :
    (Builtin.append_ ts ty #[.slice base len cap, x]).run P w = .ok (.slice (some ⟨w.heap.size, 0, none⟩) (len + n) (grownCap w (len + n) cap e)) (w.drew.alloc (.cells (olds.toArray ++ news.toArray ++ Builtin.zeroCells z.cells (grownCap w (len + n) cap e - (len + n))) e)) := by
  have hl := hs.len w
  have hc := hs.all (w' := w.drew) rfl
  have hold := ho w.drew rfl
  have hn : ¬ (len + n ≤ cap) := by omega
  have h63' : ¬ (9223372036854775807 < ((len : Int) + (n : Int))) := by omega
  have h48' : ¬ (281474976710656 < Builtin.nextslicecap (len + n) cap * i.bytes) := by have := growslice_fits hgt hb; omega
  rcases hd with rfl | ⟨e', rfl⟩ <;> (simp [Builtin.append_, h0, h1, run_underlying ht, run_underlying hu, run_size hi, run_info hi, run_zero hi hz, hl, hn, h63', h48', Question.forced, newRow, grownCap, hc, hold]; congr 2; rw [← Array.append_assoc]; simp)
end
end Go.Proofs.YtkclgbccnbiojaaGreatDoor.SX

namespace Go.Proofs.YtkclgbccnbiojaaGreatDoor.SX
section
variable {P : Program} {T : Tab} {E : Nat → Prop} {ρ : Rn}
theorem new_use {g : G} {n c : Nat} {E : Nat → Prop} (hE : ∀ b, E b → g.nx + 1 ≤ b) : ∀ b, Dm E g.nx b → Dm E (g.nx + 1) b ∧ (ρ.set g.nx n c).b b = ρ.b b ∧ (ρ.set g.nx n c).c b = ρ.c b := fun b hb => ⟨hb.mono (Nat.le_succ _), Rn.set_ne (fun e => by
    subst e
    rcases hb with hb | hb
    · omega
    · have := hE _ hb; omega)⟩
/-- what stands in front is read -/
theorem read_prefix {D : Nat → Prop} {cs : List AV} {as : List Value} {arr : Array Value} (hL : LR ρ D cs as) (h : ∀ (j : Nat) (v : Value), as[j]? = some v → arr[j]? = some v) : ReadL ρ D cs arr := fun i x hx => by
  obtain ⟨a, ha, hv⟩ := hL.get hx
  exact ⟨a, h i a ha, hv⟩
theorem grown_front {olds news : List Value} {Z : Array Value} (j : Nat) (v : Value) (h : (olds ++ news)[j]? = some v) : (olds.toArray ++ news.toArray ++ Z)[j]? = some v := by
  have hj := lt_of_get h
  rw [Array.getElem?_append_left (by simpa using hj)]
  simpa using h
theorem grown_size {olds news : List Value} {z : Array Value} {need cap sz : Nat} (hl : (olds ++ news).length = need * sz) (hz : z.size = sz) (hc : need ≤ cap) : (olds.toArray ++ news.toArray ++ Builtin.zeroCells z (cap - need)).size = cap * sz := by
  simp only [Array.size_append, List.size_toArray, size_zeroCells, hz]
  rw [List.length_append] at hl
  rw [hl, ← Nat.add_mul]
  congr 1; omega
/-- a row of cells that has grown -/
theorem grow_eff {g : G} {w : World} {e need old : Nat} {cs : List AV} {olds news : List Value} {info : TypeInfo} {z : Value} (hG : GR P ρ (Dm E g.nx) g.h.get w) (hn : g.nx < 16000000) (hE : ∀ b, E b → g.nx + 1 ≤ b) (hL : LR ρ (Dm E g.nx) cs (olds ++ news)) (hl : (olds ++ news).length = need * info.size) (hi : P.info? e = some info) (hz : z.cells.size = info.size) :
    Eff P E ρ g w (ρ.set g.nx w.heap.size (grownCap w need old e)) { g with h := g.h.put g.nx (some (.cells e cs true)), nx := g.nx + 1 } (w.drew.alloc (.cells (olds.toArray ++ news.toArray ++ Builtin.zeroCells z.cells (grownCap w need old e - need)) e)) := by
  have hsz := grown_size (z := z.cells) hl hz (grownCap_ge w need old e)
  refine Eff.alike (alloc_eff (r := .cells (olds.toArray ++ news.toArray ++ Builtin.zeroCells z.cells (grownCap w need old e - need)) e) hG hn hE ?_) ⟨rfl, rfl, rfl, rfl⟩
  refine .cells e cs true _ (0, 0) ((read_prefix hL grown_front).mono (new_use hE)) (open0 _) ⟨?_, fun hh => (by cases hh), fun _ => ⟨info, hi, ?_⟩⟩
  · rw [hsz, hL.1, hl]; exact Nat.mul_le_mul_right _ (grownCap_ge _ _ _ _)
  · rw [hsz, Rn.set_c]
theorem growN_eff {g : G} {w : World} {e need old : Nat} {k : IntKind} {xs : List Int} {olds news : List Value} {info : TypeInfo} {z : Value} (hG : GR P ρ (Dm E g.nx) g.h.get w) (hn : g.nx < 16000000) (hE : ∀ b, E b → g.nx + 1 ≤ b) (hL : olds ++ news = xs.map (Value.int k)) (hl : xs.length = need) (hi : P.info? e = some info) (hs : info.size = 1) (hz : z.cells.size = info.size) :
    Eff P E ρ g w (ρ.set g.nx w.heap.size (grownCap w need old e)) { g with h := g.h.put g.nx (some (.nums e k xs true)), nx := g.nx + 1 } (w.drew.alloc (.cells (olds.toArray ++ news.toArray ++ Builtin.zeroCells z.cells (grownCap w need old e - need)) e)) := by
  have hll : (olds ++ news).length = need * info.size := by rw [hL, List.length_map, hl, hs, Nat.mul_one]
  have hsz := grown_size (z := z.cells) hll hz (grownCap_ge w need old e)
  refine Eff.alike (numCells_eff (c := grownCap w need old e) hG hn hE (fun i n hx => grown_front i _ (by rw [hL, List.getElem?_map, hx]; rfl)) (open0 _) ?_) ⟨rfl, rfl, rfl, rfl⟩
  intro ρ' hc
  rw [hs, Nat.mul_one] at hsz
  refine ⟨by rw [hsz, hl]; exact grownCap_ge _ _ _ _, fun hh => (by cases hh), fun _ => ⟨info, hi, ?_⟩⟩
  rw [hsz, hc, hs, Nat.mul_one]
theorem appNew_some {e n bytes : Nat} {cs : List AV} {g : G} {r : AV × G} (h : appNew e cs n bytes g = some r) : ∃ g1, Pc g g1 ∧ (g1.pc → n * bytes ≤ 140737488355328 ∧ n ≤ 140737488355328) ∧ g1.nx < 16000000 ∧ r = (.sl false g1.nx 0 n (.un 0), { g1 with h := g1.h.put g1.nx (some (.cells e cs true)), nx := g1.nx + 1 }) := by
  obtain ⟨g1, hp, hr, h1⟩ := room_some h
  obtain ⟨hn, h2⟩ := alloc_some h1
  exact ⟨g1, hp, hr, hn, rok_some h2⟩
theorem nappNew_some {e n bytes : Nat} {k : IntKind} {xs : List Int} {g : G} {r : AV × G} (h : nappNew e k xs n bytes g = some r) : ∃ g1, Pc g g1 ∧ (g1.pc → n * bytes ≤ 140737488355328 ∧ n ≤ 140737488355328) ∧ g1.nx < 16000000 ∧ r = (.sl true g1.nx 0 n (.un 0), { g1 with h := g1.h.put g1.nx (some (.nums e k xs true)), nx := g1.nx + 1 }) := by
  obtain ⟨g1, hp, hr, h1⟩ := room_some h
  obtain ⟨hn, h2⟩ := alloc_some h1
  exact ⟨g1, hp, hr, hn, rok_some h2⟩
/-- what is the same at every append -/
structure AppAt (P : Program) (ts : Array TypeId) (t u e : Nat) (du : TypeDesc) (i : TypeInfo) (z : Value) : Prop where
  h0 : ts[0]? = some t
  h1 : ts[1]? = some u
  ht : P.underlying t = some (.slice e)
  hu : P.underlying u = some du
  hd : du = .string ∨ ∃ e', du = .slice e'
  hi : P.info? e = some i
  hz : i.zero = some z
  hs : z.cells.size = i.size
variable {ts : Array TypeId} {t u ty e : Nat} {du : TypeDesc} {info : TypeInfo} {z : Value}
theorem appNew_does {n len cap bytes : Nat} {base : Option Addr} {cs new : List AV} {g : G} {r : AV × G} {x : Value} {n' : Nat} (A : AppAt P ts t u e du info z) (hb : bytes = info.bytes) (hn : n = len + n') (hgt : cap < len + n') (h : appNew e (cs ++ new) n bytes g = some r)
    (hsrc : g.pc → ∀ w, GR P ρ (Dm E g.nx) g.h.get w → ∃ olds news, Src P w x info.size n' news ∧ LR ρ (Dm E g.nx) new news ∧ LR ρ (Dm E g.nx) cs olds ∧ cs.length = len * info.size ∧ ∀ w' : World, w'.heap = w.heap → (Builtin.firstCells info.size len (.slice base len cap)).run P w' = .ok olds.toArray w') :
    Does P E ρ g r (Builtin.append_ ts ty #[.slice base len cap, x]) := by
  subst hb hn
  obtain ⟨g1, hp, hr, hnx, rfl⟩ := appNew_some h
  refine Does.pcL hp ⟨id, Nat.le_succ _, fun p hE w hw => ?_⟩
  obtain ⟨olds, news, q1, q2, q3, q4, q5⟩ := hsrc (hp.pc p) w (by rw [← hp.nx, ← hp.h]; exact hw)
  obtain ⟨r1, r2⟩ := hr p
  rw [← hp.nx] at q2 q3
  refine ⟨_, _, _, run_append_new A.h0 A.h1 A.ht A.hu A.hd A.hi A.hz q1 q5 hgt (by omega) (by omega), grow_eff hw hnx hE (q3.append q2) ?_ A.hi A.hs, new_slu (grownCap_ge _ _ _ _)⟩
  rw [List.length_append, ← q3.1, q4, q1.size, Nat.add_mul]
theorem nappNew_does {n len cap bytes : Nat} {base : Option Addr} {k : IntKind} {xs new : List Int} {g : G} {r : AV × G} {x : Value} {n' : Nat} (A : AppAt P ts t u e du info z) (hs1 : info.size = 1) (hb : bytes = info.bytes) (hn : n = len + n') (hgt : cap < len + n') (h : nappNew e k (xs ++ new) n bytes g = some r)
    (hsrc : g.pc → ∀ w, GR P ρ (Dm E g.nx) g.h.get w → xs.length = len ∧ Src P w x 1 n' (new.map (Value.int k)) ∧ ∀ w' : World, w'.heap = w.heap → (Builtin.firstCells 1 len (.slice base len cap)).run P w' = .ok (xs.map (Value.int k)).toArray w') :
    Does P E ρ g r (Builtin.append_ ts ty #[.slice base len cap, x]) := by
  subst hb hn
  obtain ⟨g1, hp, hr, hnx, rfl⟩ := nappNew_some h
  refine Does.pcL hp ⟨id, Nat.le_succ _, fun p hE w hw => ?_⟩
  obtain ⟨q0, q1, q5⟩ := hsrc (hp.pc p) w (by rw [← hp.nx, ← hp.h]; exact hw)
  obtain ⟨r1, r2⟩ := hr p
  rw [← hs1] at q1 q5
  refine ⟨_, _, _, run_append_new A.h0 A.h1 A.ht A.hu A.hd A.hi A.hz q1 q5 hgt (by omega) (by omega), growN_eff hw hnx hE (by rw [List.map_append]) ?_ A.hi hs1 A.hs, new_slu (grownCap_ge _ _ _ _)⟩
  have := q1.size
  rw [hs1] at this
  simp at this
  simp; omega
theorem appNil_ok (A : AppAt P ts t u e du info z) {ek : TK} (hek : ∀ k, ek = .int k → info.size = 1) {x : AV} {g : G} {r : AV × G} {b : Value} (hx : VR ρ (Dm E g.nx) x b) (h : appNil e info.size info.bytes ek x g = some r) : Does P E ρ g r (Builtin.append_ ts ty #[.slice none 0 0, b]) := by
  unfold appNil at h
  split at h
  · rename_i bb
    split at h
    · rename_i k
      obtain ⟨hk, h1⟩ := guardB_some h
      obtain rfl := kindEq_iff.1 hk
      obtain ⟨s, rfl, rfl⟩ := hx.str_inv
      have hs1 := hek _ rfl
      have hsrc : ∀ w : World, Src P w (.string s) 1 (bts s).length ((natInts (bts s)).map (Value.int .u8)) := fun w => by
        have := src_str (P := P) w s
        rw [bts_length]
        simpa [natInts, bts, Function.comp_def] using this
      obtain ⟨zz, g1, hp, hc, h2⟩ := test_some h1
      cases zz with
      | true =>
        obtain rfl := rok_some h2
        refine Does.pcL hp ⟨id, Nat.le_refl _, fun p hE w hw => ⟨_, w, ρ, run_append_nil0 (news := (natInts (bts s)).map (Value.int .u8)) A.h0 A.h1 A.ht A.hu A.hd A.hi ?_, .refl hw, .nils⟩⟩
        have := hsrc w
        rw [beq_iff.1 (hc p), ← hs1] at this
        exact this
      | false =>
        simp only at h2
        refine Does.pcL hp ⟨?_, ?_, fun p => ?_⟩
        · obtain ⟨g2, hp2, _, _, rfl⟩ := nappNew_some h2; exact hp2.pc
        · obtain ⟨g2, hp2, _, _, rfl⟩ := nappNew_some h2; simp only; rw [hp2.nx]; exact Nat.le_succ _
        · have hpos : 0 < 0 + (bts s).length := by
            have : g1.pc := by obtain ⟨g2, hp2, _, _, rfl⟩ := nappNew_some h2; exact hp2.pc p
            have := hc this
            rcases Nat.eq_zero_or_pos (bts s).length with h0 | h0
            · rw [h0] at this; cases this
            · omega
          exact (nappNew_does (ρ := ρ) (E := E) (ty := ty) (xs := []) (len := 0) (cap := 0) (base := none) A hs1 rfl (by omega) hpos h2 (fun _ w hw => ⟨rfl, hsrc w, fun w' _ => run_firstCells_none w' 1 0 0 0⟩)).2.2 p
    · cases h
  · obtain ⟨new, n, h1, hsrc⟩ := srcOf_ok hx h
    cases hn : n.beq 0 with
    | true =>
      rw [hn] at h1
      obtain rfl := beq_iff.1 hn
      obtain rfl := rok_some h1
      refine ⟨id, Nat.le_refl _, fun p hE w hw => ?_⟩
      obtain ⟨news, q1, q2⟩ := hsrc w hw
      exact ⟨_, w, ρ, run_append_nil0 A.h0 A.h1 A.ht A.hu A.hd A.hi q1, .refl hw, .nils⟩
    | false =>
      rw [hn] at h1
      have hpos : 0 < 0 + n := by
        rcases Nat.eq_zero_or_pos n with h0 | h0
        · rw [h0] at hn; cases hn
        · omega
      refine appNew_does (cs := []) (len := 0) (cap := 0) (base := none) A rfl (by omega) hpos h1 (fun _ w hw => ?_)
      obtain ⟨news, q1, q2⟩ := hsrc w hw
      exact ⟨[], news, q1, q2, LR.nil _ _, by simp, fun w' _ => run_firstCells_none w' _ _ _ _⟩
end
end Go.Proofs.YtkclgbccnbiojaaGreatDoor.SX

namespace Go.Proofs.YtkclgbccnbiojaaGreatDoor.SX
section
variable {P : Program} {T : Tab} {E : Nat → Prop} {ρ : Rn}
variable {ts : Array TypeId} {t u ty e : Nat} {du : TypeDesc} {info : TypeInfo} {z : Value}
theorem appKn_ok (A : AppAt P ts t u e du info z) {b o len c e' : Nat} {cs new : List AV} {gr : Bool} {n : Nat} {g : G} {r : AV × G} {x : Value} (hb : g.h.get b = some (.cells e' cs gr)) (hlc : len ≤ c) (hD : Dm E g.nx b)
    (hsrc : ∀ w, GR P ρ (Dm E g.nx) g.h.get w → ∃ news, Src P w x info.size n news ∧ LR ρ (Dm E g.nx) new news) (h : appKn e info.size info.bytes b o len c e' cs gr new n g = some r) :
    Does P E ρ g r (Builtin.append_ ts ty #[.slice (some ⟨ρ.b b, o, none⟩) len c, x]) := by
  obtain ⟨hall, h1⟩ := guardB_some h
  clear h
  cases hc : (len + n).ble c with
  | true =>
    rw [hc, cond_true] at h1
    obtain ⟨hl, h2⟩ := guardB_some h1
    clear h1
    obtain rfl := rok_some h2
    have hle : len + n ≤ c := ble_iff.1 hc
    have hl2 : o + len * info.size + new.length ≤ cs.length := ble_iff.1 hl
    refine ⟨id, Nat.le_refl _, fun p hE w hw => ?_⟩
    obtain ⟨news, q1, q2⟩ := hsrc w hw
    obtain ⟨rr, hr, hor⟩ := hw.at_ b _ hb
    cases hor with
    | cells e' cs gr arr fz hR hO hRm =>
      obtain ⟨w', hrun, hon⟩ := run_stores (P := P) news w (ρ.b b) (o + len * info.size) 0 e' arr fz hr hO (by have := hRm.1; rw [← q2.1]; omega) (all_one q2 hall)
      refine ⟨_, w', ρ, run_append_in A.h0 A.h1 A.ht A.hu A.hd A.hi q1 hle (by rw [add_at]; exact hrun), set_eff hw hb hon ?_, .slk _ _ _ _ _ hD hle⟩
      have hpl := putSeg_length hl2
      exact .cells e' _ gr _ fz (hR.put q2 hl2 hRm.1) (by rw [putAt_size]; exact hO) ⟨by rw [putAt_size, hpl]; exact hRm.1, fun hg => by rw [putAt_size, hpl]; exact hRm.2.1 hg, fun hg => by rw [putAt_size]; exact hRm.2.2 hg⟩
  | false =>
    rw [hc, cond_false] at h1
    obtain ⟨hl, h2⟩ := guardB_some h1
    have hgt : c < len + n := by
      rcases Nat.lt_or_ge c (len + n) with h0 | h0
      · exact h0
      · rw [ble_iff.2 h0] at hc; cases hc
    refine appNew_does A rfl rfl hgt h2 (fun _ w hw => ?_)
    obtain ⟨news, q1, q2⟩ := hsrc w hw
    obtain ⟨rr, hr, hor⟩ := hw.at_ b _ hb
    cases hor with
    | cells e' cs gr arr fz hR hO hRm =>
      obtain ⟨as, hal, hL, hg⟩ := hR.seg (ble_iff.1 hl)
      exact ⟨as, news, q1, q2, hL, by rw [hL.1, hal], fun w' hw' => cells_first hr hal hg hw'⟩
/-- a row with what is behind it -/
theorem put_end {D : Nat → Prop} {cs new : List AV} {arr : Array Value} {vs : List Value} {o : Nat} (h : ReadL ρ D cs arr) (hn : LR ρ D new vs) (hl : cs.length = o) (hs : o + new.length ≤ arr.size) : ReadL ρ D (cs ++ new) (putAt arr o vs) := by
  intro q x hq
  rw [putAt_get _ _ _ (by rw [← hn.1]; exact hs)]
  by_cases h1 : q < o
  · rw [List.getElem?_append_left (by omega)] at hq
    rw [if_pos h1]; exact h q x hq
  · rw [List.getElem?_append_right (by omega), hl] at hq
    have := lt_of_get hq
    rw [if_neg h1, if_pos (by rw [← hn.1]; omega)]
    exact hn.get hq
/-- a row is given up for its successor, in the same block -/
theorem next_eff {g g1 : G} {w w' : World} {b : Nat} {o0 o : AObj} {r : Obj} (hp : Pc (g.set b none) g1) (hG : GR P ρ (Dm E g.nx) g.h.get w) (hb : g.h.get b = some o0) (hn : g1.nx < 16000000) (hE : ∀ b, E b → g1.nx + 1 ≤ b) (hw : Only w w' (ρ.b b) r) (ho : OR P ρ (Dm E g.nx) b o r)
    (hself : ∀ ρ' : Rn, ρ'.c g.nx = ρ.c b → OR P ρ' (Dm E (g.nx + 1)) b o r → OR P ρ' (Dm E (g.nx + 1)) g.nx o r) (hfx0 : o0.fixed = false := by rfl) (hfo : o.fixed = false := by rfl) :
    Eff P E ρ g w (ρ.set g.nx (ρ.b b) (ρ.c b)) { g1 with h := g1.h.put g1.nx (some o), nx := g1.nx + 1 } w' ∧ g1.nx = g.nx := by
  have hnx : g1.nx = g.nx := hp.nx
  have hh : g1.h = g.h.put b none := hp.h
  have hE' : ∀ b, E b → g.nx + 1 ≤ b := fun b hb => by rw [← hnx]; exact hE b hb
  have hD := (hG.dom b o0 hb).1
  have hbn : b ≠ g.nx := fun e => by
    rcases hD with hd | hd
    · omega
    · have := hE' _ hd; omega
  have hs := swap_eff (o := o) hG hb (by rw [← hnx]; exact hn) hE' hbn hw (hself _ (Rn.set_c _ _ _ _) (ho.mono (new_use hE') (Rn.set_ne hbn).2)) hfx0 hfo
  refine ⟨hs.pcR ⟨?_, ?_, hp.pc⟩, hnx⟩
  · show g1.h.put g1.nx (some o) = _
    rw [hh, hnx]; rfl
  · show g1.nx + 1 = _
    rw [hnx]
theorem new_here {g : G} {b n k : Nat} {s : Bool} (h : n ≤ ρ.c b) : VR (ρ.set g.nx (ρ.b b) (ρ.c b)) (Dm E (g.nx + 1)) (.sl s g.nx 0 n (.un 0)) (.slice (some ⟨ρ.b b, 0, none⟩) n (ρ.c b)) := by
  have := VR.slu (ρ := ρ.set g.nx (ρ.b b) (ρ.c b)) (D := Dm E (g.nx + 1)) s g.nx 0 n 0 (.inl (Nat.lt_succ_self _)) (by rw [Rn.set_c]; omega)
  rw [Rn.set_b, Rn.set_c] at this
  exact this
theorem appUn_ok (A : AppAt P ts t u e du info z) {b o len k e' : Nat} {cs new : List AV} {gr : Bool} {n : Nat} {g : G} {r : AV × G} {x : Value} (hb : g.h.get b = some (.cells e' cs gr))
    (hsrc : ∀ w, GR P ρ (Dm E g.nx) g.h.get w → ∃ news, Src P w x info.size n news ∧ LR ρ (Dm E g.nx) new news) (h : appUn e info.size info.bytes b o len k e' cs gr new n g = some r) :
    Does P E ρ g r (Builtin.append_ ts ty #[.slice (some ⟨ρ.b b, o, none⟩) len (ρ.c b - k), x]) := by
  obtain ⟨hall, h1⟩ := guardB_some h
  simp only [Bool.and_eq_true, beq_iff] at hall
  obtain ⟨hone, ⟨⟨⟨rfl, rfl⟩, rfl⟩, hcl⟩, rfl⟩ := hall
  obtain ⟨g1, hp, hr, hnx, rfl⟩ := appNew_some h1
  refine ⟨hp.pc, by show g.nx ≤ g1.nx + 1; rw [hp.nx]; exact Nat.le_succ _, fun p hE w hw => ?_⟩
  obtain ⟨news, q1, q2⟩ := hsrc w hw
  obtain ⟨rr, hrr, hor⟩ := hw.at_ b _ hb
  obtain ⟨r1, r2⟩ := hr p
  simp only [Nat.sub_zero]
  cases hor with
  | cells e cs gr arr fz hR hO hRm =>
    obtain ⟨i2, hi2, hsz⟩ := hRm.2.2 rfl
    obtain rfl : i2 = info := by rw [A.hi] at hi2; injection hi2 with hi2; exact hi2.symm
    by_cases hle : len + n ≤ ρ.c b
    · have hfit : len * i2.size + new.length ≤ arr.size := by
        rw [hsz, q2.1, q1.size, ← Nat.add_mul]; exact Nat.mul_le_mul_right _ hle
      obtain ⟨w', hrun, hon⟩ := run_stores (P := P) news w (ρ.b b) (len * i2.size) 0 e arr fz hrr hO (by rw [← q2.1]; exact hfit) (all_one q2 hone)
      have hOR : OR P ρ (Dm E g.nx) b (.cells e (cs ++ new) true) (.cells (putAt arr (len * i2.size) news) e fz) :=
        .cells e _ true _ fz (put_end hR q2 hcl hfit) (by rw [putAt_size]; exact hO) ⟨by rw [putAt_size, List.length_append, hcl]; exact hfit, fun hh => (by cases hh), fun _ => ⟨i2, A.hi, by rw [putAt_size]; exact hsz⟩⟩
      obtain ⟨he, hn1⟩ := next_eff (E := E) hp hw hb hnx hE hon hOR (fun ρ' hc ho => by
        cases ho with
        | cells e cs gr arr fz hR hO hRm => exact .cells e _ true _ fz hR hO ⟨hRm.1, hRm.2.1, fun hh => by
            obtain ⟨i, f1, f2⟩ := hRm.2.2 hh
            obtain rfl : i = i2 := by rw [A.hi] at f1; injection f1 with f1; exact f1.symm
            exact ⟨i, f1, by rw [hc, putAt_size]; exact hsz⟩⟩)
      refine ⟨_, w', _, run_append_in A.h0 A.h1 A.ht A.hu A.hd A.hi q1 hle (by rw [add_at, Nat.zero_add]; exact hrun), he, ?_⟩
      show VR _ (Dm E (g1.nx + 1)) (.sl false g1.nx 0 _ (.un 0)) _
      rw [hn1]
      exact new_here (k := 0) hle
    · have hgt : ρ.c b < len + n := by omega
      have hold : ∀ w' : World, w'.heap = w.heap → (Builtin.firstCells i2.size len (.slice (some ⟨ρ.b b, 0, none⟩) len (ρ.c b))).run P w' = .ok ((arr.toList).take (len * i2.size)).toArray w' := by
        intro w' hw'
        refine cells_first hrr ?_ (fun j v hj => ?_) hw'
        · have := hRm.1; simp; omega
        · rw [List.getElem?_take] at hj
          split at hj
          · rw [Nat.zero_add]; simpa using hj
          · cases hj
      have hL : LR ρ (Dm E g.nx) cs ((arr.toList).take (len * i2.size)) := by
        refine ⟨by have := hRm.1; simp; omega, fun i x a hx ha => ?_⟩
        rw [List.getElem?_take] at ha
        split at ha
        · obtain ⟨a', ha', hv⟩ := hR i x hx
          have : arr[i]? = some a := by simpa using ha
          rw [this] at ha'
          injection ha' with ha'
          subst ha'
          exact hv
        · cases ha
      have hdrop := drop_eff (P := P) (E := E) hw hb
      have e1 : g1.nx = g.nx := hp.nx
      have hgr : GR P ρ (Dm E g1.nx) g1.h.get w := by rw [hp.nx, hp.h]; exact hdrop.gr
      have := grow_eff (need := len + n) (old := ρ.c b) (e := e) hgr hnx hE (by rw [e1]; exact hL.append q2) (by rw [List.length_append, ← hL.1, hcl, q1.size, Nat.add_mul]) A.hi A.hs
      refine ⟨_, _, _, run_append_new A.h0 A.h1 A.ht A.hu A.hd A.hi A.hz q1 hold hgt (by omega) (by omega), (hdrop.pcR hp).trans this, new_slu (grownCap_ge _ _ _ _)⟩
theorem nappUn_ok (A : AppAt P ts t u e du info z) (hs1 : info.size = 1) {b o len kk e' : Nat} {k : IntKind} {xs new : List Int} {gr : Bool} {n : Nat} {g0 g : G} {r : AV × G} {x : Value} (hp0 : Pc g0 g) (hb : g.h.get b = some (.nums e' k xs gr))
    (hsrc : g.pc → ∀ w, GR P ρ (Dm E g.nx) g.h.get w → Src P w x 1 n (new.map (Value.int k))) (h : nappUn e e' k info.bytes b o len kk xs gr new n g = some r) :
    Does P E ρ g r (Builtin.append_ ts ty #[.slice (some ⟨ρ.b b, o, none⟩) len (ρ.c b - kk), x]) := by
  obtain ⟨hall, h1⟩ := guardB_some h
  simp only [Bool.and_eq_true, beq_iff] at hall
  obtain ⟨⟨⟨rfl, rfl⟩, rfl⟩, rfl⟩ := hall
  obtain ⟨ga, hpa, hca, h2⟩ := chk_some h1
  obtain ⟨g1, hp1, hr, hnx, rfl⟩ := nappNew_some h2
  have hp : Pc (g.set b none) g1 := by
    refine ⟨?_, ?_, fun p => hpa.pc (hp1.pc p)⟩
    · rw [hp1.h]; show ga.h.put b none = g.h.put b none; rw [hpa.h]
    · rw [hp1.nx]; exact hpa.nx
  refine ⟨hp.pc, by show g.nx ≤ g1.nx + 1; rw [hp.nx]; exact Nat.le_succ _, fun p hE w hw => ?_⟩
  have hlen : xs.length = len := beq_iff.1 (hca (hp1.pc p))
  have q1 := hsrc (hp.pc p) w hw
  have qs := q1.size
  rw [List.length_map, Nat.mul_one] at qs
  obtain ⟨rr, hrr, hor⟩ := hw.at_ b _ hb
  obtain ⟨r1, r2⟩ := hr p
  simp only [Nat.sub_zero]
  cases hor with
  | nums e k xs gr arr fz hR hO hRm =>
    obtain ⟨i2, hi2, hsz⟩ := hRm.2.2 rfl
    obtain rfl : i2 = info := by rw [A.hi] at hi2; injection hi2 with hi2; exact hi2.symm
    rw [hs1, Nat.mul_one] at hsz
    rw [← hs1] at q1
    by_cases hle : len + n ≤ ρ.c b
    · obtain ⟨w', hrun, hon⟩ := run_stores (P := P) (new.map (Value.int k)) w (ρ.b b) len 0 e arr fz hrr hO (by simp; omega) (fun v hv => by
        obtain ⟨q, _, rfl⟩ := List.mem_map.1 hv
        rfl)
      have hLn : LR ρ (Dm E g.nx) (new.map (AV.int true k)) (new.map (Value.int k)) := by
        refine ⟨by simp, fun i x a hx ha => ?_⟩
        rw [List.getElem?_map] at hx ha
        cases hq : new[i]? with
        | none => rw [hq] at hx; cases hx
        | some y =>
          rw [hq] at hx ha
          simp only [Option.map_some, Option.some.injEq] at hx ha
          subst hx; subst ha
          exact .int _ _ _
      have hOR : OR P ρ (Dm E g.nx) b (.nums e k (xs ++ new) true) (.cells (putAt arr len (new.map (Value.int k))) e fz) := by
        refine .nums e k _ true _ fz ?_ (by rw [putAt_size]; exact hO) ⟨by rw [putAt_size, List.length_append]; omega, fun hh => (by cases hh), fun _ => ⟨i2, A.hi, by rw [putAt_size, hs1, Nat.mul_one]; exact hsz⟩⟩
        rw [List.map_append]
        exact put_end hR hLn (by simp; omega) (by simp; omega)
      obtain ⟨he, hn1⟩ := next_eff (E := E) hp hw hb hnx hE hon hOR (fun ρ' hc ho => by
        cases ho with
        | nums e k xs gr arr fz hR hO hRm => exact .nums e k _ true _ fz hR hO ⟨hRm.1, hRm.2.1, fun hh => ⟨i2, A.hi, by rw [hc, putAt_size, hs1, Nat.mul_one]; exact hsz⟩⟩)
      refine ⟨_, w', _, run_append_in A.h0 A.h1 A.ht A.hu A.hd A.hi q1 hle (by rw [add_at, Nat.zero_add, hs1, Nat.mul_one]; exact hrun), he, ?_⟩
      show VR _ (Dm E (g1.nx + 1)) (.sl true g1.nx 0 _ (.un 0)) _
      rw [hn1]
      exact new_here (k := 0) hle
    · have hgt : ρ.c b < len + n := by omega
      have hold : ∀ w' : World, w'.heap = w.heap → (Builtin.firstCells i2.size len (.slice (some ⟨ρ.b b, 0, none⟩) len (ρ.c b))).run P w' = .ok (xs.map (Value.int k)).toArray w' := by
        intro w' hw'
        refine cells_first hrr ?_ (fun j v hj => ?_) hw'
        · rw [hs1]; simp; omega
        · rw [List.getElem?_map] at hj
          cases hq : xs[j]? with
          | none => rw [hq] at hj; cases hj
          | some y =>
            rw [hq] at hj
            simp only [Option.map_some, Option.some.injEq] at hj
            subst hj
            obtain ⟨a, ha, hv⟩ := hR j (.int true k y) (by rw [List.getElem?_map, hq]; rfl)
            obtain rfl := hv.int_inv
            rw [Nat.zero_add]; exact ha
      have hdrop := drop_eff (P := P) (E := E) hw hb
      have hgr : GR P ρ (Dm E g1.nx) g1.h.get w := by rw [hp.nx, hp.h]; exact hdrop.gr
      have := growN_eff (need := len + n) (old := ρ.c b) (e := e) (k := k) (xs := xs ++ new) (olds := xs.map (Value.int k)) (news := new.map (Value.int k)) hgr hnx hE (by rw [List.map_append]) (by rw [List.length_append]; omega) A.hi hs1 A.hs
      refine ⟨_, _, _, run_append_new A.h0 A.h1 A.ht A.hu A.hd A.hi A.hz q1 hold hgt (by omega) (by omega), (hdrop.pcR hp).trans this, new_slu (grownCap_ge _ _ _ _)⟩
end
end Go.Proofs.YtkclgbccnbiojaaGreatDoor.SX

namespace Go.Proofs.YtkclgbccnbiojaaGreatDoor.SX
section
variable {P : Program} {T : Tab} {E : Nat → Prop} {ρ : Rn}
variable {ts : Array TypeId} {t u ty e : Nat} {du : TypeDesc} {info : TypeInfo} {z : Value}
theorem app_none (A : AppAt P ts t u e du info z) {b o len cap : Nat} {w : World} {x : Value} {news : List Value} (hs : Src P w x info.size 0 news) (hle : len ≤ cap) : (Builtin.append_ ts ty #[.slice (some ⟨b, o, none⟩) len cap, x]).run P w = .ok (.slice (some ⟨b, o, none⟩) len cap) w := by
  have hn : news = [] := List.eq_nil_of_length_eq_zero (by have := hs.size; simpa using this)
  subst hn
  have := run_append_in (ty := ty) (A := ⟨b, o, none⟩) (len := len) (cap := cap) (w' := w) A.h0 A.h1 A.ht A.hu A.hd A.hi hs (by omega) rfl
  simpa using this
/-- the memory is told otherwise: the same blocks -/
structure Alk (P : Program) (H H' : Nat → Option AObj) : Prop where
  to : ∀ b o, H b = some o → ∃ o', H' b = some o' ∧ o'.fixed = o.fixed ∧ ∀ (ρ : Rn) (D : Nat → Prop) (r : Obj), OR P ρ D b o r → OR P ρ D b o' r
  back : ∀ b o', H' b = some o' → ∃ o, H b = some o ∧ o'.fixed = o.fixed
theorem Alk.gr {H H' : Nat → Option AObj} {D : Nat → Prop} {w : World} (h : Alk P H H') (hg : GR P ρ D H w) : GR P ρ D H' w := by
  refine ⟨fun b o hb => ?_, fun b o hb => ?_, fun b b' o o' hb hb' hfx e => ?_⟩
  · obtain ⟨o1, q, _⟩ := h.back b o hb; exact hg.dom b o1 q
  · obtain ⟨o1, q, _⟩ := h.back b o hb
    obtain ⟨o2, q2, _, q3⟩ := h.to b o1 q
    rw [hb] at q2
    injection q2 with q2
    subst q2
    obtain ⟨r, hr, ho⟩ := hg.at_ b o1 q
    exact ⟨r, hr, q3 _ _ _ ho⟩
  · obtain ⟨o1, q, qf⟩ := h.back b o hb
    obtain ⟨o2, q2, _⟩ := h.back b' o' hb'
    exact hg.inj _ _ _ _ q q2 (by rw [← qf]; exact hfx) e
theorem Alk.eff {ρ' : Rn} {g g1 g' g1' : G} {w w' : World} (h : Alk P g1.h.get g.h.get) (h' : Alk P g1'.h.get g'.h.get) (hn : g.nx = g1.nx) (hn' : g'.nx = g1'.nx) (he : Eff P E ρ g1 w ρ' g1' w') : Eff P E ρ g w ρ' g' w' := by
  refine ⟨by rw [hn, hn']; exact he.nx, by rw [hn]; exact he.ext, by rw [hn']; exact h'.gr he.gr, ⟨he.fr.os, he.fr.tape, he.fr.output, he.fr.size, fun i hi hne => he.fr.keep i hi fun b o hb hf => ?_, fun b o hb hf => ?_, fun b o hb hf => ?_⟩⟩
  · obtain ⟨o', q, qf, _⟩ := h.to b o hb
    exact hne b o' q (by rw [qf]; exact hf)
  · obtain ⟨o1, q, qf⟩ := h'.back b o hb
    rcases he.fr.own b o1 q (by rw [← qf]; exact hf) with hh | ⟨b0, o0, q0, f0, e0⟩
    · exact .inl hh
    · obtain ⟨o2, r2, rf, _⟩ := h.to b0 o0 q0
      exact .inr ⟨b0, o2, r2, by rw [rf]; exact f0, e0⟩
  · obtain ⟨o1, q, qf⟩ := h'.back b o hb
    obtain ⟨b0, o0, q0, f0, e0⟩ := he.fr.fix b o1 q (by rw [← qf]; exact hf)
    obtain ⟨o2, r2, rf, _⟩ := h.to b0 o0 q0
    exact ⟨b0, o2, r2, by rw [rf]; exact f0, e0⟩
theorem flat_congr {f f' : Nat → List AV} : ∀ n, (∀ i, i < n → f i = f' i) → flat f n = flat f' n
  | 0, _ => rfl
  | n + 1, h => by rw [flat, flat, flat_congr n (fun i hi => h i (by omega)), h n (by omega)]
theorem alk_put {H : Mem} {b : Nat} {o o' : AObj} (hf : o'.fixed = o.fixed) (ho : ∀ (ρ : Rn) (D : Nat → Prop) (r : Obj), OR P ρ D b o r → OR P ρ D b o' r) : Alk P (H.put b (some o)).get (H.put b (some o')).get := by
  refine ⟨fun q x hq => ?_, fun q x hq => ?_⟩
  · rw [mget_put] at hq
    rw [mget_put]
    by_cases e : q = b
    · subst e
      rw [if_pos rfl] at hq ⊢
      injection hq with hq
      subst hq
      exact ⟨_, rfl, hf, ho⟩
    · rw [if_neg e] at hq ⊢
      exact ⟨x, hq, rfl, fun _ _ _ h => h⟩
  · rw [mget_put] at hq
    rw [mget_put]
    by_cases e : q = b
    · subst e
      rw [if_pos rfl] at hq ⊢
      injection hq with hq
      subst hq
      exact ⟨_, rfl, hf⟩
    · rw [if_neg e] at hq ⊢
      exact ⟨x, hq, rfl⟩
theorem appG_ok (A : AppAt P ts t u e du info z) {b len e' sz' nn o kk : Nat} {f : Nat → List AV} {new : List AV} {n : Nat} {g : G} {r : AV × G} {x : Value} (hb : g.h.get b = some (.grows e' sz' nn f))
    (hsrc : ∀ w, GR P ρ (Dm E g.nx) g.h.get w → ∃ news, Src P w x info.size n news ∧ LR ρ (Dm E g.nx) new news) (h : appG e info.size info.bytes b o len (.un kk) e' sz' nn f new n g = some r) :
    Does P E ρ g r (Builtin.append_ ts ty #[.slice (some ⟨ρ.b b, o, none⟩) len (ρ.c b - kk), x]) := by
  unfold appG at h
  obtain ⟨hall, h1⟩ := guardB_some h
  simp only [Bool.and_eq_true, beq_iff] at hall
  obtain ⟨hone, rfl, hnl, rfl, rfl, rfl, rfl⟩ := hall
  obtain ⟨g1, hp1, hc1, h2⟩ := chk_some h1
  unfold room at h2
  obtain ⟨g2, hp2, hc2, h3⟩ := chk_some h2
  obtain ⟨hnx, h4⟩ := alloc_some h3
  obtain rfl := rok_some h4
  have hnx2 : g2.nx = g.nx := by rw [hp2.nx]; show g1.nx = _; rw [hp1.nx]
  refine ⟨fun p => hp1.pc (hp2.pc p), by show g.nx ≤ g2.nx + 1; omega, fun p hE w hw => ?_⟩
  obtain rfl : nn = len := beq_iff.1 (hc1 (hp2.pc p))
  have hroom := hc2 p
  have hbn := (hw.dom b _ hb).2
  obtain ⟨rr, hrr, hor⟩ := hw.at_ b _ hb
  have hlen : ∀ i, i < nn → (f i).length = info.size := by cases hor with | grows e sz n f arr fz hl hR ho hr => exact hl
  have hfl := flat_length nn hlen
  -- the same, told as cells
  have hto : ∀ (ρ : Rn) (D : Nat → Prop) (r : Obj), OR P ρ D b (.grows e info.size nn f) r → OR P ρ D b (.cells e (flat f nn) true) r := by
    intro ρ D r ho
    cases ho with
    | grows e sz n f arr fz hl hR ho hr => exact .cells e _ true arr fz hR ho (by rw [hfl]; exact hr)
  have hfr : ∀ (ρ : Rn) (D : Nat → Prop) (r : Obj), OR P ρ D b (.cells e (flat f nn) true) r → OR P ρ D b (.grows e info.size nn f) r := by
    intro ρ D r ho
    cases ho with
    | cells e cs gr arr fz hR ho hr => exact .grows e info.size nn f arr fz hlen hR ho (by rw [← hfl]; exact hr)
  let gs : G := { g with h := g.h.put b (some (.cells e (flat f nn) true)) }
  have hself : ∀ q, (g.h.put b (some (.grows e info.size nn f))).get q = g.h.get q := fun q => by
    rw [mget_put]
    by_cases e : q = b
    · rw [if_pos e, e, hb]
    · rw [if_neg e]
  have k1 : Alk P (g.h.put b (some (.grows e info.size nn f))).get gs.h.get := alk_put rfl hto
  have k2 : Alk P gs.h.get (g.h.put b (some (.grows e info.size nn f))).get := alk_put rfl hfr
  rw [funext hself] at k1 k2
  have hws : GR P ρ (Dm E gs.nx) gs.h.get w := k1.gr hw
  have hbs : gs.h.get b = some (.cells e (flat f nn) true) := by show (g.h.put b _).get b = _; rw [mget_put, if_pos rfl]
  have hroomB : ((nn + 1) * info.bytes).ble 140737488355328 = true ∧ (nn + 1).ble 140737488355328 = true := by rw [← Bool.and_eq_true]; exact hroom
  have happ : appUn e info.size info.bytes b 0 nn 0 e (flat f nn) true new 1 gs = some (.sl false gs.nx 0 (nn + 1) (.un 0), { gs.set b none with h := (gs.set b none).h.put gs.nx (some (.cells e (flat f nn ++ new) true)), nx := gs.nx + 1 }) := by
    unfold appUn appNew room chk
    have c1 : (new.all oneCell && (true && Nat.beq 0 0 && Nat.beq 0 0 && (flat f nn).length.beq (nn * info.size) && e.beq e)) = true := by
      rw [hone, hfl, Nat.beq_refl, Nat.beq_refl, Nat.beq_refl]; rfl
    rw [c1]
    show (Bool.rec _ _ (((nn + 1) * info.bytes).ble 140737488355328 && (nn + 1).ble 140737488355328) : R AV) = _
    rw [hroom]
    show alloc (gs.set b none) _ _ = _
    unfold alloc
    have c2 : (gs.set b none).nx.blt 16000000 = true := by show g.nx.blt 16000000 = true; rw [← hnx2]; exact blt_iff.2 hnx
    rw [c2]
    rfl
  have hd := appUn_ok (ρ := ρ) (E := E) (ty := ty) A hbs (fun w' hw' => hsrc w' (k2.gr hw')) happ
  obtain ⟨v, w', ρ', hrun, heff, hvr⟩ := hd.2.2 (hp1.pc (hp2.pc p)) (fun q hq => by have hh : g2.nx + 1 ≤ q := hE q hq; show g.nx + 1 ≤ q; omega) w hws
  have hh2 : g2.h = g.h.put b none := by rw [hp2.h]; show g1.h.put b none = _; rw [hp1.h]
  have hnx3 : g.nx < 16000000 := by omega
  have hgfun : ∀ i, i < nn → (fun i => bif i.blt nn then f i else new) i = f i := fun i hi => by
    show (bif i.blt nn then f i else new) = f i
    rw [blt_iff.2 hi]; rfl
  have hgnew : (fun i => bif i.blt nn then f i else new) nn = new := by
    show (bif nn.blt nn then f nn else new) = new
    have : nn.blt nn = false := by
      cases h : nn.blt nn with
      | false => rfl
      | true => have := blt_iff.1 h; omega
    rw [this]; rfl
  have hflat : flat (fun i => bif i.blt nn then f i else new) (nn + 1) = flat f nn ++ new := by
    show flat (fun i => bif i.blt nn then f i else new) nn ++ (fun i => bif i.blt nn then f i else new) nn = _
    rw [flat_congr nn hgfun, hgnew]
  have hlen2 : ∀ i, i < nn + 1 → ((fun i => bif i.blt nn then f i else new) i).length = info.size := by
    intro i hi
    rcases Nat.lt_or_ge i nn with hlt | hge
    · rw [hgfun i hlt]; exact hlen i hlt
    · obtain rfl : i = nn := by omega
      rw [hgnew]; exact hnl
  have k3 : Alk P ((g.h.put b none).put g.nx (some (.cells e (flat f nn ++ new) true))).get ((g.h.put b none).put g.nx (some (.grows e info.size (nn + 1) (fun i => bif i.blt nn then f i else new)))).get := by
    refine alk_put rfl fun ρ D r ho => ?_
    cases ho with
    | cells e cs gr arr fz hR ho hr =>
      refine .grows e info.size (nn + 1) _ arr fz hlen2 (by rw [hflat]; exact hR) ho ?_
      have el : (flat f nn ++ new).length = (nn + 1) * info.size := by rw [List.length_append, hfl, hnl, Nat.succ_mul]
      rw [← el]; exact hr
  have hgs : (((g.h.put b (some (.cells e (flat f nn) true))).put b none).put g.nx (some (.cells e (flat f nn ++ new) true))).get = ((g.h.put b none).put g.nx (some (.cells e (flat f nn ++ new) true))).get := by
    funext q
    rw [mget_put, mget_put, mget_put, mget_put, mget_put]
    by_cases e1 : q = g.nx
    · rw [if_pos e1, if_pos e1]
    · rw [if_neg e1, if_neg e1]
      by_cases e2 : q = b
      · rw [if_pos e2, if_pos e2]
      · rw [if_neg e2, if_neg e2, if_neg e2]
  rw [← hgs] at k3
  refine ⟨v, w', ρ', hrun, Alk.eff (g1 := gs) (g1' := { gs.set b none with h := (gs.set b none).h.put gs.nx (some (.cells e (flat f nn ++ new) true)), nx := gs.nx + 1 }) k2 ?_ rfl (by show g2.nx + 1 = g.nx + 1; rw [hnx2]) heff, ?_⟩
  · show Alk P _ (g2.h.put g2.nx _).get
    rw [hh2, hnx2]
    exact k3
  · show VR ρ' (Dm E (g2.nx + 1)) (.sl true g2.nx 0 (nn + 1) (.un 0)) v
    rw [hnx2]
    cases hvr with
    | slu s b o n k hh hn => exact .slu _ _ _ _ _ hh hn
theorem appTo_ok (A : AppAt P ts t u e du info z) {ek : TK} (hek : ∀ k, ek = .int k → info.size = 1) {s x : AV} {g : G} {r : AV × G} {a b : Value} (hs : VR ρ (Dm E g.nx) s a) (hx : VR ρ (Dm E g.nx) x b) (h : appTo e info.size info.bytes ek s x g = some r) : Does P E ρ g r (Builtin.append_ ts ty #[a, b]) := by
  unfold appTo at h
  split at h
  · obtain rfl : a = .slice none 0 0 := by cases hs; rfl
    exact appNil_ok A hek hx h
  · rename_i f B o len cap
    obtain ⟨ob, hob, h1⟩ := obj_some h
    clear h
    unfold appO at h1
    split at h1
    · rename_i e' cs gr
      obtain ⟨hf, h2⟩ := guardB_some h1
      clear h1
      obtain rfl : f = false := by cases f with | false => rfl | true => cases hf
      obtain ⟨new, n, h3, hsrc⟩ := srcOf_ok (P := P) hx h2
      clear h2
      cases hs with
      | slk s b o n' c hD hn => exact appKn_ok A hob hn hD hsrc h3
      | slu s b o n' k hD hn =>
        simp only at h3
        cases hz : n.beq 0 with
        | true =>
          rw [hz, cond_true] at h3
          obtain rfl := beq_iff.1 hz
          obtain rfl := rok_some h3
          refine ⟨id, Nat.le_refl _, fun p hE w hw => ?_⟩
          obtain ⟨news, q1, q2⟩ := hsrc w hw
          exact ⟨_, w, ρ, app_none A q1 (by omega), .refl hw, .slu _ _ _ _ _ hD hn⟩
        | false =>
          rw [hz, cond_false] at h3
          exact appUn_ok A hob hsrc h3
    · rename_i e' k xs gr
      obtain ⟨hf, h2⟩ := guardB_some h1
      clear h1
      have hs1 : info.size = 1 := beq_iff.1 hf
      obtain ⟨new, n, g1, hp, h3, hsrc⟩ := nsrcOf_ok (P := P) hx h2
      clear h2
      cases hs with
      | slk s b o n' c hD hn => cases h3
      | slu s b o n' kk hD hn =>
        simp only at h3
        obtain ⟨zz, g2, hp2, hc, h4⟩ := test_some h3
        refine Does.pcL (hp.trans hp2) ?_
        have hb2 : g2.h.get B = some (.nums e' k xs gr) := by rw [hp2.h, hp.h]; exact hob
        have hsrc2 : g2.pc → ∀ w, GR P ρ (Dm E g2.nx) g2.h.get w → Src P w b 1 n (new.map (Value.int k)) := fun p w hw => hsrc (hp2.pc p) w (by rw [hp2.nx, hp2.h, hp.nx, hp.h] at hw; exact hw)
        cases zz with
        | true =>
          obtain rfl := rok_some h4
          refine ⟨id, Nat.le_refl _, fun p hE w hw => ?_⟩
          have q1 := hsrc2 p w hw
          obtain rfl : n = 0 := beq_iff.1 (hc p)
          rw [← hs1] at q1
          exact ⟨_, w, ρ, app_none A q1 (by omega), .refl hw, .slu _ _ _ _ _ (by rw [show g2.nx = g.nx from by rw [hp2.nx, hp.nx]]; exact hD) hn⟩
        | false => exact nappUn_ok A hs1 (.refl g2) hb2 hsrc2 h4
    · rename_i e' sz' nn f
      obtain ⟨new, n, h3, hsrc⟩ := srcOf_ok (P := P) hx h1
      clear h1
      cases hs with
      | slk s b o n' c hD hn => cases h3
      | slu s b o n' kk hD hn => exact appG_ok A hob hsrc h3
    · cases h1
  · cases h
theorem srcTy_some (hT : TabOk P T) {l : List TypeId} {f : TypeId → R AV} {r : AV × G} (h : srcTy T l f = some r) : ∃ t u k du, l = t :: u :: k ∧ P.underlying u = some du ∧ (du = .string ∨ ∃ e', du = .slice e') ∧ f t = some r := by
  unfold srcTy at h
  split at h
  · rename_i t u k
    obtain ⟨i, hi, h1⟩ := ti_some h
    obtain ⟨info, z, d, e1, e2, e3, he⟩ := hT.ti u i hi
    subst he
    obtain ⟨hb, h2⟩ := guardB_some h1
    refine ⟨t, u, k, d, rfl, e3, ?_, h2⟩
    rw [Bool.or_eq_true, beq_iff, beq_iff] at hb
    rcases hb with hb | hb
    · right
      cases d <;> first | (exact ⟨_, rfl⟩) | (exact absurd hb (by simp [tkD, TK.tag]))
    · left
      exact tag_string hb
  · cases h
theorem oAppend_ok (hT : TabOk P T) {x y : AV} {g : G} {r : AV × G} {a b : Value} (hx : VR ρ (Dm E g.nx) x a) (hy : VR ρ (Dm E g.nx) y b) (h : oAppend T ts.toList x y g = some r) : Does P E ρ g r (Builtin.append_ ts ty #[a, b]) := by
  obtain ⟨t, u, k, du, hl, hu, hd, h1⟩ := srcTy_some hT h
  obtain ⟨i, hi, h2⟩ := ti_some h1
  obtain ⟨info, z, d, e1, e2, e3, he⟩ := hT.ti t i hi
  subst he
  obtain ⟨e, hk, h3⟩ := elem_some h2
  obtain rfl := tk_slice hk
  obtain ⟨ei, hei, h4⟩ := ti_some h3
  obtain ⟨einfo, ez, ed, f1, f2, f3, hee⟩ := hT.ti e ei hei
  have hz := (hT.zi e ei einfo ez ed hei f1 f2 f3).1
  have ha : ts[0]? = some t ∧ ts[1]? = some u := by
    rw [← Array.getElem?_toList, ← Array.getElem?_toList, hl]; exact ⟨rfl, rfl⟩
  have hek : ∀ k, ei.k = .int k → einfo.size = 1 := by
    intro k hk
    rw [hee] at hk
    obtain rfl := tk_int hk
    exact (one_cell hT hei f1 f2 f3 rfl).1
  subst hee
  exact appTo_ok (t := t) (u := u) (du := du) (z := ez) ⟨ha.1, ha.2, e3, hu, hd, f1, f2, hz⟩ hek hx hy h4
/-! ### copy -/
theorem run_copy {w w' : World} {x : Value} {base : Option Addr} {m n cap : Nat} {i : TypeInfo} {news : List Value} (h0 : ts[0]? = some t) (ht : P.underlying t = some (.slice e)) (hi : P.info? e = some i) (hs : Src P w x i.size n news)
    (hst : (match base with | some A => storeCells A (news.take (min n m * i.size)) | none => pure ()).run P w = .ok () w') : (Builtin.copy_ ts ty #[.slice base m cap, x]).run P w = .ok (.int .i64 ((min n m : Nat) : Int)) w' := by
  have hl := hs.len w
  have hc := hs.cells (Nat.min n m) (Nat.min_le_left _ _) w rfl
  have hm : Nat.min n m = min n m := rfl
  rw [hm] at hc
  cases base with
  | none =>
    simp only [Sem.run_pure] at hst
    injection hst with _ hst
    subst hst
    simp [Builtin.copy_, h0, run_underlying ht, run_size hi, hl, hm, hc, goInt]
  | some A =>
    simp only at hst
    simp [Builtin.copy_, h0, run_underlying ht, run_size hi, hl, hm, hc, goInt, hst]
theorem copyTo_ok (h0 : ts[0]? = some t) (ht : P.underlying t = some (.slice e)) (hi : P.info? e = some info) {d x : AV} {g : G} {r : AV × G} {a b : Value} (hd : VR ρ (Dm E g.nx) d a) (hx : VR ρ (Dm E g.nx) x b) (h : copyTo info.size d x g = some r) : Does P E ρ g r (Builtin.copy_ ts ty #[a, b]) := by
  unfold copyTo at h
  split at h
  · obtain rfl : a = .slice none 0 0 := by cases hd; rfl
    obtain ⟨new, n, h1, hsrc⟩ := srcOf_ok (P := P) hx h
    obtain rfl := rok_some h1
    refine ⟨id, Nat.le_refl _, fun p hE w hw => ?_⟩
    obtain ⟨news, q1, q2⟩ := hsrc w hw
    have := run_copy (ty := ty) (m := 0) (cap := 0) (base := none) (w' := w) h0 ht hi q1 rfl
    rw [Nat.min_zero] at this
    exact ⟨_, w, ρ, this, .refl hw, .int _ _ _⟩
  · rename_i f B o m cap
    obtain ⟨ob, hob, h1⟩ := obj_some h
    clear h
    obtain ⟨cap', rfl⟩ : ∃ cap', a = .slice (some ⟨ρ.b B, o, none⟩) m cap' := by cases hd <;> exact ⟨_, rfl⟩
    unfold copyO at h1
    split at h1
    · rename_i e' cs gr
      obtain ⟨hf, h2⟩ := guardB_some h1
      clear h1
      obtain ⟨new, n, h3, hsrc⟩ := srcOf_ok (P := P) hx h2
      clear h2
      obtain ⟨hb, h4⟩ := guardB_some h3
      clear h3
      obtain rfl := rok_some h4
      rw [Bool.and_eq_true, ble_iff] at hb
      refine ⟨id, Nat.le_refl _, fun p hE w hw => ?_⟩
      obtain ⟨news, q1, q2⟩ := hsrc w hw
      obtain ⟨rr, hr, hor⟩ := hw.at_ B _ hob
      cases hor with
      | cells e' cs gr arr fz hR hO hRm =>
        have hlen : (new.take (min n m * info.size)).length = min n m * info.size := by
          rw [List.length_take, q2.1, q1.size]
          exact Nat.min_eq_left (Nat.mul_le_mul_right _ (Nat.min_le_left _ _))
        have q3 := q2.take (min n m * info.size)
        have hall : (new.take (min n m * info.size)).all oneCell = true := List.all_eq_true.2 fun v hv => List.all_eq_true.1 hb.1 v (List.mem_of_mem_take hv)
        have hl2 : o + (new.take (min n m * info.size)).length ≤ cs.length := by rw [hlen]; exact hb.2
        obtain ⟨w', hrun, hon⟩ := run_stores (P := P) (news.take (min n m * info.size)) w (ρ.b B) o 0 e' arr fz hr hO (by rw [← q3.1]; have := hRm.1; omega) (all_one q3 hall)
        refine ⟨_, w', ρ, run_copy (ty := ty) (cap := cap') h0 ht hi q1 hrun, set_eff hw hob hon ?_, .int _ _ _⟩
        have hpl := putSeg_length hl2
        exact .cells e' _ gr _ fz (hR.put q3 hl2 hRm.1) (by rw [putAt_size]; exact hO) ⟨by rw [putAt_size, hpl]; exact hRm.1, fun hg => by rw [putAt_size, hpl]; exact hRm.2.1 hg, fun hg => by rw [putAt_size]; exact hRm.2.2 hg⟩
    · rename_i e' k xs gr
      obtain ⟨hf, h2⟩ := guardB_some h1
      clear h1
      have hs1 : info.size = 1 := beq_iff.1 hf
      obtain ⟨new, n, g1, hp, h3, hsrc⟩ := nsrcOf_ok (P := P) hx h2
      clear h2
      obtain ⟨g2, hp2, hc, h4⟩ := chk_some h3
      obtain rfl := rok_some h4
      refine ⟨fun p => hp.pc (hp2.pc p), by show g.nx ≤ g2.nx; rw [hp2.nx, hp.nx]; exact Nat.le_refl _, fun p hE w hw => ?_⟩
      have q1 := hsrc (hp2.pc p) w hw
      have hle : o + min n m ≤ xs.length := ble_iff.1 (hc p)
      have qs := q1.size
      rw [List.length_map, Nat.mul_one] at qs
      rw [← hs1] at q1
      obtain ⟨rr, hr, hor⟩ := hw.at_ B _ hob
      cases hor with
      | nums e' k xs gr arr fz hR hO hRm =>
        have hLn : LR ρ (Dm E g.nx) ((new.take (min n m)).map (AV.int true k)) ((new.map (Value.int k)).take (min n m)) := by
          rw [← List.map_take]
          refine ⟨by simp, fun i x a hx ha => ?_⟩
          rw [List.getElem?_map] at hx ha
          cases hq : (new.take (min n m))[i]? with
          | none => rw [hq] at hx; cases hx
          | some y =>
            rw [hq] at hx ha
            simp only [Option.map_some, Option.some.injEq] at hx ha
            subst hx; subst ha
            exact .int _ _ _
        have hlen : (new.take (min n m)).length = min n m := by rw [List.length_take, qs]; exact Nat.min_eq_left (Nat.min_le_left _ _)
        obtain ⟨w', hrun, hon⟩ := run_stores (P := P) ((new.map (Value.int k)).take (min n m)) w (ρ.b B) o 0 e' arr fz hr hO (by have := hRm.1; rw [← hLn.1, List.length_map, hlen]; omega) (fun v hv => by
          obtain ⟨q, _, rfl⟩ := List.mem_map.1 (List.mem_of_mem_take hv)
          rfl)
        have hput : (putN xs o (min n m) new).map (AV.int true k) = putSeg (xs.map (AV.int true k)) o ((new.take (min n m)).map (AV.int true k)) := by
          unfold putSeg putN
          rw [List.length_map, hlen]
          simp [List.map_append, List.map_take, List.map_drop]
        have hpl : (putN xs o (min n m) new).length = xs.length := by
          unfold putN
          simp only [List.length_append, List.length_take, List.length_drop]; omega
        have hhb : g2.h = g.h := by rw [hp2.h, hp.h]
        have hhn : g2.nx = g.nx := by rw [hp2.nx, hp.nx]
        refine ⟨_, w', ρ, run_copy (ty := ty) (cap := cap') h0 ht hi q1 (by rw [hs1, Nat.mul_one]; exact hrun), ?_, .int _ _ _⟩
        refine Eff.pcL (hp.trans hp2) (set_eff (by rw [hhn, hhb]; exact hw) (by rw [hhb]; exact hob) hon ?_)
        rw [hhn]
        refine .nums e' k _ gr _ fz ?_ (by rw [putAt_size]; exact hO) ⟨by rw [putAt_size, hpl]; exact hRm.1, fun hg => by rw [putAt_size, hpl]; exact hRm.2.1 hg, fun hg => by rw [putAt_size]; exact hRm.2.2 hg⟩
        rw [hput]
        exact hR.put hLn (by rw [List.length_map, List.length_map, hlen]; exact hle) (by rw [List.length_map]; exact hRm.1)
    · cases h1
  · cases h
theorem oCopy_ok (hT : TabOk P T) {x y : AV} {g : G} {r : AV × G} {a b : Value} (hx : VR ρ (Dm E g.nx) x a) (hy : VR ρ (Dm E g.nx) y b) (h : oCopy T ts.toList x y g = some r) : Does P E ρ g r (Builtin.copy_ ts ty #[a, b]) := by
  obtain ⟨t, l, hl, h1⟩ := ty1_some h
  obtain ⟨i, hi, h2⟩ := ti_some h1
  obtain ⟨info, z, d, e1, e2, e3, he⟩ := hT.ti t i hi
  subst he
  obtain ⟨e, hk, h3⟩ := elem_some h2
  obtain rfl := tk_slice hk
  obtain ⟨ei, hei, h4⟩ := ti_some h3
  obtain ⟨einfo, ez, ed, f1, f2, f3, hee⟩ := hT.ti e ei hei
  subst hee
  exact copyTo_ok (args0 hl) e3 f1 hx hy h4
end
end Go.Proofs.YtkclgbccnbiojaaGreatDoor.SX

/- The law 'BitsNone' and 'live' run by the executor of the Sx texts: they return true, and what stood before stands. -/
import Derived.Test.YticfagianocfiaaRows
import Derived.Test.YticfagianocfiaaSx5
import Derived.Below
import Derived.KernelRfl
set_option linter.unusedVariables false
namespace Go.Proofs.Yticfagianocfiaa.SX
open Go.Proofs Go.Proofs.Yticfagianocfiaa Go.RowKit
noncomputable def nT : Tab := tabOf Try.prog 76
noncomputable def nP : CallT := fun _ _ _ _ => none
noncomputable def nG : G := ⟨.e, 1000, True, []⟩
def saysTrue : Option (CR × PM × G) → Bool
  | some (.ret (.bool _ b), _) => b
  | _ => false
def pcOf : Option (CR × PM × G) → Prop
  | some (_, _, g) => g.pc
  | none => False
set_option maxRecDepth 1000000
theorem nT_ok : TabOk Try.prog nT := tabOf_ok (by omega) (by kernel_rfl)
theorem nM : Try.prog.follows .mixedOrders = true := by kernel_rfl
theorem live_true : saysTrue (callN nT nP 1000 20 .no 8 [] nG) = true := by kernel_rfl
theorem live_pc : pcOf (callN nT nP 1000 20 .no 8 [] nG) = True := by kernel_rfl
theorem none_true (n v : Int) : saysTrue (callN nT nP 1000 20 .no 7 [.int true .i64 n, .int true .u32 v] nG) = true := by kernel_rfl
theorem none_pc (n v : Int) : pcOf (callN nT nP 1000 20 .no 7 [.int true .i64 n, .int true .u32 v] nG) = True := by kernel_rfl
def nR : Rn := ⟨id, fun _ => 0⟩
theorem n_prim {P : Program} : CallOk P nP := none_ok
theorem sx_calls {f : FuncId} {args : List AV} {vs : List Value} {W : World} (h : saysTrue (callN nT nP 1000 20 .no f args nG) = true) (hpc : pcOf (callN nT nP 1000 20 .no f args nG)) (hL : LR nR (Dm (fun _ => False) 1000) args vs) :
    Calls Try.prog f vs.toArray W fun e W' => e = .returned (.bool true) ∧ Below W.heap.size W W' := by
  cases hr : callN nT nP 1000 20 .no f args nG with
  | none => rw [hr] at h; cases h
  | some q =>
    obtain ⟨cr, pm', g'⟩ := q
    rw [hr] at h hpc
    obtain ⟨hfn, hok⟩ := (sx_ok nT_ok nM n_prim 1000 20).ok _ _ _ _ _ _ _ hr
    have hG : GR Try.prog nR (Dm (fun _ => False) nG.nx) nG.h.get W := by
      have he : ∀ b, nG.h.get b = none := fun b => get_e b
      refine ⟨fun b o hb => ?_, fun b o hb => ?_, fun b b' o o' hb => ?_⟩
      · rw [he] at hb; cases hb
      · rw [he] at hb; cases hb
      · rw [he] at hb; cases hb
    refine ((hok (fun _ => False) nR vs W hpc (fun b hb => hb.elim) ⟨Nat.le_refl _, fun g _ => rfl⟩ hL hG).1 rfl).mono fun e W' ⟨ρ', he, hend⟩ => ?_
    have hB : Below W.heap.size W W' := ⟨he.fr.os, he.fr.tape, he.fr.output, he.fr.size, fun k hk => he.fr.keep k hk fun b o hb => by
      have : nG.h.get b = none := get_e b
      rw [this] at hb; cases hb⟩
    cases cr with
    | pan v => cases h
    | ret v =>
      cases e with
      | returned x =>
        cases v <;> first | (cases h; done) | skip
        rename_i s t hh
        have hx : VR ρ' (Dm (fun _ => False) g'.nx) (.bool s t) x := hend
        obtain rfl := hx.bool_inv
        have hb : t = true := h
        subst hb
        exact ⟨rfl, hB⟩
      | panicked c => exact hend.elim
      | outgrown => exact hend.elim
theorem live_calls (W : World) : Calls Try.prog 8 #[] W fun e W' => e = .returned (.bool true) ∧ Below W.heap.size W W' :=
  sx_calls (vs := []) live_true (by rw [live_pc]; trivial) (LR.nil _ _)
theorem none_calls (n v : Int) (W : World) : Calls Try.prog 7 #[.int .i64 n, .int .u32 v] W fun e W' => e = .returned (.bool true) ∧ Below W.heap.size W W' :=
  sx_calls (vs := [.int .i64 n, .int .u32 v]) (none_true n v) (by rw [none_pc]; trivial) (LR.cons (.int _ _ _) (LR.cons (.int _ _ _) (LR.nil _ _)))
end Go.Proofs.Yticfagianocfiaa.SX

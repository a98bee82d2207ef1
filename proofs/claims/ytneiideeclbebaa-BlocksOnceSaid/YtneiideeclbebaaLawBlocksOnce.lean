/- The statement BlocksOnce holds: for every input the law's function answers true, and each argument reads afterwards as before. No condition. -/
import Derived.Test.YtneiideeclbebaaRows
import Derived.Test.YtneiideeclbebaaOwnx6
import Derived.Test.YtneiideeclbebaaOpen
import Derived.Test.YtneiideeclbebaaPureBlocksOnce
import Derived.WalkKit
import Derived.ProofKit
import Derived.OpenShut
import Derived.ShutString
import Derived.ChangeOld
import Derived.Below
import Derived.SizedLaws
import Derived.Carry
import Derived.Deep.Slices
import Derived.ChangeSame
namespace Go.Proofs.Ytneiideeclbebaa.blocksOnce
open Go.ChangeShapes Go.WideShapes Go.ChangeAt Go.RowKit Go.Proofs.YtneiideeclbebaaW.PrintWords Go.Proofs.YtneiideeclbebaaW.PrintLast
open Go.ChangeMaps (open_string shut_string)
set_option linter.unusedVariables false
theorem own : ownKnob Try.prog.godebug = none := by kernel_rfl
theorem laidOut : laidOutB Try.prog = true := by kernel_rfl
set_option maxRecDepth 100000 in
theorem lifted (os : Os) (started : os.Started) (H : Type) (enc : TypeId × Value → H) :
    ReturnsInHanded {} Try.checked os 5 .any (Rows.blocksOnceSpec.pre6 enc Try.prog Try.f5 Rows.blocksOnceRow.domain false) (Rows.blocksOnceSpec.post enc Try.prog Try.f5 false true false false) := by
  refine returnsInHanded_of_change_sized (C := Try.checked) own started (by kernel_rfl) Try.func5
    (ChangeSpec.witness6 (enc := enc) (C := Try.checked) false ⟨#[], #[.slice none 0 0], []⟩ 8 (by kernel_rfl) (by kernel_rfl) (by kernel_rfl) (by kernel_rfl)) ?_
  intro W base args ds gs before hval0 hW hcnd hsz0 _
  have hsz : (DataW.weightsEach Try.prog (Try.f5.params.toList ++ Rows.blocksOnceSpec.plain.varTypes Try.prog) (ds ++ gs)).all (· ≤ reachBytes) = true := hsz0
  have hval : ∀ (j : Nat) t v, Try.f5.params[j]? = some t → args[j]? = some v → Value.okWide Try.prog W .any base t v := hval0
  have hW' := hW
  obtain ⟨p, q, hA0, hV, rfl, hfz, hnd⟩ := hW
  have hA : DataW.TrodAll enc Try.prog W 0 (fun _ => true) true Try.f5.params.toList args.toList ds p := hA0
  rw [Try.params5] at hA hval hsz
  obtain ⟨v0, vs0, d0, ds0, p0, q0, hargs, rfl, rfl, h0, r0⟩ := trodAll_cons hA
  obtain ⟨rfl, rfl, rfl⟩ := trodAll_nil r0
  obtain rfl : args = #[v0] := by cases args; simp_all
  obtain ⟨rfl, rfl⟩ := trodVars_none hV
  obtain ⟨a0, len0, cap0, rfl⟩ := okWide_slice Try.underlying30 (hval 0 30 v0 rfl rfl)
  have k0 := h0
  have lt0 : ∀ x ∈ p0, x.block < W.heap.size := by obtain ⟨m, hm⟩ := k0; exact DataW.trod_lt m _ _ _ hm
  obtain ⟨fuel0, hf0⟩ := h0
  obtain ⟨A0, L0, C0, z0, hcs0, hlc0, hcm0, hlen0, hC0, hG0, hx0⟩ := Own.open_kd Own.k36 (Own.g36) Try.underlying30 (by kernel_rfl) (fun n cs y h hl => Own.el36 n cs y h hl) hf0
  simp [Value.cells] at hcs0
  obtain ⟨rfl, rfl, rfl⟩ := hcs0
  have y0 := Own.sized_kd hsz (j := 0) (t := 30) rfl rfl Try.underlying30 (B := 32) (by kernel_rfl) hx0
  subst hlen0
  clear hA0 hval0 hsz0 hsz
  obtain ⟨k, hk⟩ := Pure.BlocksOnce z0 (Nat.le_trans hlc0 hcm0) y0 hG0
  refine (Own.fuglemanlaw16_BlocksOnce.calls k a0 cap0 z0 true W hC0 hlc0 hk).mono fun e W' ⟨he, bel0⟩ => ?_
  have bel : Below W.heap.size W W' := bel0
  subst he
  exact ⟨_, rfl, _, _, _, [], _, [], hW', trodAll_mk1 (shut_bool Try.underlying4 _), (trodAll_cons_mk (Below.trod laidOut (by kernel_rfl) (of_decide_eq_true (by kernel_rfl)) k0 bel lt0) trodAll_mk0), rfl, bel.frame _, fun h => by cases h⟩
theorem over : Rows.blocksOnceRow.holds Try.pinned (OpenSpec.ofChange Rows.blocksOnceSpec) :=
  OpenClaim.holds_of_wide 5 Try.f5 rfl rfl rfl rfl rfl rfl rfl ⟨rfl, rfl, rfl, rfl, rfl⟩ rfl rfl rfl rfl rfl (by kernel_rfl) Try.func5 (by kernel_rfl)
    (of_decide_eq_true (by kernel_rfl)) (by unfold Func.isWrapper; first | (rw [if_pos (by decide +kernel)]; kernel_rfl) | (rw [if_neg (by decide +kernel)]; exact ⟨rfl, rfl⟩))
    (fun os started H enc _ => lifted os started H enc)
theorem proved : Rows.BlocksOnceSaid := over
#print axioms proved
end Go.Proofs.Ytneiideeclbebaa.blocksOnce
namespace Go.Proofs.Ytneiideeclbebaa
/-- The row, under a short name, for the claim. -/
theorem blocksOnce_holds : Rows.BlocksOnceSaid := blocksOnce.proved
end Go.Proofs.Ytneiideeclbebaa

/- estreatlaw06.DiskSync answers true for every slice of acts and every slice of ints, and both arguments read as before; no condition. The frame of this text is the print's template for rows. -/
import Derived.Test.YtajgimacecjnkaaRows
import Derived.Test.YtajgimacecjnkaaWSync
import Derived.Test.YtajgimacecjnkaaOpenActs
import Derived.WalkKit
import Derived.ProofKit
import Derived.OpenShut
import Derived.ShutString
import Derived.ChangeOld
import Derived.Below
import Derived.SizedLaws
namespace Go.Proofs.Ytajgimacecjnkaa.diskSync
open Go.Proofs.YtajgimacecjnkaaW.PrintWords Go.Proofs.Ytajgimacecjnkaa.PDiskRoom Go.ChangeShapes Go.WideShapes Go.ChangeAt Go.RowKit
open Go.ChangeMaps (open_string shut_string)
set_option linter.unusedVariables false
theorem laidOut : laidOutB Try.prog = true := by kernel_rfl
theorem own : ownKnob Try.prog.godebug = none := by kernel_rfl
set_option maxRecDepth 100000 in
theorem lifted (os : Os) (started : os.Started) (H : Type) (enc : TypeId × Value → H) :
    ReturnsInHanded {} Try.checked os 5 .any (Rows.diskSyncSpec.pre6 enc Try.prog Try.f5 Rows.diskSyncRow.domain false) (Rows.diskSyncSpec.post enc Try.prog Try.f5 false true false false) := by
  refine returnsInHanded_of_change_sized (C := Try.checked) own started (by kernel_rfl) Try.func5
    (ChangeSpec.witness6 (enc := enc) (C := Try.checked) false ⟨#[], #[.slice none 0 0, .slice none 0 0], []⟩ 8 (by kernel_rfl) (by kernel_rfl) (by kernel_rfl) (by kernel_rfl)) ?_
  intro W base args ds gs before hval0 hW hcnd hsz0 _
  have hsz : (DataW.weightsEach Try.prog (Try.f5.params.toList ++ Rows.diskSyncSpec.plain.varTypes Try.prog) (ds ++ gs)).all (· ≤ reachBytes) = true := hsz0
  have hval : ∀ (j : Nat) t v, Try.f5.params[j]? = some t → args[j]? = some v → Value.okWide Try.prog W .any base t v := hval0
  have hW' := hW
  obtain ⟨p, q, hA0, hV, rfl, hfz, hnd⟩ := hW
  have hA : DataW.TrodAll enc Try.prog W 0 (fun _ => true) true Try.f5.params.toList args.toList ds p := hA0
  rw [Try.params5] at hA hval hsz
  obtain ⟨v0, vs0, d0, ds0, p0, q0, hargs, rfl, rfl, h0, r0⟩ := trodAll_cons hA
  obtain ⟨v1, vs1, d1, ds1, p1, q1, rfl, rfl, rfl, h1, r1⟩ := trodAll_cons r0
  obtain ⟨rfl, rfl, rfl⟩ := trodAll_nil r1
  obtain rfl : args = #[v0, v1] := by cases args; simp_all
  obtain ⟨rfl, rfl⟩ := trodVars_none hV
  have k0 := h0
  have lt0 : ∀ x ∈ p0, x.block < W.heap.size := by obtain ⟨m, hm⟩ := k0; exact DataW.trod_lt m _ _ _ hm
  obtain ⟨a0, len0, cap0, rfl⟩ := okWide_slice Try.underlying22 (hval 0 22 v0 rfl rfl)
  obtain ⟨A, c, l, hv, hlc, hC, hn⟩ : ∃ A c l, Value.slice a0 len0 cap0 = .slice A l.length c ∧ l.length ≤ c ∧ Kd.C k32 W A l.length l ∧ ∀ z ∈ l, z.f4 ≤ 9223372036854775807 := by
    obtain ⟨fuel, hf⟩ := h0
    exact open_acts hf
  injection hv with e1 e2 e3
  subst e2
  have k1 := h1
  have lt1 : ∀ x ∈ p1, x.block < W.heap.size := by obtain ⟨m, hm⟩ := k1; exact DataW.trod_lt m _ _ _ hm
  obtain ⟨a1, len1, cap1, rfl⟩ := okWide_slice Try.underlying30 (hval 1 30 v1 rfl rfl)
  obtain ⟨A1, c1, l1, hv1, hlc1, hR1, _⟩ : ∃ A1 c1 xs, Value.slice a1 len1 cap1 = .slice A1 xs.length c1 ∧ xs.length ≤ c1 ∧ ReadsOf (Value.int .i64) 0 W A1 xs.length xs ∧ ∀ z ∈ xs, (Lit.int .i64 z).wf = true := by
    obtain ⟨fuel, hf⟩ := h1
    exact slice_reads Try.underlying30 Try.underlying3 (by kernel_rfl) hf
  injection hv1 with f1 f2 f3
  subst f2
  clear hA0 hval0 hsz0 hsz
  refine (diskSync_c a0 cap0 l a1 l1.length cap1 l1 W (by rw [e1]; exact hC) (by rw [e3]; exact hlc) hn (by rw [f1]; exact hR1) (by rw [f3]; exact hlc1)).mono fun e W' ⟨he, bel⟩ => ?_
  subst he
  exact ⟨_, rfl, _, _, _, [], _, [], hW', trodAll_mk1 (shut_bool Try.underlying4 _), (trodAll_cons_mk (Below.trod laidOut (by kernel_rfl) (of_decide_eq_true (by kernel_rfl)) k0 bel lt0) (trodAll_cons_mk (Below.trod laidOut (by kernel_rfl) (of_decide_eq_true (by kernel_rfl)) k1 bel lt1) trodAll_mk0)), rfl, bel.frame _, fun h => by cases h⟩
theorem over : Rows.diskSyncRow.holds Try.pinned (OpenSpec.ofChange Rows.diskSyncSpec) :=
  OpenClaim.holds_of_wide 5 Try.f5 rfl rfl rfl rfl rfl rfl rfl ⟨rfl, rfl, rfl, rfl, rfl⟩ rfl rfl rfl rfl rfl (by kernel_rfl) Try.func5 (by kernel_rfl)
    (of_decide_eq_true (by kernel_rfl)) (by unfold Func.isWrapper; first | (rw [if_pos (by decide +kernel)]; kernel_rfl) | (rw [if_neg (by decide +kernel)]; exact ⟨rfl, rfl⟩))
    (fun os started H enc _ => lifted os started H enc)
theorem proved : Rows.DiskSyncSaid := over
end Go.Proofs.Ytajgimacecjnkaa.diskSync
namespace Go.Proofs.Ytajgimacecjnkaa
/-- The row, under a short name, for the claim. -/
theorem diskSync_holds : Rows.DiskSyncSaid := diskSync.proved
#print axioms diskSync_holds
end Go.Proofs.Ytajgimacecjnkaa

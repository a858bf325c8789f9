/- The law MarkLast, for any two lists of marks: what ended stays as it ended, and no count becomes less. No condition. -/
import Derived.Test.YtfgmnachckbimaaRows
import Derived.Test.YtfgmnachckbimaaArgs
import Derived.Test.YtfgmnachckbimaaArgsz
import Derived.Test.YtfgmnachckbimaaMarkLst
import Derived.WalkKit
import Derived.ProofKit
import Derived.OpenShut
import Derived.ShutString
import Derived.ChangeOld
import Derived.Below
namespace Go.Proofs.Ytfgmnachckbimaa.markLast
open Go.ChangeShapes Go.WideShapes Go.ChangeAt Go.RowKit
set_option linter.unusedVariables false
theorem own : ownKnob Try.prog.godebug = none := by kernel_rfl
theorem laidOut : laidOutB Try.prog = true := by kernel_rfl
set_option maxRecDepth 100000 in
theorem lifted (os : Os) (started : os.Started) (H : Type) (enc : TypeId × Value → H) :
    ReturnsInHanded {} Try.checked os 11 .any (Rows.markLastSpec.pre6 enc Try.prog Try.f11 Rows.markLastRow.domain false) (Rows.markLastSpec.post enc Try.prog Try.f11 false true false false) := by
  refine returnsInHanded_of_change_sized (C := Try.checked) own started (by kernel_rfl) Try.func11
    (ChangeSpec.witness6 (enc := enc) (C := Try.checked) false ⟨#[], #[.slice none 0 0, .slice none 0 0], []⟩ 8 (by kernel_rfl) (by kernel_rfl) (by kernel_rfl) (by kernel_rfl)) ?_
  intro W base args ds gs before hval0 hW hcnd hsz _
  have hval : ∀ (j : Nat) t v, Try.f11.params[j]? = some t → args[j]? = some v → Value.okWide Try.prog W .any base t v := hval0
  have hW' := hW
  obtain ⟨p, q, hA0, hV, rfl, hfz, hnd⟩ := hW
  have hA : DataW.TrodAll enc Try.prog W 0 (fun _ => true) true Try.f11.params.toList args.toList ds p := hA0
  rw [Try.params11] at hA hval hsz
  obtain ⟨v0, vs0, d0, ds0, p0, q0, hargs, rfl, rfl, h0, r0⟩ := trodAll_cons hA
  obtain ⟨v1, vs1, d1, ds1, p1, q1, rfl, rfl, rfl, h1, r1⟩ := trodAll_cons r0
  obtain ⟨rfl, rfl, rfl⟩ := trodAll_nil r1
  obtain rfl : args = #[v0, v1] := by cases args; simp_all
  obtain ⟨rfl, rfl⟩ := trodVars_none hV
  have k0 := h0
  have lt0 : ∀ x ∈ p0, x.block < W.heap.size := by obtain ⟨m, hm⟩ := k0; exact DataW.trod_lt m _ _ _ hm
  obtain ⟨ks0, s0⟩ := rdM_arg (hval 0 41 v0 rfl rfl) h0
  obtain ⟨n0, dd0⟩ := slice_told Try.underlying41 (hval 0 41 v0 rfl rfl) h0
  have l0 : ks0.length ≤ 140737488351232 := by
    obtain ⟨a, c, hv, _⟩ := s0.form
    have hr : reachBytes = 140737488351232 := rfl
    rcases dd0 _ _ _ hv with ⟨_, h⟩ | ⟨el, sp, hd, h⟩
    · omega
    · have hby : Try.prog.bytesOf 36 = 24 := by kernel_rfl
      have := sized_slice (P := Try.prog) hsz (j := 0) rfl (congrArg some hd) Try.underlying41
      rw [hby] at this; omega
  have k1 := h1
  have lt1 : ∀ x ∈ p1, x.block < W.heap.size := by obtain ⟨m, hm⟩ := k1; exact DataW.trod_lt m _ _ _ hm
  obtain ⟨ks1, s1⟩ := rdM_arg (hval 1 41 v1 rfl rfl) h1
  obtain ⟨n1, dd1⟩ := slice_told Try.underlying41 (hval 1 41 v1 rfl rfl) h1
  have l1 : ks1.length ≤ 140737488351232 := by
    obtain ⟨a, c, hv, _⟩ := s1.form
    have hr : reachBytes = 140737488351232 := rfl
    rcases dd1 _ _ _ hv with ⟨_, h⟩ | ⟨el, sp, hd, h⟩
    · omega
    · have hby : Try.prog.bytesOf 36 = 24 := by kernel_rfl
      have := sized_slice (P := Try.prog) hsz (j := 1) rfl (congrArg some hd) Try.underlying41
      rw [hby] at this; omega
  clear hA0 hval0
  refine (markLast_walk v0 v1 ks0 ks1 W s0 s1 n0 n1 l0 l1).mono fun e W' ⟨he, bel⟩ => ?_
  subst he
  exact ⟨_, rfl, _, _, _, [], _, [], hW', trodAll_mk1 (shut_bool Try.underlying4 _), (trodAll_cons_mk (Below.trod laidOut (by kernel_rfl) (of_decide_eq_true (by kernel_rfl)) k0 bel lt0) (trodAll_cons_mk (Below.trod laidOut (by kernel_rfl) (of_decide_eq_true (by kernel_rfl)) k1 bel lt1) trodAll_mk0)), rfl, bel.frame _, fun h => by cases h⟩
theorem over : Rows.markLastRow.holds Try.pinned (OpenSpec.ofChange Rows.markLastSpec) :=
  OpenClaim.holds_of_wide 11 Try.f11 rfl rfl rfl rfl rfl rfl rfl ⟨rfl, rfl, rfl, rfl, rfl⟩ rfl rfl rfl rfl rfl (by kernel_rfl) Try.func11 (by kernel_rfl)
    (of_decide_eq_true (by kernel_rfl)) (by unfold Func.isWrapper; first | (rw [if_pos (by decide +kernel)]; kernel_rfl) | (rw [if_neg (by decide +kernel)]; exact ⟨rfl, rfl⟩))
    (fun os started H enc _ => lifted os started H enc)
theorem proved : Rows.MarkLastSaid := over
#print axioms proved
end Go.Proofs.Ytfgmnachckbimaa.markLast

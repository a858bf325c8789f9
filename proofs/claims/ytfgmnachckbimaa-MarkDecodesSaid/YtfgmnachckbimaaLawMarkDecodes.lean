/- The law MarkDecodes, for any list of marks, any more bytes and any byte that is turned: the marks that the bytes begin with are those of the document. No condition. -/
import Derived.Test.YtfgmnachckbimaaRows
import Derived.Test.YtfgmnachckbimaaArgs
import Derived.Test.YtfgmnachckbimaaArgsz
import Derived.Test.YtfgmnachckbimaaMarkDec
import Derived.WalkKit
import Derived.ProofKit
import Derived.OpenShut
import Derived.ShutString
import Derived.ChangeOld
import Derived.Below
namespace Go.Proofs.Ytfgmnachckbimaa.markDecodes
open Go.ChangeShapes Go.WideShapes Go.ChangeAt Go.RowKit
set_option linter.unusedVariables false
theorem own : ownKnob Try.prog.godebug = none := by kernel_rfl
theorem laidOut : laidOutB Try.prog = true := by kernel_rfl
set_option maxRecDepth 100000 in
theorem lifted (os : Os) (started : os.Started) (H : Type) (enc : TypeId × Value → H) :
    ReturnsInHanded {} Try.checked os 8 .any (Rows.markDecodesSpec.pre6 enc Try.prog Try.f8 Rows.markDecodesRow.domain false) (Rows.markDecodesSpec.post enc Try.prog Try.f8 false true false false) := by
  refine returnsInHanded_of_change_sized (C := Try.checked) own started (by kernel_rfl) Try.func8
    (ChangeSpec.witness6 (enc := enc) (C := Try.checked) false ⟨#[], #[.slice none 0 0, .slice none 0 0, .int .u16 0, .int .u8 0], []⟩ 8 (by kernel_rfl) (by kernel_rfl) (by kernel_rfl) (by kernel_rfl)) ?_
  intro W base args ds gs before hval0 hW hcnd hsz _
  have hval : ∀ (j : Nat) t v, Try.f8.params[j]? = some t → args[j]? = some v → Value.okWide Try.prog W .any base t v := hval0
  have hW' := hW
  obtain ⟨p, q, hA0, hV, rfl, hfz, hnd⟩ := hW
  have hA : DataW.TrodAll enc Try.prog W 0 (fun _ => true) true Try.f8.params.toList args.toList ds p := hA0
  rw [Try.params8] at hA hval hsz
  obtain ⟨v0, vs0, d0, ds0, p0, q0, hargs, rfl, rfl, h0, r0⟩ := trodAll_cons hA
  obtain ⟨v1, vs1, d1, ds1, p1, q1, rfl, rfl, rfl, h1, r1⟩ := trodAll_cons r0
  obtain ⟨v2, vs2, d2, ds2, p2, q2, rfl, rfl, rfl, h2, r2⟩ := trodAll_cons r1
  obtain ⟨v3, vs3, d3, ds3, p3, q3, rfl, rfl, rfl, h3, r3⟩ := trodAll_cons r2
  obtain ⟨rfl, rfl, rfl⟩ := trodAll_nil r3
  obtain rfl : args = #[v0, v1, v2, v3] := by cases args; simp_all
  obtain ⟨rfl, rfl⟩ := trodVars_none hV
  have k0 := h0
  have lt0 : ∀ x ∈ p0, x.block < W.heap.size := by obtain ⟨m, hm⟩ := k0; exact DataW.trod_lt m _ _ _ hm
  obtain ⟨ks0, s0⟩ := rdM_arg (hval 0 41 v0 rfl rfl) h0
  obtain ⟨n0, dd0⟩ := slice_told Try.underlying41 (hval 0 41 v0 rfl rfl) h0
  have l0 : ks0.length ≤ 140737488351232 := by
    obtain ⟨a, c, hv, _⟩ := s0.form
    have hr : reachBytes = 140737488351232 := rfl
    rcases dd0 _ _ _ hv with ⟨_, h⟩ | ⟨el, sp, hd, h⟩
    · omega
    · have hby : Try.prog.bytesOf 36 = 24 := by kernel_rfl
      have := sized_slice (P := Try.prog) hsz (j := 0) rfl (congrArg some hd) Try.underlying41
      rw [hby] at this; omega
  have k1 := h1
  have lt1 : ∀ x ∈ p1, x.block < W.heap.size := by obtain ⟨m, hm⟩ := k1; exact DataW.trod_lt m _ _ _ hm
  obtain ⟨bs1, s1⟩ := rdB_arg (hval 1 22 v1 rfl rfl) h1
  obtain ⟨n1, dd1⟩ := slice_told Try.underlying22 (hval 1 22 v1 rfl rfl) h1
  have l1 : bs1.length ≤ 140737488351232 := by
    obtain ⟨a, c, hv, _⟩ := s1.form
    have hr : reachBytes = 140737488351232 := rfl
    rcases dd1 _ _ _ hv with ⟨_, h⟩ | ⟨el, sp, hd, h⟩
    · omega
    · have hby : Try.prog.bytesOf 5 = 1 := by kernel_rfl
      have := sized_slice (P := Try.prog) hsz (j := 1) rfl (congrArg some hd) Try.underlying22
      rw [hby] at this; omega
  obtain ⟨a2, rfl, rfl, rfl, w2⟩ := open_int Try.underlying30 (hval 2 30 v2 rfl rfl) h2
  obtain ⟨a3, rfl, rfl, rfl, w3⟩ := open_int Try.underlying5 (hval 3 5 v3 rfl rfl) h3
  clear hA0 hval0
  refine (markDecodes_all v0 v1 ks0 bs1 a2 a3 W s0 s1 n1 l1 w2 w3).mono fun e W' ⟨he, bel⟩ => ?_
  subst he
  exact ⟨_, rfl, _, _, _, [], _, [], hW', trodAll_mk1 (shut_bool Try.underlying4 _), (trodAll_cons_mk (Below.trod laidOut (by kernel_rfl) (of_decide_eq_true (by kernel_rfl)) k0 bel lt0) (trodAll_cons_mk (Below.trod laidOut (by kernel_rfl) (of_decide_eq_true (by kernel_rfl)) k1 bel lt1) (trodAll_cons_mk (shut_int Try.underlying30 w2) (trodAll_cons_mk (shut_int Try.underlying5 w3) trodAll_mk0)))), rfl, bel.frame _, fun h => by cases h⟩
theorem over : Rows.markDecodesRow.holds Try.pinned (OpenSpec.ofChange Rows.markDecodesSpec) :=
  OpenClaim.holds_of_wide 8 Try.f8 rfl rfl rfl rfl rfl rfl rfl ⟨rfl, rfl, rfl, rfl, rfl⟩ rfl rfl rfl rfl rfl (by kernel_rfl) Try.func8 (by kernel_rfl)
    (of_decide_eq_true (by kernel_rfl)) (by unfold Func.isWrapper; first | (rw [if_pos (by decide +kernel)]; kernel_rfl) | (rw [if_neg (by decide +kernel)]; exact ⟨rfl, rfl⟩))
    (fun os started H enc _ => lifted os started H enc)
theorem proved : Rows.MarkDecodesSaid := over
#print axioms proved
end Go.Proofs.Ytfgmnachckbimaa.markDecodes

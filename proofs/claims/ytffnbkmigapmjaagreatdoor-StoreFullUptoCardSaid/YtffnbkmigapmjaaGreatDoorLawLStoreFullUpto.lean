/- The law StoreFull: what finds no room changes nothing; with room again it is done. Bulk at most 1048576. -/
import Derived.Test.YtffnbkmigapmjaaGreatDoorCards
import Derived.Test.YtffnbkmigapmjaaGreatDoorTie
import Derived.Test.YtffnbkmigapmjaaGreatDoorT10
import Derived.Test.YtffnbkmigapmjaaGreatDoorT41
import Derived.Test.YtffnbkmigapmjaaGreatDoorT42
import Derived.Test.YtffnbkmigapmjaaGreatDoorT43
import Derived.WalkKit
import Derived.ProofKit
import Derived.OpenShut
import Derived.ShutString
import Derived.ChangeOld
import Derived.Below
import Derived.Deep.DeepHandedRow
namespace Go.Proofs.YtffnbkmigapmjaaGreatDoor.storeFullUpto
open Go.ChangeShapes Go.WideShapes Go.ChangeAt Go.RowKit
set_option linter.unusedVariables false
theorem own : ownKnob Tryz.prog.godebug = none := by kernel_rfl
theorem laidOut : laidOutB Tryz.prog = true := by kernel_rfl
set_option maxRecDepth 100000 in
theorem lifted (os : Os) (started : os.Started) (H : Type) (enc : TypeId × Value → H) (F : Stop.Interp) :
    ReturnsInHanded {} Tryz.checked os 8 .any ((Rows.OpenSpec.upto Rows.storeFullSpec).preRow enc Tryz.prog Tryz.f8 Rows.storeFullUptoRow.domain false Rows.storeFullUptoRow.laid) (((Rows.OpenSpec.upto Rows.storeFullSpec).at F).post enc Tryz.prog Tryz.f8 false true false false) := by
  have hx : ∃ places, DataW.whole enc Tryz.prog ((World.laidAll Tryz.prog os Rows.storeFullUptoRow.laid).forCall (fun _ _ => 0) ⟨#[], #[.slice none 0 0, .agg #[.int .i64 0, .int .i64 0, .int .i64 0, .string ⟨#[]⟩, .slice none 0 0, .slice none 0 0], .agg #[.int .i64 0, .int .i64 0, .int .i64 0]], []⟩).memory Tryz.f8.params.toList Rows.storeFullSpec.vars false (#[.slice none 0 0, .agg #[.int .i64 0, .int .i64 0, .int .i64 0, .string ⟨#[]⟩, .slice none 0 0, .slice none 0 0], .agg #[.int .i64 0, .int .i64 0, .int .i64 0]] : Array Value).toList 8 = some ([.nil, .agg [.lit (.int .i64 0), .lit (.int .i64 0), .lit (.int .i64 0), .lit (.string []), .nil, .nil], .agg [.lit (.int .i64 0), .lit (.int .i64 0), .lit (.int .i64 0)]], [], places) := ⟨[], by kernel_rfl⟩
  obtain ⟨places, hx⟩ := hx
  refine returnsInHanded_of_row (C := Tryz.checked) (s := Rows.OpenSpec.upto Rows.storeFullSpec) own started (by kernel_rfl) Tryz.func8
    (witness_laid (enc := enc) (C := Tryz.checked) (World.laidAll Tryz.prog os Rows.storeFullUptoRow.laid) #[.slice none 0 0, .agg #[.int .i64 0, .int .i64 0, .int .i64 0, .string ⟨#[]⟩, .slice none 0 0, .slice none 0 0], .agg #[.int .i64 0, .int .i64 0, .int .i64 0]] (World.laidAll_os _ _ _) (World.shaped_of_ZipB (by kernel_rfl) (by kernel_rfl)) (by kernel_rfl)
      (OpenSpec.preRow_of_cond 8 hx (by kernel_rfl) (fun k hk => by cases hk; kernel_rfl) (by kernel_rfl) (by rw [MakeChecks.laidMetH_plain _ _ _ (by kernel_rfl)]; exact laidMet_laidAll _ (by kernel_rfl) (by kernel_rfl)))) ?_
  intro W base args ds gs before hval0 hW hcnd hcond hsz hL hshape _
  have hmax := maxOk_of hshape
  have hval : ∀ (j : Nat) t v, Tryz.f8.params[j]? = some t → args[j]? = some v → Value.okWide Tryz.prog W .any base t v := hval0
  have hW' := hW
  obtain ⟨p, q, hA0, hV, rfl, hfz, hnd⟩ := hW
  have hA : DataW.TrodAll enc Tryz.prog W 0 (fun _ => true) true Tryz.f8.params.toList args.toList ds p := hA0
  rw [Tryz.params8] at hA hval hsz
  obtain ⟨v0, vs0, d0, ds0, p0, q0, hargs, rfl, rfl, h0, r0⟩ := trodAll_cons hA
  obtain ⟨v1, vs1, d1, ds1, p1, q1, rfl, rfl, rfl, h1, r1⟩ := trodAll_cons r0
  obtain ⟨v2, vs2, d2, ds2, p2, q2, rfl, rfl, rfl, h2, r2⟩ := trodAll_cons r1
  obtain ⟨rfl, rfl, rfl⟩ := trodAll_nil r2
  obtain rfl : args = #[v0, v1, v2] := by cases args; simp_all
  obtain ⟨rfl, rfl⟩ := trodVars_none hV
  have hk := hcond _ rfl
  simp only [List.append_nil] at hk
  have k0 := h0
  have lt0 : ∀ x ∈ p0, x.block < W.heap.size := by obtain ⟨m, hm⟩ := k0; exact DataW.trod_lt m _ _ _ hm
  have gu0 : Rows.uptoBulk d0 ≤ 1048576 := bulk_all hk (by simp)
  obtain ⟨os0, s0, oo0⟩ := ops_argU (hval 0 64 v0 rfl rfl) h0 gu0
  have k1 := h1
  have lt1 : ∀ x ∈ p1, x.block < W.heap.size := by obtain ⟨m, hm⟩ := k1; exact DataW.trod_lt m _ _ _ hm
  obtain ⟨m1, vr1, vb1, hv1, rr1, rb1, nr1, nb1, gs1, gf1⟩ := mail_argU (hval 1 29 v1 rfl rfl) h1
  have gu1 : Rows.uptoBulk d1 ≤ 1048576 := bulk_all hk (by simp)
  have us1 : ∀ l ∈ m1.rcpts, l.length ≤ 4294967270 := fun l hl => by have := gs1 l hl; omega
  have uf1 : m1.frm.length ≤ 4294967270 := by omega
  subst hv1
  obtain ⟨or1, ob1⟩ := mail_blocks (hval 1 29 _ rfl rfl) rr1 rb1
  have k2 := h2
  have lt2 : ∀ x ∈ p2, x.block < W.heap.size := by obtain ⟨m, hm⟩ := k2; exact DataW.trod_lt m _ _ _ hm
  obtain ⟨mk2, hv2⟩ := mark_arg (hval 2 53 v2 rfl rfl) h2
  subst hv2
  clear hA0 hval0
  refine (storeFull_calls v0 os0 m1 vr1 vb1 mk2 W s0 oo0 rr1 rb1 nb1 or1 ob1 ⟨uf1, us1⟩ (gok_of hL hshape) hmax).mono fun e W' ⟨he, bel⟩ => ?_
  subst he
  exact ⟨_, rfl, _, _, _, [], _, [], hW', trodAll_mk1 (shut_bool Tryz.underlying4 _), (trodAll_cons_mk (Below.trod laidOut (by kernel_rfl) (of_decide_eq_true (by kernel_rfl)) h0 bel lt0) (trodAll_cons_mk (Below.trod laidOut (by kernel_rfl) (of_decide_eq_true (by kernel_rfl)) h1 bel lt1) (trodAll_cons_mk (Below.trod laidOut (by kernel_rfl) (of_decide_eq_true (by kernel_rfl)) h2 bel lt2) trodAll_mk0))), rfl, bel.frame _, fun h => by cases h⟩
end Go.Proofs.YtffnbkmigapmjaaGreatDoor.storeFullUpto

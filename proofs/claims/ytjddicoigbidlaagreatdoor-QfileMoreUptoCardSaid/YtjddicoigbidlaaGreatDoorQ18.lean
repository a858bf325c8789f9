/-
  The walk of the law EnvDecodes.
-/
import Derived.Test.YtjddicoigbidlaaGreatDoorQ14
set_option linter.unusedSimpArgs false
set_option linter.unusedVariables false
namespace Go.Proofs.YtjddicoigbidlaaGreatDoor
open Go.RowKit
set_option maxRecDepth 100000 in
set_option maxHeartbeats 8000000 in
theorem envDecodes_walk (v : Value) (bs : List UInt8) (w : World) (hv : RdB w v bs) (hnv : NilOk v) (hol : ∀ k, v.ownBlock = some k → k < w.heap.size) (hmax : MaxOk w) :
    Calls Tryz.prog 4 #[v] w fun e w' => e = .returned (.bool true) ∧ Below w.heap.size w w' := by
  obtain ⟨i0, hi, hz0, hz1, hz2⟩ := info_parts infoU8
  obtain ⟨a, cap, rfl, hl, hc⟩ := hv.form
  have hlI : (bs.length : Int) ≤ 9223372036854775807 := by omega
  have hans := fun W h => envAns_calls W h
  have Hans := Lib.hid hans
  have Hmax := Lib.hid hmax
  clear hans hmax
  by_cases hbig : 3000 < bs.length
  · have hbi : (3000 : Int) < (bs.length : Int) := by omega
    clear hv hnv hol
    go_enter Tryz.func4, Tryz.ntmps4
    go_wp2_with fail
    refine (Hans.out _ Hmax.out).mono ?_; rintro e w1 ⟨rfl, hb1⟩
    go_wp2
    go_ret
    exact ⟨rfl, hb1⟩
  · have hbi : (bs.length : Int) ≤ 3000 := by omega
    obtain ⟨W0, hW0⟩ : ∃ W0, w.alloc (.cells #[] 5) = W0 := ⟨_, rfl⟩
    have hb0 : Below w.heap.size w W0 := by rw [← hW0]; exact (Below.refl _ _).alloc (Nat.le_refl _) _
    have hown0 : W0.ownsRow w.heap.size 5 1 (.slice (some ⟨w.heap.size, 0, none⟩) 0 0) 0 [] := by rw [← hW0]; exact World.ownsRow_lit w #[] 0 (Nat.le_refl _) (by decide) rfl
    have hsrc := rdLB (hv.below (Nat.le_refl _) hb0)
    have hm1 : 0 + bs.length ≤ maxLen := by show _ ≤ 9223372036854775807; omega
    have hm2 : (0 + bs.length) * 1 ≤ 140737488355328 := by omega
    have hone := bb1_one bs
    have hbs := hb0.size
    obtain ⟨r, hr⟩ : ∃ r, decodeMail bs = r := ⟨_, rfl⟩
    have hd1 := fun v W h1 h2 => envDecode_calls v bs W h1 (by omega) h2
    have hd2 := fun v W h1 h2 h3 => refBegins_calls v bs W h1 (by omega) h2 h3
    rw [hr] at hd1 hd2
    have Hd1 := Lib.hid hd1
    have Hd2 := Lib.hid hd2
    have Hv := Lib.hid hv
    have Hnv := Lib.hid hnv
    have Hol := Lib.hid hol
    have Hone := Lib.hid hone
    have Hb0 := Lib.hid hb0
    clear hd1 hd2 hv hnv hol hone hr hb0
    subst hW0
    go_enter Tryz.func4, Tryz.ntmps4
    go_wp2_with (at_builtin; go_must (refine wpList_append_any bb1_len (by decide) rfl (.tmp 14) (.tmp 15) 23 rfl w.heap.size 5 i0 (.int .u8 0) 1 Tryz.underlying23 hi hz0 hz1 hz2 rfl _ _ _ rfl hown0 _ bs rfl hsrc Hnv.out Hone.out hm1 hm2 hbs ?_); rintro v2 w2 hown2 hg2 _; rw [Nat.zero_add, List.nil_append] at hown2)
    have hb2 := Hb0.out.grown hg2 hbs (fun k hk => by cases hk; exact Nat.le_refl _)
    rw [bb1_flat] at hown2
    have hcall := Hd1.out v2 w2 (rdB_ofOwn hown2) (Hmax.out.below hb2)
    have Hcall := Lib.hid hcall
    obtain ⟨a2, c2, hv2⟩ := own_form0 hown2
    subst hv2
    clear hcall hown2 hg2 Hd1 hown0 hsrc
    refine (Hcall.out).mono ?_; rintro e w3 ⟨vr3, vb3, rfl, hoL3, hoT3, hb3⟩
    have hbw3 := hb2.trans (hb3.mono hb2.size)
    generalize hmd : r.elim MailD.zero Prod.fst = m at *
    generalize hnn : r.elim 0 Prod.snd = nn at *
    generalize hokk : r.isSome = okk at *
    have Hmd := Lib.hid hmd
    have Hnn := Lib.hid hnn
    have Hokk := Lib.hid hokk
    obtain ⟨a3, c3, hv3⟩ := own_form0 hoL3
    obtain ⟨a4, c4, hv4⟩ := own_form0 hoT3
    subst hv3
    subst hv4
    have hm3 := MailAt.new (m := m) (rdL_ofOwn s1_len (by decide) hoL3) (rdB_ofOwn hoT3)
    obtain ⟨w4, hw4⟩ : ∃ w4, w3.alloc (.cells #[.int .i64 m.id, .int .i64 m.parent, .int .i64 m.born, .string (strL m.frm), (.slice a3 m.rcpts.length c3), (.slice a4 m.body.length c4)] 25) = w4 := ⟨_, rfl⟩
    rw [hw4] at hm3
    have hb4 : Below w3.heap.size w3 w4 := by rw [← hw4]; exact (Below.refl _ _).alloc (Nat.le_refl _) _
    have hbw4 := hbw3.trans (hb4.mono hbw3.size)
    have hcall2 := Hd2.out (.slice a bs.length cap) w4 (Hv.out.below (Nat.le_refl _) hbw4) Hnv.out (fun k hk => by have := Hol.out k hk; have := hbw4.size; omega)
    have Hcall2 := Lib.hid hcall2
    have Hm3 := Lib.hid hm3
    clear hcall2 hm3 hoL3 hoT3 Hd2 Hcall hmd hnn hokk
    subst hw4
    go_wp2_with fail
    refine (Hcall2.out).mono ?_; rintro e w5 ⟨vr5, vb5, rfl, hoL5, hoT5, hb5⟩
    rw [Hmd.out] at hoL5 hoT5 ⊢
    rw [Hnn.out, Hokk.out]
    have hbw5 := hbw4.trans (hb5.mono hbw4.size)
    obtain ⟨a5, c5, hv5⟩ := own_form0 hoL5
    obtain ⟨a6, c6, hv6⟩ := own_form0 hoT5
    subst hv5
    subst hv6
    have hm5 := MailAt.new (m := m) (rdL_ofOwn s1_len (by decide) hoL5) (rdB_ofOwn hoT5)
    have hm3 := (Hm3.out.below hb5)
    obtain ⟨w6, hw6⟩ : ∃ w6, w5.alloc (.cells #[.int .i64 m.id, .int .i64 m.parent, .int .i64 m.born, .string (strL m.frm), (.slice a5 m.rcpts.length c5), (.slice a6 m.body.length c6)] 25) = w6 := ⟨_, rfl⟩
    rw [hw6] at hm5
    have hb6 : Below w5.heap.size w5 w6 := by rw [← hw6]; exact (Below.refl _ _).alloc (Nat.le_refl _) _
    have hbw6 := hbw5.trans (hb6.mono hbw5.size)
    have hm36 := hm3.below hb6
    have hans := Hans.out w6 (Hmax.out.below hbw6)
    have hsame := fun W h1 h2 h3 h4 => refSame_calls m m (.slice a3 m.rcpts.length c3) (.slice a4 m.body.length c4) (.slice a5 m.rcpts.length c5) (.slice a6 m.body.length c6) W h1 h2 h3 h4
    have e1 : decide (m = m) = true := by simp
    rw [e1] at hsame
    have Hans6 := Lib.hid hans
    have Hm5 := Lib.hid hm5
    have Hm36 := Lib.hid hm36
    have Hsame := Lib.hid hsame
    clear hans hsame hm5 hm36 hm3 hoL5 hoT5 Hm3 e1 Hcall2
    subst hw6
    go_wp2_with fail
    refine (Hans6.out).mono ?_; rintro e w7 ⟨rfl, hb7⟩
    have hmA := Hm36.out.below hb7
    have hmB := Hm5.out.below hb7
    have hbw7 := hbw6.trans (hb7.mono hbw6.size)
    obtain ⟨x0, x1, x2, x3, x4, x5⟩ := hmA.cells
    obtain ⟨y0, y1, y2, y3, y4, y5⟩ := hmB.cells
    have hcall3 := Hsame.out w7 hmA.rs hmA.rb hmB.rs hmB.rb
    have Hcall3 := Lib.hid hcall3
    clear hcall3 hmA hmB Hans6 Hm5 Hm36
    cases okk
    all_goals
      go_wp2_with fail
      refine (Hcall3.out).mono ?_; rintro e w8 ⟨rfl, hb8⟩
      go_wp2
      go_ret
      exact ⟨rfl, hbw7.trans (hb8.mono hbw7.size)⟩
end Go.Proofs.YtjddicoigbidlaaGreatDoor

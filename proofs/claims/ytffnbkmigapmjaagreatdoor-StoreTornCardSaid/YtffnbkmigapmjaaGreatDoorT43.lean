/-
  The walk of fs: Crash (printed by gen_fscrash.py).
  Equal lists are the same: pillarboxref10.SameMarks, SameFates.
-/
import Derived.Test.YtffnbkmigapmjaaGreatDoorT7
import Derived.Test.YtffnbkmigapmjaaGreatDoorT26
import Derived.BigRegion
import Derived.Deep.QuietTactic
import Derived.BigQuiet
set_option linter.unusedSimpArgs false
set_option linter.unusedVariables false
set_option maxRecDepth 100000
namespace Go.Proofs.YtffnbkmigapmjaaGreatDoor
open Go.RowKit Go.Maps
def cutNat (i : Int) (n : Nat) : Nat := min i.toNat n
set_option maxHeartbeats 16000000 in
theorem crash_calls (f : Nat) (d : FsD) (ρ : Rho) (dirs bytes : Int) (w : World) (h : FsAt w f d ρ) (hp : Plays d (cutNat dirs d.loose.length)) (hll : d.loose.length ≤ 2000000) (hby : bytes ≤ 9223372036854775807) :
    Calls Tryz.prog 29 #[.pointer (some ⟨f, 0, none⟩), .int .i64 dirs, .int .i64 bytes] w fun e w' => ∃ d' ρ', e = .returned (.tuple #[]) ∧ CrashR d (cutNat dirs d.loose.length) bytes.toNat d' ∧ FsAt w' f d' ρ' ∧ FsStep w ρ w' ρ' := by
  obtain ⟨⟨c0, c1, c2, c3, c4, c5⟩, _⟩ := fsHd_cells h.hd
  obtain ⟨aL, cL, hlv⟩ := own_form0 h.rest.own
  have hcL : d.loose.length ≤ cL := by
    have := (rdL_ofOwn cv1_len (by decide) (xs := d.loose.map (·.2)) (by rw [cv1_flat]; exact h.rest.own)).form
    obtain ⟨a', c', e1, e2, _⟩ := this
    rw [hlv, List.length_map] at e1; rw [List.length_map] at e2; cases e1; exact e2
  obtain ⟨kd, hkd⟩ : ∃ kd, cutNat dirs d.loose.length = kd := ⟨_, rfl⟩
  obtain ⟨bn, hbn⟩ : ∃ bn, bytes.toNat = bn := ⟨_, rfl⟩
  rw [hkd] at hp ⊢
  rw [hbn]
  have hkl : kd ≤ d.loose.length := by rw [← hkd]; unfold cutNat; omega
  have m2 : min (max dirs 0) (d.loose.length : Int) = (kd : Int) := by rw [← hkd]; unfold cutNat; omega
  have m3 : max bytes 0 = (bn : Int) := by rw [← hbn]; omega
  have hbn2 : (bn : Int) ≤ 9223372036854775807 := by rw [← hbn]; omega
  rw [hlv] at c2
  have H := Lib.hid h
  have Hp := Lib.hid hp
  have Hlv := Lib.hid hlv
  obtain ⟨L, hL⟩ : ∃ L, d.loose.length = L := ⟨_, rfl⟩
  obtain ⟨ms, hms⟩ : ∃ ms, d.ms = ms := ⟨_, rfl⟩
  rw [hL] at c2 hcL m2 hkl hll
  rw [hms] at c1
  have HL := Lib.hid hL
  have Hms := Lib.hid hms
  have hk0 : (0 : Int) ≤ (kd : Int) := by omega
  have hk1 : (kd : Int) ≤ (cL : Int) := by omega
  clear h hp hlv hL hms hkd hbn c0 c3 c4 c5
  go_enter Tryz.func29, Tryz.ntmps29
  go_wp2
  go_loopw [7, 29] (fun x i wr => ∃ j : Nat, j ≤ kd ∧ i = .int .i64 j ∧ FsAt wr f { d with sure := playD d j } ρ ∧ FsStep w ρ wr ρ) (fun _ i _ => kd - (intOf i).toNat)
  case atStart => exact ⟨0, Nat.zero_le _, rfl, H.out, FsStep.refl _ _⟩
  case round =>
    obtain ⟨j, hj, rfl, hF, hst⟩ := hrel
    have c1' : wr.cell? ⟨f, 1, none⟩ = some (.map (some ms)) := by rw [← Hms.out]; exact (fsHd_cells hF.hd).1.2.1
    have HF := Lib.hid hF
    have Hst := Lib.hid hst
    clear hF hst
    by_cases hlt : j < kd
    · have hj0 : (0 : Int) ≤ (j : Int) := by omega
      have hj1 : (j : Int) < (kd : Int) := by omega
      obtain ⟨p, hp⟩ : ∃ p, d.loose[j]? = some p := ⟨_, List.getElem?_eq_getElem (by rw [HL.out]; omega)⟩
      have hrd : RdL 1 cv1 wr d.lv (d.loose.map (·.2)) := rdL_ofOwn cv1_len (by decide) (by rw [cv1_flat]; exact HF.out.rest.own)
      rw [Hlv.out] at hrd
      have hpre := rdL_pre hrd kd (by rw [List.length_map, HL.out]; exact hkl)
      obtain ⟨b, off, cap', hsl, hbl, h3⟩ := RdL.at hpre (i := j) (x := p.2) (by rw [List.getElem?_take, if_pos hlt, List.getElem?_map, hp]; rfl)
      have hc := h3 0 _ rfl
      rw [Nat.mul_one, Nat.add_zero] at hc
      have hlen : ((d.loose.map (·.2)).take kd).length = kd := by rw [List.length_take, List.length_map, HL.out]; omega
      rw [hlen] at hsl
      have hmem := List.mem_of_getElem? hp
      obtain ⟨ch, v⟩ := p
      have hcc := HF.out.rest.chg _ hmem
      have hcall := chg_calls (l := playD d j) HF.out.rest.dsure hcc (by rw [HF.out.rest.rsure]; decide) (fun m n e => by subst e; exact Hp.out.ren j hlt m n v hp) (by have := Hp.out.len j (by omega); unfold maxLen; omega)
      have hcall : ∃ g caps, v = .func (.func g) #[] caps ∧ Enters Tryz.prog g ∧ Calls Tryz.prog g (#[.map (some d.ms)] ++ caps) wr (ChgDone d.ms (ch.on (playD d j)) wr) := hcall
      rw [Hms.out] at hcall
      obtain ⟨g, caps, rfl, hent0, hcall⟩ := hcall
      have hent : ∀ (args : Array Value) (w : World), (callFunc g args).run Tryz.prog w = .ok (.enter g args) w := hent0
      have Hcall := Lib.hid hcall
      have Hpp := Lib.hid hp
      cases hsl
      clear hcall hent0 h3 hp hmem hcc hpre hrd hlen
      go_wp2_with fail
      refine (Hcall.out).mono ?_; rintro e w1 ⟨rfl, hd1, hk1⟩
      have hF1 : FsAt w1 f { d with sure := playD d (j + 1) } ρ := by
        have hfm : f ≠ d.ms := Rho.ne HF.out.role HF.out.rest.rsure (by decide)
        rw [← Hms.out] at hk1 hd1
        rw [← playD_succ Hpp.out] at hd1
        have hr := HF.out.rest.sureSet (l' := playD d (j + 1)) hk1 hd1 (Hp.out.file _ (by omega))
        exact ⟨HF.out.role, hk1.heap HF.out.hd hfm, hr⟩
      have hst1 : FsStep w ρ w1 ρ := Hst.out.trans (FsStep.one HF.out.rest.rsure (by rw [← Hms.out] at hk1; exact hk1))
      have HF1 := Lib.hid hF1
      have Hst1 := Lib.hid hst1
      clear hF1 hst1 hd1 hk1
      go_wp2
      go_roundw
      case rel => exact ⟨j + 1, by omega, by simp, HF1.out, Hst1.out⟩
      case measure => simp [intOf] <;> omega
    · have hje : j = kd := by omega
      subst hje
      have hjl : ¬ ((j : Int) < (j : Int)) := by omega
      have hown : wr.ownsMap Tryz.prog 9 ptrElem d.ms (playD d j).length (dirD (playD d j)) := HF.out.rest.dsure
      have hap := dir_apart HF.out.rest.dsure
      rw [Hms.out] at hown
      obtain ⟨S, hS⟩ : ∃ S, playD d j = S := ⟨_, rfl⟩
      rw [hS] at hown hap HF
      have hap : S.Pairwise (fun p q => p.1 ≠ q.1) := hap
      have Hap := Lib.hid hap
      have HS := Lib.hid hS
      clear hap hS m2 hcL
      go_wp2_with (at_range; go_loud (refine wpList_range_own _ rfl _ 93 rfl 9 98 keyed_str Tryz.underlying93 ptrElem ms S.length (dirD S) rfl hown ?_; intro w0 hrg0 hg0 hs0))
      obtain ⟨B, hB⟩ : ∃ B, wr.heap.size = B := ⟨_, rfl⟩
      rw [hB] at hrg0 ⊢
      have hb0 : Below wr.heap.size wr w0 := (Below.refl _ _).grown hg0 (Nat.le_refl _) (fun j hj => by cases hj)
      have hF0 := HF.out.below hb0
      have hst0 : FsStep w ρ w0 ρ := Hst.out.trans (FsStep.below hb0)
      have hBr : ρ B = none := by
        cases hr : ρ B with
        | none => rfl
        | some r => have := HF.out.rest.lt B (by rw [hr]; rfl); omega
      have hBw : w.heap.size ≤ B := by rw [← hB]; exact Hst.out.keeps.size
      have hfs0 : ∀ x, (fun k => d.file k) x = d.file x := fun _ => rfl
      have HF0 := Lib.hid hF0
      have Hst0 := Lib.hid hst0
      have HBr := Lib.hid hBr
      have hHd : Hid (FsHd w f d) := Lib.hid H.out.hd
      clear hF0 hst0 hs0 hb0 hB hBr HF Hst c1' hlt hj hjl
      try go_frame
      go_loopw [9] (fun x wr => ∃ left cnt fk ρk, wr.ranges Tryz.prog 9 ptrElem ms B S.length (dirD S) left cnt ∧ FsAt wr f { d with sure := S, file := fk } ρk ∧ FsStep w ρ wr ρk ∧ Hid (CutF bn d.file fk (seenF S left)) ∧ Hid (ρk B = none ∧ B < wr.heap.size)) (fun _ wr => wr.rangeLeft ms B)
      case atStart =>
        exact ⟨_, _, d.file, ρ, hrg0, HF0.out, Hst0.out, Lib.hid (CutF.start seenF_start), Lib.hid ⟨HBr.out, hrg0.lt⟩⟩
      case round =>
        obtain ⟨left, cnt, fk, ρk, hrg, hF, hst, hcut, hBk⟩ := hrel
        have HF := Lib.hid hF
        have Hst := Lib.hid hst
        clear hF hst
        go_wp2_with (at_next; go_loud (refine wpList_next_ranges (α := Nm) (β := Option Nat) _ rfl _ rfl 9 keyed_str ptrElem (fun l : Nm => .string (strL l)) ptrOf (fun key kl hk => by obtain ⟨x, hx, _⟩ := Maps.keyOf_str Tryz.underlying9 hk; exact ⟨x, hx⟩) (fun v y hv => by rcases ptrElem_inv hv with ⟨rfl, _⟩ | ⟨b, rfl, _⟩; exact ⟨none, rfl⟩; exact ⟨some b, rfl⟩) ms B S.length (dirD S) left cnt rfl hrg ?_ ?_))
        · intro hc0 hl0
          have hown2 : wr.ownsMap Tryz.prog 9 ptrElem ms S.length (dirD S) := hrg.owns
          have hcl : Calls Tryz.prog 72 #[.map (some ms)] wr fun e w' => e = .returned (.map (some wr.heap.size)) ∧ w'.ownsMap Tryz.prog 9 ptrElem wr.heap.size S.length (dirD S) ∧ w'.ownsMap Tryz.prog 9 ptrElem ms S.length (dirD S) ∧ Below wr.heap.size wr w' :=
            AnyW.maps_Clone_owns Tryz.cloneM 9 ptrElem ms S.length (dirD S) wr hown2
          have c1' : wr.cell? ⟨f, 1, none⟩ = some (.map (some ms)) := by rw [← Hms.out]; exact (fsHd_cells HF.out.hd).1.2.1
          have hall : CutF bn d.file fk (fun x => ∃ n, (n, x) ∈ S) := fun x => ⟨(hcut.out x).1, fun c hc => by
            obtain ⟨c', h1, h2⟩ := (hcut.out x).2 c hc
            exact ⟨c', h1, h2.imp id (fun h => ⟨h.1, fun ⟨n, hn⟩ => h.2 ⟨n, hn, hl0 _⟩⟩)⟩⟩
          have Hall := Lib.hid hall
          have Hcl := Lib.hid hcl
          clear hall hcl hown2 hc0 hl0 hrg hcut hBk
          go_wp2_with fail
          refine (Hcl.out).mono ?_; rintro e w3 ⟨rfl, hd3, _, hb3⟩
          have hF3 := HF.out.below hb3
          obtain ⟨⟨x0, x1, x2, x3, x4, x5⟩, hfz⟩ := fsHd_cells hF3.hd
          have y0 := hfz 0
          have y2 := hfz 2
          have y4 := hfz 4
          have y5 := hfz 5
          have HF3 := Lib.hid hF3
          have Hd3' := Lib.hid hd3
          have Hb3 := Lib.hid hb3
          dsimp only at x2 x4 x5
          obtain ⟨lv, hlv⟩ : ∃ lv, d.lv = lv := ⟨_, rfl⟩
          obtain ⟨fu, hfu⟩ : ∃ fu, d.fuse = fu := ⟨_, rfl⟩
          obtain ⟨dn, hdn⟩ : ∃ dn, d.down = dn := ⟨_, rfl⟩
          rw [hlv] at x2
          rw [hfu] at x4
          rw [hdn] at x5
          clear hF3 hd3 hb3 x1 x3 hfz hlv hfu hdn c1'
          go_wp2
          go_end0
          obtain ⟨w4, hw4⟩ : ∃ w4, (((w3.setCell ⟨f, 0, none⟩ (.map (some wr.heap.size))).setCell ⟨f, 2, none⟩ (.slice none 0 0)).setCell ⟨f, 4, none⟩ (.int .i64 (-1))).setCell ⟨f, 5, none⟩ (.bool false) = w4 := ⟨_, rfl⟩
          rw [hw4]
          have hk4 : Keeps (fun k => k = f) w3 w4 := by rw [← hw4]; exact (((Keeps.setCell (F := fun k => k = f) w3 ⟨f, 0, none⟩ _ rfl).trans (Keeps.setCell _ _ _ rfl)).trans (Keeps.setCell _ _ _ rfl)).trans (Keeps.setCell _ _ _ rfl)
          have hh4 : FsHd w4 f { d with now := S, sure := S, mn := wr.heap.size, loose := [], lv := .slice none 0 0, fuse := -1, down := false, file := fk } := by rw [← hw4]; exact heap_setCell_same _ _ 5 _ _ _ (heap_setCell_same _ _ 4 _ _ _ (heap_setCell_same _ _ 2 _ _ _ (heap_setCell_same _ _ 0 _ _ _ HF3.out.hd)))
          have hmn : ρk wr.heap.size = none := Rho.none_of HF.out.rest.lt (Nat.le_refl _)
          have hd4 : DirAt w4 wr.heap.size S := ownsMap_keeps Hd3'.out hk4 (fun e => by rw [e, HF.out.role] at hmn; cases hmn)
          have hr4 := HF3.out.rest.reborn HF3.out.role hk4 hd4 hmn
          refine ⟨{ d with now := S, sure := S, mn := wr.heap.size, loose := [], lv := .slice none 0 0, fuse := -1, down := false, file := fk }, ρk.set wr.heap.size .now, rfl, ⟨?_, ?_, rfl, rfl, rfl, rfl, ?_⟩, ⟨Rho.set_up hmn _ _ HF3.out.role, hh4, hr4⟩, ?_⟩
          · exact HS.out.symm
          · exact HS.out.symm
          · rw [HS.out]; exact Hall.out
          · have hst3 := Hst.out.trans (FsStep.below Hb3.out)
            refine ⟨hst3.keeps.go hk4 (fun i e => .inl (by rw [e]; exact Rho.has_of H.out.role)), fun k hk => ?_⟩
            by_cases e : k = wr.heap.size
            · exact .inr (by rw [e]; exact Hst.out.keeps.size)
            · unfold Rho.has at hk; rw [Rho.set_other e] at hk; exact hst3.grow k hk
        · intro x c kl yd yp w1 cnt1 hkey hlk hv hat hrg1 hlt hg1 hs1 hen
          have hkl : kl = .string x := by
            obtain ⟨x', ex, rfl, _⟩ := Maps.keyOf_str Tryz.underlying9 hkey
            have : strL x = strL x' := by injection ex
            rw [strL_inj this]
          subst hkl
          have h0 := hat .nil
          have h1 := hat (.lit (.bool true))
          rw [dirD_at] at h0 h1
          cases hlook : S.look x with
          | none => rw [hlook] at h0 h1; rw [← h0] at h1; cases h1
          | some fx =>
            rw [hlook] at h0
            have hcx : c = some fx := by
              cases c with
              | none => have : ptrElem (.pointer none) = some (yd, yp) := hv; cases this; cases h0
              | some c' =>
                have : ptrElem (.pointer (some ⟨c', 0, none⟩)) = some (yd, yp) := hv
                cases this
                injection h0 with h0; injection h0 with _ h0
                have : fx = c' := by omega
                rw [this]
            subst hcx
            have hen : (Instr.entry (.pointer (some ⟨B, 0, none⟩))).run Tryz.prog w1 = .ok (.tuple #[.string (strL x), .pointer (some ⟨fx, 0, none⟩)]) w1 := hen
            have hF1 : FsAt w1 f { d with sure := S, file := fk } ρk := HF.out.keeps (F := fun k => k = B) ((Keeps.grown hg1).mono (fun i _ e => (Option.some.inj e).symm)) (fun k e => by rw [e]; exact hBk.out.1)
            have hst1 : FsStep w ρ w1 ρk := ⟨Hst.out.keeps.go ((Keeps.grown hg1).mono (F := fun k => some B = some k) (G := fun k => k = B) (fun i _ e => (Option.some.inj e).symm)) (fun i e => .inr (by rw [e]; exact hBw)), Hst.out.grow⟩
            have hsz1 : wr.heap.size ≤ w1.heap.size := (Keeps.grown hg1).size
            obtain ⟨cf, hcf⟩ := Option.isSome_iff_exists.1 (hF1.rest.fsure _ (look_mem hlook))
            have hcf : fk fx = some cf := hcf
            have hfx := hF1.rest.files fx cf hcf
            obtain ⟨⟨x0, x1⟩, y0, y1⟩ := cells2 hfx.hd
            obtain ⟨aR, cR, hrow⟩ := own_form0 hfx.own
            rw [hrow] at x0
            have hmem := look_mem hlook
            have HF1 := Lib.hid hF1
            have Hst1 := Lib.hid hst1
            have Hfx := Lib.hid hfx
            have Hcf := Lib.hid hcf
            have Hrow := Lib.hid hrow
            have Hmem := Lib.hid hmem
            have Hsz := Lib.hid (Nat.lt_of_lt_of_le hBk.out.2 hsz1)
            have HB := Lib.hid hBk.out.1
            have i1 : (cf.sure : Int) ≤ (cf.bytes.length : Int) := by have := hfx.sure; omega
            have i2 : (cf.bytes.length : Int) ≤ 16777216 := by have := hfx.small; omega
            have w1' : IntKind.i64.wrap ((cf.bytes.length : Int) - (cf.sure : Int)) = (cf.bytes.length : Int) - (cf.sure : Int) := IntWalk.i64_in _ (by omega)
            obtain ⟨mm, hmm⟩ : ∃ mm, min bn (cf.bytes.length - cf.sure) = mm := ⟨_, rfl⟩
            have w2' : min (bn : Int) ((cf.bytes.length : Int) - (cf.sure : Int)) = (mm : Int) := by omega
            obtain ⟨sn, hsn⟩ : ∃ sn, sureTo bn cf = sn := ⟨_, rfl⟩
            have hsn2 : sn = cf.sure + mm := by rw [← hsn]; unfold sureTo; omega
            have i3 : (sn : Int) ≤ (cf.bytes.length : Int) := by omega
            have i4 : (0 : Int) ≤ (sn : Int) := by omega
            have w3' : IntKind.i64.wrap ((cf.sure : Int) + (mm : Int)) = (sn : Int) := by rw [IntWalk.i64_in _ (by omega)]; omega
            have Hsn := Lib.hid hsn
            clear hmm hsn hsn2
            clear hs1 h0 h1 hat hlook hcf hfx hrow hlk hkey hv hF1 hst1 hmem HF Hst hsz1 hBk
            generalize strL x = sx at hen
            have hpo : ptrOf (some fx) = Value.pointer (some ⟨fx, 0, none⟩) := rfl
            rw [hpo]
            go_upto_region 10 with fail
            have hcR : (cf.bytes.length : Int) ≤ (cR : Int) := by
              have := (rdB_ofOwn Hfx.out.own).form
              obtain ⟨a', c', e1, e2, _⟩ := this
              rw [Hrow.out] at e1; cases e1; omega
            go_region
            obtain ⟨W3, hW3⟩ : ∃ W3, (w1.setCell ⟨fx, 1, none⟩ (.int .i64 (sn : Int))).drew = W3 := ⟨_, rfl⟩
            rw [hW3]
            have hh3 : W3.heap[fx]? = some (.cells #[.slice aR cf.bytes.length cR, .int .i64 (sn : Int)] 101 (0, 0)) := by
              rw [← hW3, ← Hrow.out]; exact heap_setCell_same _ _ 1 _ _ _ Hfx.out.hd
            have hk3 : Keeps (fun k => k = fx) w1 W3 := by rw [← hW3]; exact (Keeps.setCell (F := fun k => k = fx) w1 ⟨fx, 1, none⟩ _ rfl).go (Keeps.ofBelow (F := fun _ => False) (Below.refl _ _).drew) (fun i e => False.elim e)
            have hrx : ∀ k, cf.row.ownBlock = some k → k ≠ fx := fun k e => Rho.ne (Hfx.out.rown k e) Hfx.out.role (by intro q; cases q)
            have hrb : RdB W3 (.slice aR cf.bytes.length cR) cf.bytes := by
              have := rdB_ofOwn (own_keeps Hfx.out.own hk3 (fun k e q => hrx k e q))
              rw [Hrow.out] at this; exact this
            have hcl := clone_calls (.slice aR sn cR) (cf.bytes.take sn) W3.drew (RdB.pre hrb sn (by omega)) (by rw [List.length_take]; omega)
            have hlt3 : fx < W3.drew.heap.size := (Array.getElem?_eq_some_iff.1 hh3).1
            have hln : (cf.bytes.take sn).length = sn := by rw [List.length_take]; omega
            have Hcl := Lib.hid hcl
            have Hh3 : Hid (W3.drew.heap[fx]? = some (.cells #[.slice aR cf.bytes.length cR, .int .i64 (sn : Int)] 101 (0, 0))) := Lib.hid hh3
            have z0 : W3.drew.cell? ⟨fx, 0, none⟩ = some (.slice aR cf.bytes.length cR) := (cells2 hh3).1.1
            have HS3 : Hid (W3.drew.cell? ⟨fx, 1, none⟩ = some (.int .i64 (sn : Int))) := Lib.hid (cells2 hh3).1.2
            have Hlt3 := Lib.hid hlt3
            have Hk3 := Lib.hid hk3
            have Hrx := Lib.hid hrx
            have Hln := Lib.hid hln
            have HW3 := Lib.hid hW3
            have i5 : (sn : Int) ≤ (cR : Int) := by omega
            clear hcl hlt3 hh3 hk3 hrx hrb x0 x1 y0 y1 hln hW3
            go_upto_region 11 with fail
            refine wp_region_noPanic ?_
            refine wp_region_held_drew (S := (fun w' : World => w'.cell? ⟨fx, 1, none⟩ = some (.int .i64 (sn : Int)))) (by kernel_rfl) (by first | with_reducible exact HS3.out | exact Hk4.out | exact Hk5.out) (fun hHeld => ?_)
            refine wpAnyH_take (i := 0) (oi := _) (v := ?_) (by simp only [List.getElem?_toArray, List.getElem?_cons_succ, List.getElem?_cons_zero]; rfl) (by kernel_rfl) (by kernel_rfl) (by kernel_rfl) (fun _ _ _ h => h) (Or.inl ⟨by rfl, ?_⟩) (by assumption) ?_
            rotate_left
            · intro w hSw; (try dsimp only at hSw); go_simp; (try with_reducible rfl)
            try simp only [Act.put, List.setIfInBounds_toArray, List.set_cons_zero, List.set_cons_succ]
            refine wpAnyH_take (i := 1) (oi := _) (v := ?_) (by simp only [List.getElem?_toArray, List.getElem?_cons_succ, List.getElem?_cons_zero]; rfl) (by kernel_rfl) (by kernel_rfl) (by kernel_rfl) (fun _ _ _ h => h) (Or.inl ⟨by rfl, ?_⟩) (by assumption) ?_
            rotate_left
            · intro w hSw; (try dsimp only at hSw); go_simp; (try with_reducible rfl)
            try simp only [Act.put, List.setIfInBounds_toArray, List.set_cons_zero, List.set_cons_succ]
            refine wpAnyH_take (i := 2) (oi := _) (v := ?_) (by simp only [List.getElem?_toArray, List.getElem?_cons_succ, List.getElem?_cons_zero]; rfl) (by kernel_rfl) (by kernel_rfl) (by kernel_rfl) (fun _ _ _ h => h) (Or.inl ⟨by rfl, ?_⟩) (by assumption) ?_
            rotate_left
            · intro w hSw; (try dsimp only at hSw); go_simp; (try with_reducible rfl)
            try simp only [Act.put, List.setIfInBounds_toArray, List.set_cons_zero, List.set_cons_succ]
            refine wpAnyH_take (i := 3) (oi := _) (v := ?_) (by simp only [List.getElem?_toArray, List.getElem?_cons_succ, List.getElem?_cons_zero]; rfl) (by kernel_rfl) (by kernel_rfl) (by kernel_rfl) (fun _ _ _ h => h) (Or.inl ⟨by rfl, ?_⟩) (by assumption) ?_
            rotate_left
            · intro w hSw; (try dsimp only at hSw); go_simp; (try with_reducible rfl)
            try simp only [Act.put, List.setIfInBounds_toArray, List.set_cons_zero, List.set_cons_succ]
            refine wpAnyH_take (i := 5) (oi := _) (v := ?_) (by simp only [List.getElem?_toArray, List.getElem?_cons_succ, List.getElem?_cons_zero]; rfl) (by kernel_rfl) (by kernel_rfl) (by kernel_rfl) (fun _ _ _ h => h) (Or.inl ⟨by rfl, ?_⟩) (by assumption) ?_
            rotate_left
            · intro w hSw; (try dsimp only at hSw); go_simp; (try with_reducible rfl)
            try simp only [Act.put, List.setIfInBounds_toArray, List.set_cons_zero, List.set_cons_succ]
            refine wpAnyH_take (i := 6) (oi := _) (v := ?_) (by simp only [List.getElem?_toArray, List.getElem?_cons_succ, List.getElem?_cons_zero]; rfl) (by kernel_rfl) (by kernel_rfl) (by kernel_rfl) (fun _ _ _ h => h) (Or.inl ⟨by rfl, ?_⟩) (by assumption) ?_
            rotate_left
            · intro w hSw; (try dsimp only at hSw); go_simp; (try with_reducible rfl)
            try simp only [Act.put, List.setIfInBounds_toArray, List.set_cons_zero, List.set_cons_succ]
            refine wpAnyH_take (i := 7) (oi := _) (v := ?_) (by simp only [List.getElem?_toArray, List.getElem?_cons_succ, List.getElem?_cons_zero]; rfl) (by kernel_rfl) (by kernel_rfl) (by kernel_rfl) (fun _ _ _ h => h) (Or.inl ⟨by rfl, ?_⟩) (by assumption) ?_
            rotate_left
            · intro w hSw; (try dsimp only at hSw); go_simp; (try with_reducible rfl)
            try simp only [Act.put, List.setIfInBounds_toArray, List.set_cons_zero, List.set_cons_succ]
            refine wpAnyH_take (i := 8) (oi := _) (v := ?_) (by simp only [List.getElem?_toArray, List.getElem?_cons_succ, List.getElem?_cons_zero]; rfl) (by kernel_rfl) (by kernel_rfl) (by kernel_rfl) (fun _ _ _ h => h) (Or.inl ⟨by rfl, ?_⟩) (by assumption) ?_
            rotate_left
            · intro w hSw; (try dsimp only at hSw); go_simp; (try with_reducible rfl)
            try simp only [Act.put, List.setIfInBounds_toArray, List.set_cons_zero, List.set_cons_succ]
            refine wpAnyH_ready (rs := [4]) (by kernel_rfl) (by simp) ?_
            refine AllReadyH.cons (o := _) (by simp only [List.getElem?_toArray, List.getElem?_cons_succ, List.getElem?_cons_zero]; rfl) (fun K hK => ?_) AllReadyH.nil
            go_simp
            skip
            refine hK.out _ _ (by (try dsimp only); first | with_reducible exact HS3.out | exact Hk4.out | exact Hk5.out) (fun hHeld => ?_)
            clear hK K
            try simp only [Act.put, List.setIfInBounds_toArray, List.set_cons_zero, List.set_cons_succ]
            refine wpAnyH_take (i := 9) (oi := _) (v := ?_) (by simp only [List.getElem?_toArray, List.getElem?_cons_succ, List.getElem?_cons_zero]; rfl) (by kernel_rfl) (by kernel_rfl) (by kernel_rfl) (fun _ _ _ h => h) (Or.inl ⟨by rfl, ?_⟩) (by assumption) ?_
            rotate_left
            · intro w hSw; (try dsimp only at hSw); go_simp; (try with_reducible rfl)
            try simp only [Act.put, List.setIfInBounds_toArray, List.set_cons_zero, List.set_cons_succ]
            refine wpAnyH_ready (rs := [10]) (by kernel_rfl) (by simp) ?_
            refine AllReadyH.cons (o := _) (by simp only [List.getElem?_toArray, List.getElem?_cons_succ, List.getElem?_cons_zero]; rfl) (fun K hK => ?_) AllReadyH.nil
            go_simp
            go_at_call 71; refine (Hcl.out).mono ?_; rintro e w4 ⟨v4, rfl, hown4, hb4⟩; rw [Hln.out] at hown4; obtain ⟨aN, cN, hvN⟩ := own_form0 hown4; subst hvN; have Hown4 := Lib.hid hown4; have Hb4 := Lib.hid hb4; have Hk4 : Hid (w4.cell? ⟨fx, 1, none⟩ = some (.int .i64 (sn : Int))) := Lib.hid (((below_cell hb4).1 fx 1 Hlt3.out).trans HS3.out); have hh4 : w4.heap[fx]? = some (.cells #[.slice aR cf.bytes.length cR, .int .i64 (sn : Int)] 101 (0, 0)) := ((Keeps.ofBelow hb4).heap (F := fun _ => False) Hh3.out id); have q2 := (cells2 hh4).1.1; have q3 := (cells2 hh4).2.1; have Hh4 := Lib.hid hh4; clear hown4 hb4 hh4
            refine hK.out _ _ (by (try dsimp only); first | with_reducible exact HS3.out | exact Hk4.out | exact Hk5.out) (fun hHeld => ?_)
            clear hK K
            try simp only [Act.put, List.setIfInBounds_toArray, List.set_cons_zero, List.set_cons_succ]
            refine wpAnyH_take (i := 11) (oi := _) (v := ?_) (by simp only [List.getElem?_toArray, List.getElem?_cons_succ, List.getElem?_cons_zero]; rfl) (by kernel_rfl) (by kernel_rfl) (by kernel_rfl) (fun _ _ _ h => h) (Or.inl ⟨by rfl, ?_⟩) (by assumption) ?_
            rotate_left
            · intro w hSw; (try dsimp only at hSw); go_simp; (try with_reducible rfl)
            try simp only [Act.put, List.setIfInBounds_toArray, List.set_cons_zero, List.set_cons_succ]
            refine wpAnyH_take (i := 12) (oi := _) (v := ?_) (by simp only [List.getElem?_toArray, List.getElem?_cons_succ, List.getElem?_cons_zero]; rfl) (by kernel_rfl) (by kernel_rfl) (by kernel_rfl) (fun _ _ _ h => h) (Or.inl ⟨by rfl, ?_⟩) (by assumption) ?_
            rotate_left
            · intro w hSw; (try dsimp only at hSw); go_simp; (try with_reducible rfl)
            try simp only [Act.put, List.setIfInBounds_toArray, List.set_cons_zero, List.set_cons_succ]
            refine wpAnyH_ready (rs := [13]) (by kernel_rfl) (by simp) ?_
            refine AllReadyH.cons (o := _) (by simp only [List.getElem?_toArray, List.getElem?_cons_succ, List.getElem?_cons_zero]; rfl) (fun K hK => ?_) AllReadyH.nil
            go_simp
            have Hk5 : Hid ((w4.setCell ⟨fx, 0, none⟩ (.slice aN sn cN)).cell? ⟨fx, 1, none⟩ = some (.int .i64 (sn : Int))) := Lib.hid ((cells2 (heap_setCell_same _ _ 0 _ _ _ Hh4.out)).1.2)
            refine hK.out _ _ (by (try dsimp only); first | with_reducible exact HS3.out | exact Hk4.out | exact Hk5.out) (fun hHeld => ?_)
            clear hK K
            try simp only [Act.put, List.setIfInBounds_toArray, List.set_cons_zero, List.set_cons_succ]
            refine wpAnyH_done (by kernel_rfl) ?_ _
            refine NoPanic.normal ?_
            skip
            obtain ⟨w5, hw5⟩ : ∃ w5, w4.setCell ⟨fx, 0, none⟩ (.slice aN sn cN) = w5 := ⟨_, rfl⟩
            rw [hw5]
            obtain ⟨VL, hVL⟩ : ∃ VL, Value.slice aN sn cN = VL := ⟨_, rfl⟩
            have hk5 : Keeps (fun k => k = fx) w4 w5 := by rw [← hw5]; exact Keeps.setCell _ _ _ rfl
            have hk1 : Keeps (fun k => k = fx) w1 w5 := ((Hk3.out.go (Keeps.ofBelow (F := fun _ => False) (Below.refl _ _).drew) (fun i e => False.elim e)).go (Keeps.ofBelow (F := fun _ => False) Hb4.out) (fun i e => False.elim e)).trans hk5
            have hsz3 : w1.heap.size ≤ W3.drew.heap.size := Hk3.out.size
            have hown4' := Hown4.out
            rw [hVL] at hown4'
            have hloc : ∀ k, VL.ownBlock = some k → w1.heap.size ≤ k := fun k e => Nat.le_trans hsz3 (own_base hown4' k e)
            have hlt1 := HF1.out.rest.lt
            have hfl : fx < w1.heap.size := hlt1 fx (by rw [Hfx.out.role]; rfl)
            have hup := Rho.add_up2 (r0 := .bytes fx) hlt1 hloc
            have hown5 : w5.ownsRow 0 5 1 VL sn ((cf.bytes.take sn).map u8v) := own_mono (own_keeps hown4' hk5 (fun k e q => by have := hloc k e; omega)) (Nat.zero_le _)
            have hfx5 : FileAt' w5 (ρk.add VL (.bytes fx)) fx ⟨cf.bytes.take sn, sn, VL⟩ := by
              refine ⟨hup _ _ Hfx.out.role, ?_, ?_, ?_, ?_, ?_⟩
              · rw [← hw5, hVL]; exact heap_setCell_same _ _ 0 _ _ _ Hh4.out
              · show w5.ownsRow 0 5 1 VL (cf.bytes.take sn).length _
                rw [Hln.out]; exact hown5
              · intro k e; show (ρk.add VL (.bytes fx)) k = _; unfold Rho.add; rw [if_pos e]
              · show (cf.bytes.take sn).length ≤ _
                rw [Hln.out]; omega
              · show sn ≤ (cf.bytes.take sn).length
                rw [Hln.out]; omega
            have hlt5 : ∀ k, ((ρk.add VL (.bytes fx)) k).isSome = true → k < w5.heap.size := by
              intro k e
              unfold Rho.add at e
              by_cases q : VL.ownBlock = some k
              · exact (hown5.lt k q).2
              · rw [if_neg q] at e; exact Nat.lt_of_lt_of_le (hlt1 k e) hk1.size
            have hr := HF1.out.rest.fileSet Hcf.out (hk1.mono (fun i _ e => Or.inl e)) hfx5 hup hlt5
            have hh5 : FsHd w5 f { d with sure := S, file := fk } := hk1.heap HF1.out.hd (fun e => by have := Hfx.out.role; rw [← e, HF1.out.role] at this; cases this)
            have hF5 : FsAt w5 f { d with sure := S, file := fun k => if k = fx then some ⟨cf.bytes.take sn, sn, VL⟩ else fk k } (ρk.add VL (.bytes fx)) := ⟨hup _ _ HF1.out.role, hh5, hr⟩
            have hcut5 := CutF.step (b := bn) (fun c hc => ((H.out.rest.files fx c hc).sure)) hcut.out Hcf.out (c' := ⟨cf.bytes.take sn, sn, VL⟩) ⟨by rw [Hsn.out], Hsn.out.symm⟩ (seenF_step Hap.out Hmem.out)
            have hst5 : FsStep w ρ w5 (ρk.add VL (.bytes fx)) := by
              refine ⟨Hst1.out.keeps.go hk1 (fun i e => ?_), fun k hk => ?_⟩
              · rw [e]
                by_cases q : ρ.has fx
                · exact .inl q
                · exact .inr ((Hst1.out.grow fx (Rho.has_of Hfx.out.role)).elim (fun g => absurd g q) id)
              · rcases Rho.add_has2 (w := w1) hloc k hk with e | e
                · exact Hst1.out.grow k e
                · exact .inr (Nat.le_trans Hst1.out.keeps.size e)
            have hBf : B ≠ fx := fun e => by have := HB.out; rw [e, Hfx.out.role] at this; cases this
            have hB5 : (ρk.add VL (.bytes fx)) B = none := by
              unfold Rho.add
              rw [if_neg (fun e => by have := hloc B e; have := Hsz.out; omega)]; exact HB.out
            have hmf : ms ≠ fx := by rw [← Hms.out]; exact Rho.ne HF1.out.rest.rsure Hfx.out.role (by decide)
            have hrg5 := ranges_keeps hrg1 hk1 hmf hBf
            have Hfin := Lib.hid (And.intro hrg5 (And.intro hF5 (And.intro hst5 (And.intro hcut5 (And.intro hB5 (Nat.lt_of_lt_of_le Hsz.out hk1.size))))))
            clear hw5 hVL hk5 hk1 hsz3 hown4' hloc hlt1 hfl hup hown5 hfx5 hlt5 hr hh5 hF5 hcut5 hst5 hBf hB5 hmf hrg5 q2 q3 z0
            go_wp2
            go_roundw
            case rel => exact ⟨_, cnt1, _, _, Hfin.out.1, Hfin.out.2.1, Hfin.out.2.2.1, Lib.hid Hfin.out.2.2.2.1, Lib.hid Hfin.out.2.2.2.2⟩
            case measure => rw [Hfin.out.1.left_eq, hrg.left_eq]; exact hlt
end Go.Proofs.YtffnbkmigapmjaaGreatDoor

set_option linter.unusedSimpArgs false
set_option linter.unusedVariables false
namespace Go.Proofs.YtffnbkmigapmjaaGreatDoor
open Go.RowKit
set_option maxRecDepth 100000 in
set_option maxHeartbeats 1000000 in
theorem sameMarks_calls (v1 v2 : Value) (ks : List MarkD) (w : World) (h1 : RdM w v1 ks) (h2 : RdM w v2 ks) :
    Calls Tryz.prog 30 #[v1, v2] w fun e w' => e = .returned (.bool true) ∧ Below w.heap.size w w' := by
  obtain ⟨a1, cap1, rfl, hl1, hc1⟩ := h1.form
  obtain ⟨a2, cap2, rfl, hl2, hc2⟩ := h2.form
  go_enter Tryz.func30, Tryz.ntmps30
  go_wp2
  go_loopw [5] (fun i wr => ∃ j : Nat, j ≤ ks.length ∧ i = .int .i64 j ∧ Below w.heap.size w wr) (fun i _ => ks.length - (intOf i).toNat)
  case atStart => exact ⟨0, Nat.zero_le _, rfl, Below.refl _ _⟩
  case round =>
    obtain ⟨j, hj, rfl, hbw⟩ := hrel
    by_cases hlt : j < ks.length
    · obtain ⟨k, hk⟩ : ∃ k, ks[j]? = some k := ⟨_, List.getElem?_eq_getElem hlt⟩
      obtain ⟨b1, o1, c1, e1, _, p0, p1, p2⟩ := RdL.at3 (h1.below (Nat.le_refl _) hbw) hk
      obtain ⟨b2, o2, c2, e2, _, q0, q1, q2⟩ := RdL.at3 (h2.below (Nat.le_refl _) hbw) hk
      cases e1; cases e2
      obtain ⟨kind, rcpt, n⟩ := k
      simp only at p0 p1 p2 q0 q1 q2
      have hi0 : (0 : Int) ≤ (j : Int) := by omega
      have hi1 : (j : Int) < (ks.length : Int) := by omega
      go_wp2
      go_quiet (fail)
      go_wp2
      go_roundw
      case rel => exact ⟨j + 1, by omega, by simp, below_drewN hbw _⟩
      case measure => simp [intOf] <;> omega
    · have hje : j = ks.length := by omega
      subst hje
      go_wp2
      go_ret
      exact ⟨rfl, hbw⟩
end Go.Proofs.YtffnbkmigapmjaaGreatDoor

/-
  The walk of store.recover.
  The walk of store.Open: of whatever lies on the disk.
  What opening a disk of one file comes to (plain).
-/
import Derived.Test.YtffnbkmigapmjaaGreatDoorT35
import Derived.Test.YtffnbkmigapmjaaGreatDoorT43
set_option linter.unusedSimpArgs false
set_option linter.unusedVariables false
set_option maxRecDepth 100000
namespace Go.Proofs.YtffnbkmigapmjaaGreatDoor
open Go.RowKit Go.Maps
def RecoverR (d : StoD) (er : Int) (d' : StoD) : Prop :=
 ∃ ss1 e1 d1, sortedNm d.fs ss1 ∧ OutL TmpS ss1 d e1 d1 ∧ ((e1 ≠ 0 ∧ er = e1 ∧ d' = d1) ∨
  (e1 = 0 ∧ ∃ ss2 e2 d2, sortedNm d1.fs ss2 ∧ OutL RecS ss2 d1 e2 d2 ∧ ((e2 ≠ 0 ∧ er = e2 ∧ d' = d2) ∨ (e2 = 0 ∧ OutL ParS (parL d2) d2 er d'))))
structure RecI (w1 : World) (s : Nat) (d : StoD) (ρ : Rho) (ss : List Nm) (j : Nat) (dj : StoD) (ρj : Rho) (wr : World) : Prop where
 run : RunL RecS d (ss.take j) dj
 at_ : StoOk wr s dj ρj
 step : StoStep w1 s d ρ wr dj ρj
 go : FsGo d.fs dj.fs (6 * j)
 wl : dj.whr.length ≤ d.whr.length + 2 * j
 wk : WhOk dj.whr
theorem RecI.bel {w1 : World} {s : Nat} {d : StoD} {ρ : Rho} {ss : List Nm} {j : Nat} {dj : StoD} {ρj : Rho} {wr w2 : World} (h : RecI w1 s d ρ ss j dj ρj wr) (hb : Below wr.heap.size wr w2) : RecI w1 s d ρ ss j dj ρj w2 :=
 ⟨h.run, h.at_.below hb, h.step.bel hb, h.go, h.wl, h.wk⟩
theorem whOk_put {l : Wh} (h : WhOk l) {n : Int} (hn : 1 ≤ n ∧ n ≤ 999999999) (x : UInt8) : WhOk (l.put n x) := by
 have hi : ∀ (y : Int × UInt8) (l : Wh) (p : Int × UInt8), p ∈ Wh.ins y l → p = y ∨ p ∈ l := by
  intro y l
  induction l with
  | nil => intro p hp; exact .inl (List.mem_singleton.1 hp)
  | cons z r ih =>
   intro p hp
   rw [Wh.ins] at hp
   split at hp
   ·rcases List.mem_cons.1 hp with e | e
    ·exact .inl e
    ·exact .inr e
   ·rcases List.mem_cons.1 hp with e | e
    ·exact .inr (e ▸ List.mem_cons_self ..)
    ·rcases ih p e with e | e
     ·exact .inl e
     ·exact .inr (List.mem_cons_of_mem _ e)
 intro p hp
 rcases hi _ _ p hp with e | e
 ·rw [e]; exact hn
 ·exact h p (List.mem_filter.1 e).1
theorem MendR.wk {d d' : StoD} {q : UInt8} {id er : Int} (h : MendR d q id er d') (hw : WhOk d.whr) (hid : 1 ≤ id ∧ id ≤ 999999999) : WhOk d'.whr := by
 rcases h with ⟨_, _, rfl⟩ | ⟨_, ⟨_, fs2, _, rfl⟩ | ⟨f, _, _, ⟨_, fs2, _, rfl⟩ | ⟨_, _, rfl⟩⟩⟩
 ·exact hw
 ·exact whOk_put hw hid _
 ·exact hw
 ·exact hw
structure RecoverDone (w : World) (s : Nat) (d : StoD) (ρ : Rho) (e : Ending) (w' : World) (er : Int) (d' : StoD) (ρ' : Rho) : Prop where
 ret : e = .returned (.int .i64 er)
 out : RecoverR d er d'
 at_ : StoOk w' s d' ρ'
 step : StoStep w s d ρ w' d' ρ'
 go : FsGo d.fs d'.fs 100000
theorem perm_len {fs : FsD} {ss : List Nm} (h : sortedNm fs ss) (hn : fs.now.length ≤ 256) : ss.length ≤ 256 := by
 have := (sortedNm.perm h).length_eq
 rw [List.length_map] at this; omega
theorem perm_nm {fs : FsD} {ss : List Nm} (h : sortedNm fs ss) (hn : NmOk fs) {n : Nm} (hm : n ∈ ss) : n.length ≤ 1000 := by
 have := (sortedNm.perm h).mem_iff.1 hm
 obtain ⟨p, hp, rfl⟩ := List.mem_map.1 this
 exact hn p hp
set_option maxHeartbeats 32000000 in
theorem recover_calls (s : Nat) (d : StoD) (ρ : Rho) (w : World) (h : StoOk w s d ρ) (hll : d.fs.loose.length ≤ 600000) (hwl : d.whr.length ≤ 1000) (hwk : WhOk d.whr) (hdn : d.fs.down = false) (hnm : NmOk d.fs) :
 Calls Tryz.prog 56 #[.pointer (some ⟨s, 0, none⟩)] w fun e w' => ∃ er d' ρ', RecoverDone w s d ρ e w' er d' ρ' := by
 have c0 := (cells4 h.at_.hd).1.1
 have hlist := list_calls d.fb d.fs ρ w h.at_.fs hdn h.ok.n
 obtain ⟨fb, hfb⟩ : ∃ fb, d.fb = fb := ⟨_, rfl⟩
 rw [hfb] at hlist c0
 have Hlist := Lib.hid hlist
 have Hfb := Lib.hid hfb
 have H := Lib.hid (And.intro h (And.intro hll (And.intro hwl (And.intro hwk (And.intro hdn hnm)))))
 clear hlist hfb h hll hwl hwk hdn hnm
 go_enter Tryz.func56, Tryz.ntmps56
 go_wp2_with fail
 refine (Hlist.out).mono ?_; rintro e w1 ⟨v, ss, rfl, hss, hl, hrow, hb1⟩
 have hO1 := H.out.1.below hb1
 have hlen := perm_len hss H.out.1.ok.n
 obtain ⟨av, cv, rfl⟩ := own_form0 hrow
 have hrd1 : RdS w1 (.slice av ss.length cv) ss := rdL_ofOwn s1_len (by decide) hrow
 have Hrd := Lib.hid (And.intro hrd1 (fun b o l c (e : Value.slice av ss.length cv = .slice (some ⟨b, o, none⟩) l c) (g : stoOwn s d ρ b) => (by
  have h1 := (hrow.lt b (by rw [e]; rfl)).1
  have h2 := stoOwn_lt H.out.1.at_ g
  omega : False)))
 have H1 := Lib.hid (And.intro hO1 (And.intro (StoStep.below (s := s) (d := d) (ρ := ρ) hb1) (And.intro hss (fun n (hn : n ∈ ss) => perm_nm hss H.out.2.2.2.2.2 hn))))
 clear hrow hrd1 hO1 hb1 hss hl c0
 go_wp2
 go_loopw [4, 5, 6, 7, 8, 21] (fun x1 x2 x3 x4 x5 i wr => ∃ j : Nat, ∃ dj ρj, j ≤ ss.length ∧ i = .int .i64 j ∧ Hid (TmpI w1 s d ρ ss j dj ρj wr)) (fun _ _ _ _ _ i _ => ss.length - (intOf i).toNat)
 case atStart => exact ⟨0, d, ρ, Nat.zero_le _, rfl, Lib.hid ⟨.nil, H1.out.1, StoStep.refl _ _ _ _, FsGo.refl H.out.1.ok, H.out.2.2.2.2.1, H.out.2.2.2.2.2, rfl⟩⟩
 case round =>
  obtain ⟨j, dj, ρj, hj, rfl, hP⟩ := hrel
  by_cases hlt : j < ss.length
  ·obtain ⟨n, hn⟩ : ∃ n, ss[j]? = some n := ⟨_, List.getElem?_eq_getElem hlt⟩
   obtain ⟨b, off, cap', hsl, hbl, h3⟩ := RdS.at (Hrd.out.1.keeps hP.out.step.keeps (fun b o l c e => Hrd.out.2 b o l c e)) hn
   have hc := h3
   cases hsl
   have hpa := parse_calls n (H1.out.2.2.2 n (List.mem_of_getElem? hn)) wr hP.out.at_.g
   have hj0 : (0 : Int) ≤ (j : Int) := by omega
   have hj1 : (j : Int) < (ss.length : Int) := by omega
   have hnl : n.length ≤ maxLen := by have := H1.out.2.2.2 n (List.mem_of_getElem? hn); unfold maxLen; omega
   obtain ⟨tn, htn⟩ : ∃ tn, strL n = tn := ⟨_, rfl⟩
   rw [htn] at hpa hc
   have Hpa := Lib.hid hpa
   have Hn := Lib.hid (And.intro hn (And.intro hnl htn))
   clear hpa hn hnl htn h3 hbl
   go_wp2_with fail
   refine (Hpa.out).mono ?_; rintro e w2 ⟨q, m, b2, rfl, ht, hf, hb2⟩
   have hP2 := hP.out.bel hb2
   have HP2 := Lib.hid (And.intro hP2 (And.intro ht hf))
   clear hP hP2 ht hf hb2 hc
   cases b2 with
   | false =>
    have hs : TmpS n dj 0 dj := .inl ⟨fun m' => HP2.out.2.2 rfl 116 m', rfl, rfl⟩
    have Hs := Lib.hid hs
    clear hs
    go_wp2
    go_roundw
    case rel => exact ⟨j + 1, dj, ρj, by omega, by simp, Lib.hid ⟨HP2.out.1.run.take_succ Hn.out.1 Hs.out, HP2.out.1.at_, HP2.out.1.step, HP2.out.1.go.mono (by omega), HP2.out.1.down, HP2.out.1.nm, HP2.out.1.wh⟩⟩
    case measure => simp [intOf] <;> omega
   | true =>
    have hso := HP2.out.2.1 rfl
    by_cases hq : q = 116
    ·subst hq
     have h116 : ((116 : UInt8).toNat : Int) = 116 := rfl
     rw [h116]
     have c0 := (cells4 HP2.out.1.at_.at_.hd).1.1
     have hul := (unlink_calls dj.fb dj.fs ρj n w2 HP2.out.1.at_.at_.fs Hn.out.2.1 HP2.out.1.at_.ok.fuse HP2.out.1.at_.ok.n (by have := HP2.out.1.go.2; have := H.out.2.1; omega)).mono fun e w' ⟨v, lv, ρ', a, b, c⟩ => (⟨v, lv, ρ', FsDone.mk a b c⟩ : ∃ v lv ρ', FsDone dj.fb ρj w2 e w' (unlinkD dj.fs n v lv).1 (unlinkD dj.fs n v lv).2 ρ')
     rw [Hn.out.2.2] at hul
     obtain ⟨fj, hfj⟩ : ∃ fj, dj.fb = fj := ⟨_, rfl⟩
     rw [hfj] at hul c0
     have Hfj := Lib.hid hfj
     have Hul := Lib.hid hul
     have Hso := Lib.hid hso
     clear hul hso hfj h116
     go_wp2_with fail
     refine (Hul.out).mono ?_; rintro e w3 ⟨v2, lv2, ρ3, rfl, hF3, hst3⟩
     rw [← Hfj.out] at hF3
     obtain ⟨hA3, hT3⟩ := HP2.out.1.at_.at_.fsStep hF3 hst3
     obtain ⟨er, her⟩ : ∃ er, (unlinkD dj.fs n v2 lv2).1 = er := ⟨_, rfl⟩
     have hgu := unlink_go (n := n) (v := v2) (lv := lv2) HP2.out.1.at_.ok
     have hO3 := HP2.out.1.at_.step hA3 hT3 hgu.1 HP2.out.1.at_.last HP2.out.1.at_.nf
     have hdd := did_calls s dj.down er w3 (cells4 hA3.hd).1.2.2.2 ((cells4 hA3.hd).2 3)
     rw [her]
     have Hdd := Lib.hid hdd
     have H3 := Lib.hid (And.intro hO3 (And.intro (HP2.out.1.step.trans hT3) (And.intro her (HP2.out.1.go.trans hgu))))
     clear hA3 hT3 hgu hO3 hdd her hF3 hst3 c0
     go_wp2_with fail
     refine (Hdd.out).mono ?_; rintro e w4 ⟨rfl, hw4⟩
     obtain ⟨hA4, hT4⟩ := H3.out.1.at_.setDown (dj.down || decide (er = 2))
     rw [← hw4] at hA4 hT4
     have hO4 := H3.out.1.step hA4 hT4 H3.out.1.ok H3.out.1.last H3.out.1.nf
     have hs : TmpS n dj er { dj with fs := (unlinkD dj.fs n v2 lv2).2, down := dj.down || decide (er = 2) } := .inr ⟨⟨m, Hso.out⟩, v2, lv2, H3.out.2.2.1.symm, rfl⟩
     have H4 := Lib.hid (And.intro hO4 (And.intro (H3.out.2.1.trans hT4) hs))
     clear hA4 hT4 hO4 hs hw4
     by_cases h0 : er = 0
     ·have hdo := unlink_down (H3.out.2.2.1.trans h0) HP2.out.1.down
      have hnm := unlink_nm (n := n) (v := v2) (lv := lv2) HP2.out.1.nm
      have H5 := Lib.hid (And.intro hdo hnm)
      subst h0
      clear hdo hnm
      go_wp2
      go_roundw
      case rel => exact ⟨j + 1, _, ρ3, by omega, by simp, Lib.hid ⟨HP2.out.1.run.take_succ Hn.out.1 H4.out.2.2, H4.out.1, H4.out.2.1, H3.out.2.2.2, H5.out.1, H5.out.2, HP2.out.1.wh⟩⟩
      case measure => simp [intOf] <;> omega
     ·have h0' : (er != 0) = true := by simpa using h0
      have H0 := Lib.hid h0
      clear h0
      go_wp2
      go_ret
      refine ⟨er, _, ρ3, rfl, ⟨ss, er, _, H1.out.2.2.1, .inr ⟨H0.out, j, n, dj, Hn.out.1, HP2.out.1.run, H4.out.2.2⟩, .inl ⟨H0.out, rfl, rfl⟩⟩, H4.out.1, H1.out.2.1.trans H4.out.2.1, H3.out.2.2.2.mono (by omega)⟩
    ·have hne : ((q.toNat : Int) == 116) = false := by
      rw [beq_eq_false_iff_ne]; intro e; exact hq (UInt8.toNat_inj.1 (by have : ((116 : UInt8).toNat) = 116 := rfl; omega))
     have hs : TmpS n dj 0 dj := .inl ⟨fun m' hm' => hq (StoOf.inj hso hm').1, rfl, rfl⟩
     have Hs := Lib.hid hs
     obtain ⟨qn, hqn⟩ : ∃ qn : Nat, q.toNat = qn := ⟨_, rfl⟩
     rw [hqn] at hne ⊢
     clear hs hso hq hqn
     go_wp2
     go_roundw
     case rel => exact ⟨j + 1, dj, ρj, by omega, by simp, Lib.hid ⟨HP2.out.1.run.take_succ Hn.out.1 Hs.out, HP2.out.1.at_, HP2.out.1.step, HP2.out.1.go.mono (by omega), HP2.out.1.down, HP2.out.1.nm, HP2.out.1.wh⟩⟩
     case measure => simp [intOf] <;> omega
  ·have hje : j = ss.length := by omega
   subst hje
   have hjl : ¬ ((ss.length : Int) < (ss.length : Int)) := by omega
   have hrun := hP.out.run
   rw [List.take_of_length_le (Nat.le_refl _)] at hrun
   have c0 := (cells4 hP.out.at_.at_.hd).1.1
   have hlist2 := list_calls dj.fb dj.fs ρj wr hP.out.at_.at_.fs hP.out.down hP.out.at_.ok.n
   obtain ⟨fj, hfj⟩ : ∃ fj, dj.fb = fj := ⟨_, rfl⟩
   rw [hfj] at hlist2 c0
   have Hlist2 := Lib.hid hlist2
   have HA := Lib.hid (And.intro hrun (And.intro hP.out (And.intro (H1.out.2.1.trans hP.out.step) (show dj.whr.length ≤ 1000 ∧ WhOk dj.whr by rw [hP.out.wh]; exact ⟨H.out.2.2.1, H.out.2.2.2.1⟩))))
   clear hP hrun hlist2 hfj
   go_wp2_with fail
   refine (Hlist2.out).mono ?_; rintro e w3 ⟨v, ss2, rfl, hss2, hl2, hrow2, hb3⟩
   obtain ⟨av2, cv2, rfl⟩ := own_form0 hrow2
   have hO3 := HA.out.2.1.at_.below hb3
   have hlen2 := perm_len hss2 HA.out.2.1.at_.ok.n
   have hrd2 : RdS w3 (.slice av2 ss2.length cv2) ss2 := rdL_ofOwn s1_len (by decide) hrow2
   have Hrd2 := Lib.hid (And.intro hrd2 (fun b o l c (e : Value.slice av2 ss2.length cv2 = .slice (some ⟨b, o, none⟩) l c) (g : stoOwn s dj ρj b) => (by
    have h1 := (hrow2.lt b (by rw [e]; rfl)).1
    have h2 := stoOwn_lt HA.out.2.1.at_.at_ g
    omega : False)))
   have H3 := Lib.hid (And.intro hO3 (And.intro (HA.out.2.2.1.bel hb3) (And.intro hss2 (fun n (hn : n ∈ ss2) => perm_nm hss2 HA.out.2.1.nm hn))))
   clear hrow2 hrd2 hO3 hb3 hss2 hl2 c0
   go_wp2
   go_loopw [10, 11, 12, 13, 14, 54] (fun x1 x2 x3 x4 x5 i wr => ∃ j : Nat, ∃ dk ρk, j ≤ ss2.length ∧ i = .int .i64 j ∧ Hid (RecI w3 s dj ρj ss2 j dk ρk wr)) (fun _ _ _ _ _ i _ => ss2.length - (intOf i).toNat)
   case atStart => exact ⟨0, dj, ρj, Nat.zero_le _, rfl, Lib.hid ⟨.nil, H3.out.1, StoStep.refl _ _ _ _, FsGo.refl HA.out.2.1.at_.ok, by omega, HA.out.2.2.2.2⟩⟩
   case round =>
    obtain ⟨j, dk, ρk, hj, rfl, hP⟩ := hrel
    by_cases hlt : j < ss2.length
    ·obtain ⟨n, hn⟩ : ∃ n, ss2[j]? = some n := ⟨_, List.getElem?_eq_getElem hlt⟩
     obtain ⟨b, off, cap', hsl, hbl, h3⟩ := RdS.at (Hrd2.out.1.keeps hP.out.step.keeps (fun b o l c e => Hrd2.out.2 b o l c e)) hn
     have hc := h3
     cases hsl
     have hpa := parse_calls n (H3.out.2.2.2 n (List.mem_of_getElem? hn)) wr hP.out.at_.g
     have hj0 : (0 : Int) ≤ (j : Int) := by omega
     have hj1 : (j : Int) < (ss2.length : Int) := by omega
     obtain ⟨tn, htn⟩ : ∃ tn, strL n = tn := ⟨_, rfl⟩
     rw [htn] at hpa hc
     have Hpa := Lib.hid hpa
     have Hn := Lib.hid hn
     clear hpa hn htn h3 hbl
     go_wp2_with fail
     refine (Hpa.out).mono ?_; rintro e w2 ⟨q, m, b2, rfl, ht, hf, hb2⟩
     have hP2 := hP.out.bel hb2
     have HP2 := Lib.hid (And.intro hP2 (And.intro ht hf))
     clear hP hP2 ht hf hb2 hc
     cases b2 with
     | false =>
      have hs : RecS n dk 0 dk := .inl ⟨fun q' m' => HP2.out.2.2 rfl q' m', rfl, rfl⟩
      have Hs := Lib.hid hs
      clear hs
      go_wp2
      go_roundw
      case rel => exact ⟨j + 1, dk, ρk, by omega, by simp, Lib.hid ⟨HP2.out.1.run.take_succ Hn.out Hs.out, HP2.out.1.at_, HP2.out.1.step, HP2.out.1.go.mono (by omega), by have := HP2.out.1.wl; omega, HP2.out.1.wk⟩⟩
      case measure => simp [intOf] <;> omega
     | true =>
      have hso := HP2.out.2.1 rfl
      have hmr : 1 ≤ m ∧ m ≤ 999999999 := ⟨hso.2.1, hso.2.2.1⟩
      have hwl := HP2.out.1.wl
      have hgo := HP2.out.1.go.2
      have hgo1 := HA.out.2.1.go.2
      have hwl1 := HA.out.2.2.2.1
      have c2 := (cells4 HP2.out.1.at_.at_.hd).1.2.2.1
      obtain ⟨w4, hrun, hm4, hk4⟩ := wh_put HP2.out.1.at_.at_.whr (by unfold maxLen; omega) m (by omega) q
      obtain ⟨hA4, hT4⟩ := HP2.out.1.at_.at_.setMap hm4 hk4
      have hO4 := HP2.out.1.at_.step hA4 hT4 HP2.out.1.at_.ok HP2.out.1.at_.last HP2.out.1.at_.nf
      have hpl := whr_put_le dk.whr m q
      have hin := in_keep q
      have hme := mend_calls s { dk with whr := dk.whr.put m q } ρk q m w4 hO4 (by have := H.out.2.1; dsimp only; omega) (by dsimp only; omega) hmr
      obtain ⟨bq, hbq⟩ : ∃ bq, keepQ.contains q = bq := ⟨_, rfl⟩
      obtain ⟨qn, hqn⟩ : ∃ qn : Nat, q.toNat = qn := ⟨_, rfl⟩
      rw [hqn] at hin hme hrun ⊢
      rw [hbq] at hin
      obtain ⟨mbk, hmbk⟩ : ∃ mbk, dk.mb = mbk := ⟨_, rfl⟩
      rw [hmbk] at c2 hrun
      have H4 := Lib.hid (And.intro hO4 (And.intro (HP2.out.1.step.trans hT4) (And.intro (show (dk.whr.put m q).length ≤ dj.whr.length + 2 * j + 1 by omega) (And.intro (whOk_put HP2.out.1.wk hmr q) (And.intro hso (And.intro hbq hmr))))))
      have Hin := Lib.hid hin
      have Hme := Lib.hid hme
      clear hin hme hso hwl hgo hgo1 hwl1 hm4 hk4 hA4 hT4 hO4 hpl hbq hqn hmbk hmr
      cases bq with
      | false =>
       have hs : RecS n dk 0 { dk with whr := dk.whr.put m q } := .inr ⟨q, m, H4.out.2.2.2.2.1, .inl ⟨H4.out.2.2.2.2.2.1, rfl, rfl⟩⟩
       have Hs := Lib.hid hs
       clear hs
       go_wp2_with fail
       refine (Hin.out _).mono ?_; rintro e w6 ⟨rfl, hw6⟩; have hw6 := hw6.symm; subst hw6
       clear c2 hrun
       go_wp2
       go_roundw
       case rel => exact ⟨j + 1, _, ρk, by omega, by simp, Lib.hid ⟨HP2.out.1.run.take_succ Hn.out Hs.out, H4.out.1, H4.out.2.1, HP2.out.1.go.mono (by omega), by have := H4.out.2.2.1; dsimp only; omega, H4.out.2.2.2.1⟩⟩
       case measure => simp [intOf] <;> omega
      | true =>
       go_wp2_with fail
       refine (Hin.out _).mono ?_; rintro e w6 ⟨rfl, hw6⟩; have hw6 := hw6.symm; subst hw6
       clear c2 hrun
       go_wp2_with fail
       refine (Hme.out).mono ?_; rintro e w7 ⟨er, d7, ρ7, rfl, ho7, hO7, hT7, hg7⟩
       have hs : RecS n dk er d7 := .inr ⟨q, m, H4.out.2.2.2.2.1, .inr ⟨H4.out.2.2.2.2.2.1, ho7⟩⟩
       have hw7 := ho7.whr_le
       have hk7 := ho7.wk H4.out.2.2.2.1 H4.out.2.2.2.2.2.2
       have H7 := Lib.hid (And.intro hs (And.intro hO7 (And.intro (H4.out.2.1.trans hT7) (And.intro (HP2.out.1.go.trans hg7) (And.intro (show d7.whr.length ≤ dj.whr.length + 2 * j + 2 by have := H4.out.2.2.1; dsimp only at hw7; omega) hk7)))))
       clear hs hw7 hk7 hO7 hT7 hg7 ho7
       by_cases h0 : er = 0
       ·subst h0
        go_wp2
        go_roundw
        case rel => exact ⟨j + 1, d7, ρ7, by omega, by simp, Lib.hid ⟨HP2.out.1.run.take_succ Hn.out H7.out.1, H7.out.2.1, H7.out.2.2.1, H7.out.2.2.2.1.mono (by omega), by have := H7.out.2.2.2.2.1; omega, H7.out.2.2.2.2.2⟩⟩
        case measure => simp [intOf] <;> omega
       ·have h0' : (er != 0) = true := by simpa using h0
        have H0 := Lib.hid h0
        clear h0
        go_wp2
        go_ret
        refine ⟨er, d7, ρ7, rfl, ⟨ss, 0, dj, H1.out.2.2.1, .inl ⟨rfl, HA.out.1⟩, .inr ⟨rfl, ss2, er, d7, H3.out.2.2.1, .inr ⟨H0.out, j, n, dk, Hn.out, HP2.out.1.run, H7.out.1⟩, .inl ⟨H0.out, rfl, rfl⟩⟩⟩, H7.out.2.1, H3.out.2.1.trans H7.out.2.2.1, (HA.out.2.1.go.trans H7.out.2.2.2.1).mono (by omega)⟩
    ·have hje : j = ss2.length := by omega
     subst hje
     have hjl2 : ¬ ((ss2.length : Int) < (ss2.length : Int)) := by omega
     have hrun := hP.out.run
     rw [List.take_of_length_le (Nat.le_refl _)] at hrun
     have hwl := hP.out.wl
     have hwl1 := HA.out.2.2.2.1
     have hgo := hP.out.go.2
     have hgo1 := HA.out.2.1.go.2
     have hpa := parents_calls s dk ρk wr hP.out.at_ (by have := H.out.2.1; omega) (by omega) hP.out.wk
     have hpl := parL_len dk
     have Hpa := Lib.hid hpa
     have HB := Lib.hid (And.intro hrun (And.intro (H3.out.2.1.trans hP.out.step) (And.intro (HA.out.2.1.go.trans hP.out.go) (show (parL dk).length ≤ 10000 by omega))))
     clear hP hrun hpa hwl hwl1 hgo hgo1 hpl
     go_wp2_with fail
     refine (Hpa.out).mono ?_; rintro e w5 ⟨er, d5, ρ5, rfl, ho5, hO5, hT5, hg5⟩
     have H5 := Lib.hid (And.intro ho5 (And.intro hO5 (And.intro (HB.out.2.1.trans hT5) (HB.out.2.2.1.trans hg5))))
     clear ho5 hO5 hT5 hg5
     go_wp2
     go_ret
     exact ⟨er, d5, ρ5, rfl, ⟨ss, 0, dj, H1.out.2.2.1, .inl ⟨rfl, HA.out.1⟩, .inr ⟨rfl, ss2, 0, dk, H3.out.2.2.1, .inl ⟨rfl, HB.out.1⟩, .inr ⟨rfl, H5.out.1⟩⟩⟩, H5.out.2.1, H5.out.2.2.1, H5.out.2.2.2.mono (by have := HB.out.2.2.2; omega)⟩
end Go.Proofs.YtffnbkmigapmjaaGreatDoor
set_option maxRecDepth 100000
namespace Go.Proofs.YtffnbkmigapmjaaGreatDoor
open Go.RowKit Go.Maps
theorem lastNum_mem {l : List (Int × Nm)} : lastNum l = (0, []) ∨ lastNum l ∈ l := by
 unfold lastNum
 cases h : l.getLast? with
 | none => exact .inl rfl
 | some x => exact .inr (List.mem_of_getLast? h)
theorem numL_mem {ss : List Nm} {p : Int × Nm} (h : p ∈ numL ss) : p.2 ∈ ss ∧ NumOf p.2 p.1 := by
 unfold numL at h
 obtain ⟨s, hs, he⟩ := List.mem_filterMap.1 h
 obtain ⟨n, hn, rfl⟩ := Option.map_eq_some_iff.1 he
 exact ⟨hs, (numbD_iff s n).1 hn⟩
def openD (fs : FsD) (f ib mb : Nat) (ss : List Nm) : StoD := ⟨fs, f, ib, mb, (lastNum (numL ss)).1, (lastNum (numL ss)).1, (lastNum (numL ss)).2, [], false⟩
structure OpenDone (w : World) (f : Nat) (fs : FsD) (ρ : Rho) (e : Ending) (w' : World) (er : Int) (s : Nat) (d : StoD) (ρ' : Rho) : Prop where
 ret : (er = 0 ∧ e = .returned (.tuple #[.pointer (some ⟨s, 0, none⟩), .int .i64 0])) ∨ (er ≠ 0 ∧ e = .returned (.tuple #[.pointer none, .int .i64 er]))
 out : ∃ ib mb ss, sortedNm fs ss ∧ RecoverR (openD fs f ib mb ss) er d
 at_ : StoOk w' s d ρ'
 fb : d.fb = f
 step : FsStep w ρ w' ρ'
 new : ∀ k, k = s ∨ k = d.ib ∨ k = d.mb → w.heap.size ≤ k
 go : FsGo fs d.fs 100000
theorem MendR.blk {d d' : StoD} {q : UInt8} {id er : Int} (h : MendR d q id er d') : d'.fb = d.fb ∧ d'.ib = d.ib ∧ d'.mb = d.mb ∧ d'.last = d.last ∧ d'.bound = d.bound ∧ d'.nfile = d.nfile := by
 rcases h with ⟨_, _, rfl⟩ | ⟨_, ⟨_, fs2, _, rfl⟩ | ⟨f, _, _, ⟨_, fs2, _, rfl⟩ | ⟨_, _, rfl⟩⟩⟩ <;> exact ⟨rfl, rfl, rfl, rfl, rfl, rfl⟩
def Blk (d d' : StoD) : Prop := d'.fb = d.fb ∧ d'.ib = d.ib ∧ d'.mb = d.mb ∧ d'.last = d.last ∧ d'.bound = d.bound ∧ d'.nfile = d.nfile
theorem Blk.refl (d : StoD) : Blk d d := ⟨rfl, rfl, rfl, rfl, rfl, rfl⟩
theorem Blk.trans {a b c : StoD} (h : Blk a b) (g : Blk b c) : Blk a c := by
 obtain ⟨a1, a2, a3, a4, a5, a6⟩ := h
 obtain ⟨b1, b2, b3, b4, b5, b6⟩ := g
 exact ⟨b1.trans a1, b2.trans a2, b3.trans a3, b4.trans a4, b5.trans a5, b6.trans a6⟩
theorem RunL.blk {α : Type} {S : α → StoD → Int → StoD → Prop} (hS : ∀ x d er d', S x d er d' → Blk d d') {d0 d : StoD} {l : List α} (h : RunL S d0 l d) : Blk d0 d := by
 induction h with
 | nil => exact Blk.refl _
 | snoc _ h2 ih => exact ih.trans (hS _ _ _ _ h2)
theorem OutL.blk {α : Type} {S : α → StoD → Int → StoD → Prop} (hS : ∀ x d er d', S x d er d' → Blk d d') {d0 d : StoD} {l : List α} {er : Int} (h : OutL S l d0 er d) : Blk d0 d := by
 rcases h with ⟨_, h⟩ | ⟨_, j, x, dj, _, h1, h2⟩
 ·exact h.blk hS
 ·exact (h1.blk hS).trans (hS _ _ _ _ h2)
theorem TmpS.blk {n : Nm} {d d' : StoD} {er : Int} (h : TmpS n d er d') : Blk d d' := by
 rcases h with ⟨_, _, rfl⟩ | ⟨_, v, lv, _, rfl⟩ <;> exact ⟨rfl, rfl, rfl, rfl, rfl, rfl⟩
theorem RecS.blk {n : Nm} {d d' : StoD} {er : Int} (h : RecS n d er d') : Blk d d' := by
 rcases h with ⟨_, _, rfl⟩ | ⟨q, m, _, ⟨_, _, rfl⟩ | ⟨_, h⟩⟩
 ·exact Blk.refl _
 ·exact ⟨rfl, rfl, rfl, rfl, rfl, rfl⟩
 ·exact h.blk
theorem ParS.blk {n : Int} {d d' : StoD} {er : Int} (h : ParS n d er d') : Blk d d' := by
 rcases h with ⟨_, _, rfl⟩ | ⟨_, _, fs2, _, ⟨_, rfl⟩ | ⟨_, rfl⟩⟩ <;> exact ⟨rfl, rfl, rfl, rfl, rfl, rfl⟩
theorem RecoverR.blk {d d' : StoD} {er : Int} (h : RecoverR d er d') : Blk d d' := by
 obtain ⟨ss1, e1, d1, _, h1, ⟨_, _, rfl⟩ | ⟨_, ss2, e2, d2, _, h2, ⟨_, _, rfl⟩ | ⟨_, h3⟩⟩⟩ := h
 ·exact h1.blk (fun _ _ _ _ h => h.blk)
 ·exact (h1.blk (fun _ _ _ _ h => h.blk)).trans (h2.blk (fun _ _ _ _ h => h.blk))
 ·exact ((h1.blk (fun _ _ _ _ h => h.blk)).trans (h2.blk (fun _ _ _ _ h => h.blk))).trans (h3.blk (fun _ _ _ _ h => h.blk))
set_option maxHeartbeats 8000000 in
theorem open_calls (f : Nat) (fs : FsD) (ρ : Rho) (w : World) (h : FsAt w f fs ρ) (hok : FsOk fs) (hdn : fs.down = false) (hnm : NmOk fs) (hll : fs.loose.length ≤ 500000) (hρ : ∀ k, ρ.has k → NG ≤ k) (hg : GOk w) (hmax : MaxOk w) :
 Calls Tryz.prog 17 #[.pointer (some ⟨f, 0, none⟩)] w fun e w' => ∃ er s d ρ', OpenDone w f fs ρ e w' er s d ρ' := by
 have hmm := @run_makeMap Tryz.prog
 have hio := idsOpen_calls f fs ρ w h hdn hok.n hnm hg
 have hrho : ∀ k, w.heap.size ≤ k → ρ k = none := fun k hk => by
  cases hr : ρ k with
  | none => rfl
  | some r => have := h.rest.lt k (by rw [hr]; rfl); omega
 have Hio := Lib.hid hio
 have Hrho := Lib.hid hrho
 have H := Lib.hid (And.intro h (And.intro hok (And.intro hdn (And.intro hnm (And.intro hll (And.intro hρ (And.intro hg hmax)))))))
 clear hio hrho h hok hdn hnm hll hρ hg hmax
 go_enter Tryz.func17, Tryz.ntmps17
 go_wp2_with fail
 refine (Hio.out).mono ?_; rintro e w1 ⟨ib, ss, rfl, hnms, hhd, hnew, hb1⟩
 have hlast : (0 ≤ (lastNum (numL ss)).1 ∧ (lastNum (numL ss)).1 ≤ 999999999) ∧ (lastNum (numL ss)).2.length ≤ 1000 := by
  rcases lastNum_mem (l := numL ss) with e | e
  ·rw [e]; exact ⟨⟨Int.le_refl _, by decide⟩, Nat.zero_le _⟩
  ·obtain ⟨h1, h2⟩ := numL_mem e
   exact ⟨⟨h2.1, h2.2.1⟩, perm_nm hnms H.out.2.2.2.1 h1⟩
 have Hod : Hid (∀ mb, openD fs f ib mb ss = ⟨fs, f, ib, mb, (lastNum (numL ss)).1, (lastNum (numL ss)).1, (lastNum (numL ss)).2, [], false⟩) := Lib.hid (fun _ => rfl)
 obtain ⟨la, hla⟩ : ∃ la, (lastNum (numL ss)).1 = la := ⟨_, rfl⟩
 obtain ⟨nf, hnf⟩ : ∃ nf, (lastNum (numL ss)).2 = nf := ⟨_, rfl⟩
 rw [hla, hnf] at hhd hlast Hod
 clear hla hnf
 obtain ⟨W2, hW2⟩ : ∃ W2, w1.alloc (.map #[] 0) = W2 := ⟨_, rfl⟩
 obtain ⟨W3, hW3⟩ : ∃ W3, W2.alloc (.cells #[.pointer (some ⟨f, 0, none⟩), .pointer (some ⟨ib, 0, none⟩), .map (some w1.heap.size), .bool false] 112) = W3 := ⟨_, rfl⟩
 have z2 : W2.heap.size = w1.heap.size + 1 := by rw [← hW2]; simp
 have b2 : Below w1.heap.size w1 W2 := by rw [← hW2]; exact (Below.refl _ _).alloc (Nat.le_refl _) _
 have b3 : Below W2.heap.size W2 W3 := by rw [← hW3]; exact (Below.refl _ _).alloc (Nat.le_refl _) _
 have b13 := b2.trans (b3.mono b2.size)
 have bw3 := hb1.trans (b13.mono hb1.size)
 have m2 : WhAt W2 w1.heap.size [] := by rw [← hW2]; exact World.ownsMap_made w1 Tryz.prog 3 (plainElem Tryz.prog 5)
 have m3 : WhAt W3 w1.heap.size [] := whMap_keeps (F := fun _ => False) m2 (Keeps.ofBelow b3) id
 have hs3 : W3.heap[w1.heap.size + 1]? = some (.cells #[.pointer (some ⟨f, 0, none⟩), .pointer (some ⟨ib, 0, none⟩), .map (some w1.heap.size), .bool false] 112 (0, 0)) := by rw [← hW3]; exact heap_new_at _ z2.symm
 have hids := (b13.block _ (Array.getElem?_eq_some_iff.1 hhd).1).trans hhd
 have hs1 := hb1.size
 have hA : StoAt W3 (w1.heap.size + 1) ⟨fs, f, ib, w1.heap.size, la, la, nf, [], false⟩ ρ := ⟨H.out.1.below bw3, hs3, hids, m3, Hrho.out _ (by omega), Hrho.out _ hnew, Hrho.out _ hs1⟩
 have hown : ∀ k, stoOwn (w1.heap.size + 1) (⟨fs, f, ib, w1.heap.size, la, la, nf, [], false⟩ : StoD) ρ k → ρ.has k ∨ w.heap.size ≤ k := fun k e => by
  rcases e with e | e | e | e
  ·exact .inl e
  ·exact .inr (by omega)
  ·exact .inr (by have : k = ib := e; omega)
  ·exact .inr (by have : k = w1.heap.size := e; omega)
 have hO : StoOk W3 (w1.heap.size + 1) ⟨fs, f, ib, w1.heap.size, la, la, nf, [], false⟩ ρ := ⟨hA, H.out.2.1, H.out.2.2.2.2.2.2.1.below bw3, H.out.2.2.2.2.2.2.2.below bw3, fun k e => by
  rcases hown k e with e | e
  ·exact H.out.2.2.2.2.2.1 k e
  ·have := H.out.2.2.2.2.2.2.1.size; omega, hlast.1, hlast.2⟩
 have hrc := recover_calls (w1.heap.size + 1) _ ρ W3 hO (by have := H.out.2.2.2.2.1; dsimp only; omega) (by dsimp only; exact Nat.zero_le _) (fun p hp => by cases hp) H.out.2.2.1 H.out.2.2.2.1
 have Hrc := Lib.hid hrc
 have HA := Lib.hid (And.intro hO (And.intro hnew (And.intro hs1 (And.intro bw3 (And.intro hown hnms)))))
 clear hrc hO hA hids hs3 m2 m3 bw3 b13 b3 b2 hhd hnms hb1 hown hlast
 subst hW3
 subst hW2
 go_wp2_with fail
 refine (Hrc.out).mono ?_; rintro e w4 ⟨er, d, ρ4, rfl, ho, hO4, hT4, hg4⟩
 have hbk := ho.blk
 obtain ⟨q1, q2, q3, q4, q5, q6⟩ := HA.out
 have hfin : ∀ e, ((er = 0 ∧ e = .returned (.tuple #[.pointer (some ⟨w1.heap.size + 1, 0, none⟩), .int .i64 0])) ∨ (er ≠ 0 ∧ e = .returned (.tuple #[.pointer none, .int .i64 er]))) → OpenDone w f fs ρ e w4 er (w1.heap.size + 1) d ρ4 := by
  intro e hret
  refine ⟨hret, ⟨ib, w1.heap.size, ss, q6, by rw [Hod.out]; exact ho⟩, hO4, hbk.1, ⟨(Keeps.ofBelow (F := ρ.has) q4).go hT4.keeps q5, fun k hk => ?_⟩, fun k hk => ?_, hg4⟩
  ·rcases hT4.grow k (.inl hk) with e | e
   ·exact q5 k e
   ·exact .inr (Nat.le_trans q4.size e)
  ·rcases hk with e | e | e
   ·omega
   ·rw [e, hbk.2.1]; exact q2
   ·rw [e, hbk.2.2.1]; exact q3
 have Hfin := Lib.hid hfin
 clear hfin ho hO4 hT4 hg4 hbk q1 q2 q3 q4 q5 q6
 by_cases h0 : er = 0
 ·subst h0
  go_wp2
  go_ret2
  exact ⟨0, _, d, ρ4, Hfin.out _ (.inl ⟨by first | exact rfl | exact trivial, rfl⟩)⟩
 ·have h0' : (er != 0) = true := by simpa using h0
  have H0 := Lib.hid h0
  clear h0
  go_wp2
  go_ret2
  exact ⟨er, _, d, ρ4, Hfin.out _ (.inr ⟨H0.out, rfl⟩)⟩
end Go.Proofs.YtffnbkmigapmjaaGreatDoor
set_option maxRecDepth 100000
namespace Go.Proofs.YtffnbkmigapmjaaGreatDoor
section
variable {α : Type} {S : α → StoD → Int → StoD → Prop} {d d' : StoD} {er : Int} {x : α}
end
section
variable {fs : FsD} {C : Cont} {N U : Nat} {R : Int}
theorem Vw.renS (h : Vw fs C N U R) {a b : Nm} {z : List UInt8} (ha : rightD a = true) (hb : rightD b = true) (hab : a ≠ b) (hz : C a = some z) {er : Int} {fs' : FsD} (ho : Outcome (Go.Proofs.YtffnbkmigapmjaaGreatDoor.renS a b) 2 fs er fs') :
 er = 0 ∧ Vw fs' (updC (updC C b (some z)) a none) (if (C b).isSome then N - 1 else N) (U - ((C b).getD []).length) R := by
 let V : Nat → FsD → Prop := fun i x => match i with
  | 0 => Vw x C N U R
  | _ => Vw x (updC (updC C b (some z)) a none) (if (C b).isSome then N - 1 else N) (U - ((C b).getD []).length) R
 exact run_good (V := V) (n := 2) (d := fs) (S := Go.Proofs.YtffnbkmigapmjaaGreatDoor.renS a b) h (by
  intro i x er y hi hV hS
  match i, hi, hV, hS with
  | 0, _, hV, ⟨v, lv, he, hy⟩ =>
   have hV : Vw x C N U R := hV
   obtain ⟨q1, q2⟩ := hV.rename ha hb hab hz v lv
   subst he; subst hy
   exact ⟨q1, q2⟩
  | 1, _, hV, ⟨ms, he, hy⟩ =>
   have hV : Vw x (updC (updC C b (some z)) a none) (if (C b).isSome then N - 1 else N) (U - ((C b).getD []).length) R := hV
   obtain ⟨q1, q2⟩ := hV.dirSync ms
   subst he; subst hy
   exact ⟨q1, q2⟩) er fs' ho
end
theorem nameD_ne {q r : UInt8} {id : Int} (hq : allQ.contains q = true) (hr : allQ.contains r = true) (h1 : 1 ≤ id) (h2 : id ≤ 999999999) (h : q ≠ r) : nameD q id ≠ nameD r id := fun e => by
 rw [nameD_of hq h1 h2, nameD_of hr h1 h2] at e
 injection e with e _
 exact h e
end Go.Proofs.YtffnbkmigapmjaaGreatDoor

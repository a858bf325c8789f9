/-
  The body of the law StoreCorrupt.
-/
import Derived.Test.YtffnbkmigapmjaaGreatDoorC35
import Derived.Test.YtffnbkmigapmjaaGreatDoorC40
import Derived.Test.YtffnbkmigapmjaaGreatDoorC43
import Derived.Test.YtffnbkmigapmjaaGreatDoorC44
set_option linter.unusedSimpArgs false
set_option linter.unusedVariables false
set_option maxRecDepth 100000
namespace Go.Proofs.YtffnbkmigapmjaaGreatDoor
open Go.RowKit Go.Maps
theorem StoAt.beside {w w' : World} {t s : Nat} {d2 d d' : StoD} {ρ ρ' : Rho} (h : StoAt w t d2 ρ) (hT : StoStep w s d ρ w' d' ρ') (h' : StoAt w' s d' ρ') (hfb : d'.fb = d2.fb) (n1 : ¬ stoOwn s d ρ t) (n2 : ¬ stoOwn s d ρ d2.ib) (n3 : ¬ stoOwn s d ρ d2.mb) :
    StoAt w' t { d2 with fs := d'.fs } ρ' := by
  have hn : ∀ {k : Nat}, ¬ stoOwn s d ρ k → k < w.heap.size → ρ' k = none := fun {k} h1 h2 => by
    cases hr : ρ' k with
    | none => rfl
    | some r =>
      rcases hT.grow k (.inl (Rho.has_of hr)) with e | e
      · exact absurd e h1
      · omega
  have l1 := (Array.getElem?_eq_some_iff.1 h.hd).1
  have l2 := (Array.getElem?_eq_some_iff.1 h.ids).1
  have hF := h'.fs
  rw [hfb] at hF
  exact ⟨hF, hT.keeps.heap h.hd n1, hT.keeps.heap h.ids n2, whMap_keeps h.whr hT.keeps n3, hn n1 l1, hn n2 l2, hn n3 h.whr.lt⟩
theorem file_iff (bs : List UInt8) (id : Int) : (∃ g, fileD bs = some g ∧ g.mail.id = id) ↔ ((decodeMail bs).isSome = true ∧ ((decodeMail bs).elim MailD.zero Prod.fst).id = id) := by
  unfold fileD
  cases h : decodeMail bs with
  | none => exact ⟨fun ⟨g, hg, _⟩ => (by cases hg), fun ⟨h1, _⟩ => (by cases h1)⟩
  | some p => exact ⟨fun ⟨g, hg, hi⟩ => ⟨rfl, (by cases hg; exact hi)⟩, fun ⟨_, hi⟩ => ⟨_, rfl, hi⟩⟩
theorem cor_drop {d d' : StoD} {id er : Int} (hw : d.whr = [(id, 99)]) (hd : d.down = false) (h : DropR d id er d') : er = 4 ∧ d' = d := by
  have ha : atD d id = (0, 4) := by unfold atD; rw [hd, hw, at_one, if_pos rfl]; rfl
  rcases h with ⟨_, h1, h2⟩ | ⟨h0, _⟩
  · rw [ha] at h1; exact ⟨h1, h2⟩
  · rw [ha] at h0; cases h0
theorem cor_move {d d' : StoD} {id er : Int} (hw : d.whr = [(id, 99)]) (hd : d.down = false) (h : MoveR d id 105 er d') : er = 4 ∧ d' = d := by
  have ha : atD d id = (0, 4) := by unfold atD; rw [hd, hw, at_one, if_pos rfl]; rfl
  rcases h with ⟨h0, _⟩ | ⟨_, ⟨_, h1, h2⟩ | ⟨h0, _⟩⟩
  · exact absurd h0 (by decide)
  · rw [ha] at h1; exact ⟨h1, h2⟩
  · rw [ha] at h0; cases h0
theorem cor_file {d : StoD} {id : Int} (hw : d.whr = [(id, 99)]) : sfileD d id = none := by
  unfold sfileD; rw [hw, at_one, if_pos rfl, if_neg (by decide)]
/-- The disk with the one file. -/
theorem cor_disk {B : Nat} {q : UInt8} {id : Int} {b : List UInt8} (hk : keepQ.contains q = true) (hid : 1 ≤ id ∧ id ≤ 999999999) (hb : b.length ≤ 500) (x : FreshOf (newD B 1048576)) (v lv row : Value) :
    ∃ C, Vw (appendD (createD (newD B 1048576) (nameD q id) x.x v lv).2 (nameD q id) b row).2 C 1 b.length 1048576 ∧ C (nameD q id) = some b ∧ ∀ n, n ≠ nameD q id → C n = none := by
  have hr := rightD_nameD (keep_all hk).1 hid.1 hid.2
  obtain ⟨_, h1⟩ := (vw_new B 1048576 (by decide)).create hr rfl (by decide) x v lv
  obtain ⟨_, h2⟩ := h1.append (b := []) (bs := b) hr (updC_same _ _ _) (by omega) row
  simp only [Nat.zero_add, List.nil_append] at h2
  refine ⟨_, h2, updC_same _ _ _, fun n hn => ?_⟩
  rw [updC_other _ _ (fun e => hn e.symm), updC_other _ _ (fun e => hn e.symm)]
theorem Vw.ok {fs : FsD} {C : Cont} {N U : Nat} {R : Int} (h : Vw fs C N U R) : FsOk fs := h.up.ok
theorem FsStep.bel {w w' : World} {ρ ρ' : Rho} {B : Nat} (h : FsStep w ρ w' ρ') (hρ : ∀ k, ρ.has k → B ≤ k) (hB : B ≤ w.heap.size) : Below B w w' ∧ (∀ k, ρ'.has k → B ≤ k) :=
  ⟨h.keeps.below hρ hB, fun k e => by
    rcases h.grow k e with e | e
    · exact hρ k e
    · omega⟩
theorem StoStep.belB {w w' : World} {s B : Nat} {d d' : StoD} {ρ ρ' : Rho} (h : StoStep w s d ρ w' d' ρ') (hρ : ∀ k, stoOwn s d ρ k → B ≤ k) (hB : B ≤ w.heap.size) : Below B w w' := h.keeps.below hρ hB
theorem cor_nm {fs : FsD} {C : Cont} {N U : Nat} {R : Int} {n0 : Nm} (h : Vw fs C N U R) (h0 : ∀ n, n ≠ n0 → C n = none) (hl : n0.length ≤ 1000) : NmOk fs := fun p hp => by
  have h1 := look_of_mem h.up.key (show (p.1, p.2) ∈ fs.now from hp)
  by_cases he : p.1 = n0
  · rw [he]; exact hl
  · have := h.look_none (h0 _ he)
    rw [h1] at this; cases this
theorem cor_nm1 {fs : FsD} {C : Cont} {U : Nat} {R : Int} {n0 : Nm} {b : List UInt8} (h : Vw fs C 1 U R) (h0 : C n0 = some b) (hl : n0.length ≤ 1000) : NmOk fs := fun p hp => by
  obtain ⟨x, hx⟩ := List.length_eq_one_iff.1 h.n
  obtain ⟨k, c, hk, _, _⟩ := h.look_some h0
  have h1 := look_mem hk
  rw [hx] at h1 hp
  rw [List.mem_singleton.1 hp, ← List.mem_singleton.1 h1]; exact hl
theorem no_own {w : World} {s k : Nat} {d : StoD} {ρ ρ0 : Rho} (h : StoAt w s d ρ0) (hk : w.heap.size ≤ k) (hr : ρ k = none) : ¬ stoOwn s d ρ k := fun e => by
  have l1 := (Array.getElem?_eq_some_iff.1 h.hd).1
  have l2 := (Array.getElem?_eq_some_iff.1 h.ids).1
  have l3 := h.whr.lt
  rcases e with e | e | e | e
  · unfold Rho.has at e; rw [hr] at e; cases e
  · omega
  · omega
  · omega
set_option maxHeartbeats 32000000 in
theorem storeCorrupt_calls (id : Int) (v : Value) (bs : List UInt8) (k : Nat) (which : Int) (w : World) (hv : RdB w v bs) (hnv : NilOk v) (hol : ∀ k, v.ownBlock = some k → k < w.heap.size) (hwh : which.tmod 4 = (k : Int)) (hk4 : k < 4) (hwr : 0 ≤ which ∧ which ≤ 255) (hg : GOk w) (hmax : MaxOk w) :
    Calls Tryz.prog 4 #[.int .i64 id, v, .int .u8 which] w fun e w' => e = .returned (.bool true) ∧ Below w.heap.size w w' := by
  obtain ⟨a, cap, rfl, hl, hc⟩ := hv.form
  have hans := fun w1 (hb : Below w.heap.size w w1) => answers14_calls w1 (hg.below hb) (hmax.below hb)
  have Hans := Lib.hid hans
  clear hans
  by_cases h1 : id < 1
  · have Ha := Lib.hid (Hans.out w (Below.refl _ _))
    clear hv hnv hol hwh hg hmax
    go_enter Tryz.func4, Tryz.ntmps4
    go_wp2_with fail
    refine (Ha.out).mono ?_; rintro e w1 ⟨rfl, hb1⟩
    go_wp2
    go_ret
    exact ⟨rfl, hb1⟩
  by_cases h2 : 999999999 < id
  · have Ha := Lib.hid (Hans.out w (Below.refl _ _))
    clear hv hnv hol hwh hg hmax
    go_enter Tryz.func4, Tryz.ntmps4
    go_wp2_with fail
    refine (Ha.out).mono ?_; rintro e w1 ⟨rfl, hb1⟩
    go_wp2
    go_ret
    exact ⟨rfl, hb1⟩
  by_cases h3 : (500 : Int) < (bs.length : Int)
  · have Ha := Lib.hid (Hans.out w (Below.refl _ _))
    clear hv hnv hol hwh hg hmax
    go_enter Tryz.func4, Tryz.ntmps4
    go_wp2_with fail
    refine (Ha.out).mono ?_; rintro e w1 ⟨rfl, hb1⟩
    go_wp2
    go_ret
    exact ⟨rfl, hb1⟩
  have hbl : bs.length ≤ 500 := by omega
  have hid : 1 ≤ id ∧ id ≤ 999999999 := by omega
  obtain ⟨q, hq⟩ : ∃ q, keepQ[k]? = some q := ⟨_, List.getElem?_eq_getElem (by show k < 4; exact hk4)⟩
  have hkq : keepQ.contains q = true := by simpa using List.mem_of_getElem? hq
  have hbg := refBegins_calls (.slice a bs.length cap) bs w hv (by omega) hnv hol
  have Hbg := Lib.hid hbg
  have H := Lib.hid (And.intro hv (And.intro hnv (And.intro hol (And.intro hg (And.intro hmax (And.intro hbl (And.intro hid hkq)))))))
  clear hbg hv hnv hol hg hmax hkq
  go_enter Tryz.func4, Tryz.ntmps4
  go_wp2_with fail
  refine (Hbg.out).mono ?_; rintro e w1 ⟨vr, vb, rfl, o1, o2, hb1⟩
  obtain ⟨r, hr⟩ : ∃ r, decodeMail bs = r := ⟨_, rfl⟩
  have Hr := Lib.hid hr
  rw [hr] at o1 o2 ⊢
  obtain ⟨a1, c1, rfl⟩ := own_form0 o1
  obtain ⟨a2, c2, rfl⟩ := own_form0 o2
  unfold mailVal
  obtain ⟨mi, hmi⟩ : ∃ mi, (r.elim MailD.zero Prod.fst).id = mi := ⟨_, rfl⟩
  obtain ⟨ok, hok⟩ : ∃ ok, r.isSome = ok := ⟨_, rfl⟩
  rw [hmi, hok]
  have Hmi := Lib.hid (And.intro hmi hok)
  generalize (r.elim MailD.zero Prod.fst).rcpts.length = n1
  generalize (r.elim MailD.zero Prod.fst).body.length = n2
  generalize (r.elim MailD.zero Prod.fst).parent = mp
  generalize (r.elim MailD.zero Prod.fst).born = mb
  generalize strL (r.elim MailD.zero Prod.fst).frm = sf
  generalize ((r.elim 0 Prod.snd : Nat) : Int) = nn
  obtain ⟨W1, hW1⟩ : ∃ W1, w1.alloc (.cells #[.int .i64 mi, .int .i64 mp, .int .i64 mb, .string sf, .slice a1 n1 c1, .slice a2 n2 c2] 29) = W1 := ⟨_, rfl⟩
  have hbW1 : Below w1.heap.size w1 W1 := by rw [← hW1]; exact (Below.refl _ _).alloc (Nat.le_refl _) _
  have hM1 : W1.heap[w1.heap.size]? = some (.cells #[.int .i64 mi, .int .i64 mp, .int .i64 mb, .string sf, .slice a1 n1 c1, .slice a2 n2 c2] 29 (0, 0)) := by rw [← hW1]; exact heap_alloc_new w1 _
  have hbw1 := hb1.trans (hbW1.mono hb1.size)
  have hkc : (convert 22 22 (.slice (some ⟨W1.heap.size, 0, none⟩) 4 4)).run Tryz.prog (W1.alloc (.cells #[.int .u8 105, .int .u8 97, .int .u8 100, .int .u8 104] 5)) = .ok (.slice (some ⟨W1.heap.size, 0, none⟩) 4 4) (W1.alloc (.cells #[.int .u8 105, .int .u8 97, .int .u8 100, .int .u8 104] 5 (4, 5))) :=
    Lib.run_convert_bytes_const (P := Tryz.prog) W1 22 5 #[.int .u8 105, .int .u8 97, .int .u8 100, .int .u8 104] 4 4 Tryz.underlying22 Tryz.underlying5
  obtain ⟨W2, hW2⟩ : ∃ W2, W1.alloc (.cells #[.int .u8 105, .int .u8 97, .int .u8 100, .int .u8 104] 5 (4, 5)) = W2 := ⟨_, rfl⟩
  have hbW2 : Below W1.heap.size W1 W2 := by rw [← hW2]; exact (Below.refl _ _).alloc (Nat.le_refl _) _
  have hh2 : W2.heap[W1.heap.size]? = some (.cells (keepQ.map u8v).toArray 5 (4, 5)) := by rw [← hW2]; exact heap_alloc_new W1 _
  have hcell : W2.cell? ⟨W1.heap.size, k, none⟩ = some (.int .u8 q.toNat) := by
    rw [cell_of_row _ _ _ _ _ _ hh2, List.getElem?_toArray, List.getElem?_map, hq]; rfl
  have hbw2 := hbw1.trans (hbW2.mono hbw1.size)
  have hM2 := (hbW2.block _ (Array.getElem?_eq_some_iff.1 hM1).1).trans hM1
  have z1 : W1.heap.size = w1.heap.size + 1 := by rw [← hW1]; simp
  rw [hW2] at hkc
  rw [z1] at hkc hcell
  clear z1
  have hk0 : (0 : Int) ≤ (k : Int) := by omega
  have hk1 : (k : Int) < 4 := by omega
  have hnew := new_calls 1048576 W2
  have hroom : roomD 1048576 = 1048576 := by decide
  rw [hroom] at hnew
  obtain ⟨qn, hqn⟩ : ∃ qn : Nat, q.toNat = qn := ⟨_, rfl⟩
  rw [hqn] at hcell
  have Hqn := Lib.hid hqn
  obtain ⟨B, hB⟩ : ∃ B, W2.heap.size = B := ⟨_, rfl⟩
  have hconv : ∀ wN, Below B W2 wN → Below w.heap.size w wN ∧ wN.heap[w1.heap.size]? = some (.cells #[.int .i64 mi, .int .i64 mp, .int .i64 mb, .string sf, .slice a1 n1 c1, .slice a2 n2 c2] 29 (0, 0)) ∧ RdB wN (.slice a bs.length cap) bs ∧ B ≤ wN.heap.size := fun wN hb => by
    have hb' : Below W2.heap.size W2 wN := by rw [hB]; exact hb
    have h0 := hbw2.trans (hb'.mono hbw2.size)
    exact ⟨h0, (hb'.block _ (Array.getElem?_eq_some_iff.1 hM2).1).trans hM2, H.out.1.below (Nat.le_refl _) h0, by rw [← hB]; exact hb'.size⟩
  have hwB : w.heap.size ≤ B := by rw [← hB]; exact hbw2.size
  rw [hB] at hnew
  obtain ⟨f, hf⟩ : ∃ f, B + 2 = f := ⟨_, rfl⟩
  rw [hf] at hnew
  have Hnew := Lib.hid hnew
  have Hcv := Lib.hid hconv
  have Hf := Lib.hid (And.intro hf hwB)
  clear hnew hroom hqn hbw2 hM2 hbw1 hM1 hbW2 hh2 hbW1 o1 o2 hb1 hr hmi hok hq hB hf hwB hconv
  subst hW2
  subst hW1
  go_wp2_with fail
  refine (Hnew.out).mono ?_; rintro e w3 ⟨rfl, hF3, hb3⟩
  have hρ3 : ∀ k, (newRho B).has k → B ≤ k := fun k e => (newRho_has e).1
  have hnmc := fun wN (hb : Below w.heap.size w wN) => name_calls q id wN ((H.out.2.2.2.1.below hb).int _)
  rw [Hqn.out] at hnmc
  obtain ⟨nm, hnm⟩ : ∃ nm, nameD q id = nm := ⟨_, rfl⟩
  obtain ⟨tn, htn⟩ : ∃ tn, strL nm = tn := ⟨_, rfl⟩
  have hnl : nm.length ≤ 11 := by rw [← hnm]; exact nameD_len q id
  rw [hnm, htn] at hnmc
  have Hnmc := Lib.hid hnmc
  have Hnm := Lib.hid (And.intro hnm (And.intro htn hnl))
  have H3 := Lib.hid (And.intro hF3 (And.intro hb3 hρ3))
  clear hF3 hb3 hρ3 hnmc hnm htn hnl
  go_wp2_with fail
  refine (Hnmc.out w3 (Hcv.out _ H3.out.2.1).1).mono ?_; rintro e w4 ⟨rfl, hb4⟩
  have hb4B := H3.out.2.1.trans (hb4.mono (Hcv.out _ H3.out.2.1).2.2.2)
  have hcr := create_calls' f (newD B 1048576) (newRho B) nm w4 (H3.out.1.below hb4) (by have := Hnm.out.2.2; unfold maxLen; omega) ⟨by show (-1 : Int) ≤ -1; omega, by show (-1 : Int) ≤ _; omega⟩ (by show 0 ≤ 1000000; omega)
  rw [Hnm.out.2.1] at hcr
  have Hcr := Lib.hid hcr
  have Hb4 := Lib.hid hb4B
  clear hcr hb4 hb4B
  go_wp2_with fail
  refine (Hcr.out).mono ?_; rintro e w5 ⟨x, v5, lv5, ρ5, rfl, hF5, hst5⟩
  obtain ⟨hb5, hρ5⟩ := hst5.bel H3.out.2.2 (Hcv.out _ Hb4.out).2.2.2
  have hg5 := create_go (n := nm) (x := x.x) (v := v5) (lv := lv5) (vw_new B 1048576 (by decide)).ok
  have H5 := Lib.hid (And.intro hF5 (And.intro (Hb4.out.trans hb5) (And.intro hρ5 hg5)))
  generalize (createD (newD B 1048576) nm x.x v5 lv5).1 = e5
  clear hF5 hst5 hb5 hρ5 hg5
  go_wp2_with fail
  refine (Hnmc.out w5 (Hcv.out _ H5.out.2.1).1).mono ?_; rintro e w6 ⟨rfl, hb6⟩
  have hb6B := H5.out.2.1.trans (hb6.mono (Hcv.out _ H5.out.2.1).2.2.2)
  have hap := append_calls f (createD (newD B 1048576) nm x.x v5 lv5).2 ρ5 nm (.slice a bs.length cap) bs w6 (H5.out.1.below hb6) (by have := Hnm.out.2.2; unfold maxLen; omega) H5.out.2.2.2.1.fuse H5.out.2.2.2.1.n H5.out.2.2.2.1.room (Hcv.out _ hb6B).2.2.1 H.out.2.1 (fun k e => by
    cases hr : ρ5 k with
    | none => rfl
    | some r =>
      have h1 := H5.out.2.2.1 k (Rho.has_of hr)
      have h2 := H.out.2.2.1 k e
      have h3 := Hf.out.2
      omega)
  rw [Hnm.out.2.1] at hap
  have Hap := Lib.hid hap
  have Hb6 := Lib.hid hb6B
  clear hap hb6 hb6B
  go_wp2_with fail
  refine (Hap.out).mono ?_; rintro e w7 ⟨row, ρ7, rfl, hF7, hst7⟩
  obtain ⟨hb7, hρ7⟩ := hst7.bel H5.out.2.2.1 (Hcv.out _ Hb6.out).2.2.2
  have hg7 := append_go (n := nm) (bs := bs) (row := row) H5.out.2.2.2.1
  obtain ⟨C, hV, hC, hC0⟩ := cor_disk (B := B) H.out.2.2.2.2.2.2.2 H.out.2.2.2.2.2.2.1 H.out.2.2.2.2.2.1 x v5 lv5 row
  rw [Hnm.out.1] at hV hC hC0
  generalize (appendD (createD (newD B 1048576) nm x.x v5 lv5).2 nm bs row).1 = e7
  obtain ⟨fs, hfs⟩ : ∃ fs, (appendD (createD (newD B 1048576) nm x.x v5 lv5).2 nm bs row).2 = fs := ⟨_, rfl⟩
  rw [hfs] at hF7 hg7 hV
  have hll : fs.loose.length ≤ 10 := by
    have h1 := (H5.out.2.2.2.trans hg7).2
    have h2 : (newD B 1048576).loose.length = 0 := rfl
    omega
  have hb7B := Hb6.out.trans hb7
  have hcv7 := (Hcv.out _ hb7B).1
  have hop := open_calls f fs ρ7 w7 hF7 hV.ok hV.up.down (cor_nm hV hC0 (by have := Hnm.out.2.2; omega)) (by omega) (fun k e => by
    have h1 := hρ7 k e
    have h2 := Hf.out.2
    have h3 := H.out.2.2.2.1.size
    omega) (H.out.2.2.2.1.below hcv7) (H.out.2.2.2.2.1.below hcv7)
  have Hop := Lib.hid hop
  have H7 := Lib.hid (And.intro hF7 (And.intro hb7B (And.intro hρ7 (And.intro hV (And.intro hC (And.intro hC0 hll))))))
  clear hop hF7 hst7 hb7 hρ7 hg7 hV hC hC0 hfs hll hb7B hcv7
  go_wp2_with fail
  refine (Hop.out).mono ?_; rintro e w8 ⟨er, s, d, ρ8, hret, ⟨ib, mb8, ss, hss, hrec⟩, hO8, hfb8, hst8, hnew8, hg8⟩
  obtain ⟨hb8, hρ8⟩ := hst8.bel H7.out.2.2.1 (Hcv.out _ H7.out.2.1).2.2.2
  have hco := cor_open H.out.2.2.2.2.2.2.2 H.out.2.2.2.2.2.2.1 H7.out.2.2.2.1 (by rw [Hnm.out.1]; exact H7.out.2.2.2.2.1) (by rw [Hnm.out.1]; exact H7.out.2.2.2.2.2.1) rfl H.out.2.2.2.2.2.1 hss hrec
  have hfi := file_iff bs id
  rw [Hr.out] at hfi
  rw [Hmi.out.1, Hmi.out.2] at hfi
  have H8 := Lib.hid (And.intro hO8 (And.intro hfb8 (And.intro (H7.out.2.1.trans hb8) (And.intro hρ8 (And.intro hst8 hg8)))))
  have hM8 := (mail_cells (Hcv.out _ (H7.out.2.1.trans hb8)).2.1).1.1
  have Hs8 := Lib.hid (fun k (hk : k = s ∨ k = d.ib ∨ k = d.mb) => Nat.le_trans (Hcv.out _ H7.out.2.1).2.2.2 (hnew8 k hk))
  clear hb8 hρ8 hO8 hfb8 hst8 hnew8 hg8 hss hrec
  by_cases hgd : ok = true ∧ mi = id
  · obtain ⟨r1, r2⟩ := hco.1 (hfi.2 hgd)
    obtain ⟨g1, g2⟩ := hgd
    subst g1
    subst g2
    rcases hret with ⟨r3, rfl⟩ | ⟨r3, _⟩
    · have hwh := fun wN (hb : Below w8.heap.size w8 wN) => where_calls s d ρ8 wN (H8.out.1.below hb).at_ mi (by have := H.out.2.2.2.2.2.2.1; omega)
      rw [r2, at_one, if_pos rfl, Hqn.out] at hwh
      have Hwh := Lib.hid hwh
      have hcv8 := (Hcv.out _ H8.out.2.2.1).1
      have Ha := Lib.hid (Hans.out _ hcv8)
      have Hb8 := Lib.hid hcv8
      clear hwh hcv8 hco hfi r2 r1 r3 hcell
      go_wp2_with fail
      refine (Ha.out).mono ?_; rintro e w9 ⟨rfl, hb9⟩
      have Hb9 := Lib.hid hb9
      clear hb9 hM8
      go_wp2_with fail
      refine (Hwh.out _ Hb9.out).mono ?_; rintro e w10 ⟨rfl, hb10⟩
      have hfin := Hb8.out.trans ((Hb9.out.trans (hb10.mono Hb9.out.size)).mono Hb8.out.size)
      clear hb10
      go_wp2
      go_ret
      exact ⟨by simp, hfin⟩
    · exact absurd r1 r3
  · obtain ⟨r1, r2, r3, C1, U1, r4, r5⟩ := hco.2 (fun g hg hgi => hgd (hfi.1 ⟨g, hg, hgi⟩))
    rcases hret with ⟨_, rfl⟩ | ⟨r6, _⟩
    · have hfile := sfile_calls s d ρ8 w8 H8.out.1.at_ id (by have := H.out.2.2.2.2.2.2.1; omega) H8.out.1.g H8.out.1.mx
      rw [cor_file r2] at hfile
      have Hfile := Lib.hid hfile
      have HB := Lib.hid (And.intro r2 (And.intro r3 (And.intro r4 r5)))
      have hgc : (if ok = true then mi == id else false) = false := by
        cases ok with
        | false => rfl
        | true => simpa using fun e => hgd ⟨rfl, e⟩
      clear hco hfi r1 r2 r3 r4 r5 hfile hcell
      clear hgc
      have hmi' : ok = true → (mi == id) = false := fun e => by simpa using fun e2 => hgd ⟨e, e2⟩
      have Hmi' := Lib.hid hmi'
      clear hmi' hgd
      cases ok with
      | false =>
        clear Hmi'
        go_wp2_with fail
        refine (Hfile.out).mono ?_; rintro e w9 ⟨ur, ub, um, rfl, o1, o2, o3, hb9⟩
        obtain ⟨u1, k1, rfl⟩ := own_slice o1
        obtain ⟨u2, k2, rfl⟩ := own_slice o2
        obtain ⟨u3, k3, rfl⟩ := own_slice o3
        obtain ⟨m1, hm1⟩ : ∃ m1, ((none : Option FileD).getD FileD.zero).mail.rcpts.length = m1 := ⟨_, rfl⟩
        obtain ⟨m2, hm2⟩ : ∃ m2, ((none : Option FileD).getD FileD.zero).mail.body.length = m2 := ⟨_, rfl⟩
        obtain ⟨m3, hm3⟩ : ∃ m3, ((none : Option FileD).getD FileD.zero).marks.length = m3 := ⟨_, rfl⟩
        have he : ∀ a b c, fileVal ((none : Option FileD).getD FileD.zero) a b c = .agg #[.int .i64 0, .int .i64 0, .int .i64 0, .string (strL []), a, b, c, .int .i64 0] := fun _ _ _ => rfl
        have hs : (none : Option FileD).isSome = false := rfl
        rw [he, hs, hm1, hm2, hm3]
        generalize strL [] = se
        obtain ⟨W10, hW10⟩ : ∃ W10, w9.alloc (.cells #[.int .i64 0, .int .i64 0, .int .i64 0, .string se, .slice u1 m1 k1, .slice u2 m2 k2, .slice u3 m3 k3, .int .i64 0] 43) = W10 := ⟨_, rfl⟩
        have hbW10 : Below w9.heap.size w9 W10 := by rw [← hW10]; exact (Below.refl _ _).alloc (Nat.le_refl _) _
        have hb10 := hb9.trans (hbW10.mono hb9.size)
        have hO10 := H8.out.1.below hb10
        have hb10B := H8.out.2.2.1.trans (hb10.mono (Hcv.out _ H8.out.2.2.1).2.2.2)
        have hcv10 := (Hcv.out _ hb10B).1
        have hF10 := hO10.at_.fs
        rw [H8.out.2.1] at hF10
        have hop2 := open_calls f d.fs ρ8 W10 hF10 hO10.ok HB.out.2.2.1.up.down (cor_nm1 HB.out.2.2.1 HB.out.2.2.2 (by have := nameD_len 99 id; omega)) (by have := H8.out.2.2.2.2.2.2; have := H7.out.2.2.2.2.2.2; omega) (fun k e => by
          have h1 := H8.out.2.2.2.1 k e
          have h2 := Hf.out.2
          have h3 := H.out.2.2.2.1.size
          omega) (H.out.2.2.2.1.below hcv10) (H.out.2.2.2.2.1.below hcv10)
        have Hop2 := Lib.hid hop2
        have H10 := Lib.hid (And.intro hO10 hb10B)
        clear hop2 hO10 hF10 hb10 hb9 hbW10 hb10B hcv10 o1 o2 o3 hm1 hm2 hm3 he hs hM8
        subst hW10
        go_wp2_with fail
        refine (Hop2.out).mono ?_; rintro e w11 ⟨er2, t, d2, ρ11, hret2, ⟨ib2, mb2, ss2, hss2, hrec2⟩, hO11, hfb11, hst11, hnew11, hg11⟩
        obtain ⟨r7, r8, r9⟩ := cor_again H.out.2.2.2.2.2.2.1 HB.out.2.2.1 HB.out.2.2.2 hss2 hrec2
        rcases hret2 with ⟨_, rfl⟩ | ⟨r10, _⟩
        · have hF11 : FsAt w11 d.fb d2.fs ρ11 := by have := hO11.at_.fs; rw [hfb11] at this; rw [H8.out.2.1]; exact this
          obtain ⟨hAs, hTs⟩ := H10.out.1.at_.fsStep hF11 hst11
          have hx : ({ d with fs := d2.fs } : StoD) = d := by rw [r9]
          rw [hx] at hAs hTs
          have hOs := H10.out.1.step hAs hTs H10.out.1.ok H10.out.1.last H10.out.1.nf
          obtain ⟨hb11, hρ11⟩ := hst11.bel H8.out.2.2.2.1 (Hcv.out _ H10.out.2).2.2.2
          have hb11B := H10.out.2.trans hb11
          have hcv11 := (Hcv.out _ hb11B).1
          have hNo : ∀ (k : Nat) (ρ : Rho), (k = t ∨ k = d2.ib ∨ k = d2.mb) → ρ k = none → ¬ stoOwn s d ρ k := fun k ρ hk hr => no_own H10.out.1.at_ (hnew11 k hk) hr
          have Ha := Lib.hid (Hans.out _ hcv11)
          have H11 := Lib.hid (And.intro hOs (And.intro hO11.at_ (And.intro hb11B (And.intro r8 (And.intro hNo (And.intro hfb11 r9))))))
          have Hcv11 := Lib.hid hcv11
          have Hρ11 := Lib.hid hρ11
          clear hF11 hAs hTs hOs hb11 hρ11 hb11B hcv11 hNo hO11 hst11 hnew11 hg11 hss2 hrec2 r7 r8 r9
          go_wp2_with fail
          refine (Ha.out).mono ?_; rintro e w12 ⟨rfl, hb12⟩
          have Hb12 := Lib.hid hb12
          have hwh := where_calls s d ρ11 w12 (H11.out.1.below hb12).at_ id (by have := H.out.2.2.2.2.2.2.1; omega)
          have h99 : ((99 : UInt8).toNat : Int) = 99 := rfl
          rw [HB.out.1, at_one, if_pos rfl, h99] at hwh
          have Hwh := Lib.hid hwh
          clear hb12 hwh
          go_wp2_with fail
          refine (Hwh.out).mono ?_; rintro e w13 ⟨rfl, hb13⟩
          have hb13' := Hb12.out.trans (hb13.mono Hb12.out.size)
          have Hb13 := Lib.hid hb13'
          have hls := slist_calls s d ρ11 w13 (H11.out.1.below hb13').at_ 99 (by rw [HB.out.1]; show 1 ≤ 100000; omega)
          rw [HB.out.1, listD_one, if_pos rfl, h99] at hls
          have Hls := Lib.hid hls
          clear hb13 hb13' hls
          go_wp2_with fail
          refine (Hls.out).mono ?_; rintro e w14 ⟨v14, rfl, hrow14, hb14⟩
          have hb14' := Hb13.out.trans (hb14.mono Hb13.out.size)
          obtain ⟨n, hn⟩ : ∃ n : Nat, id = (n : Int) := Int.eq_ofNat_of_zero_le (by have := H.out.2.2.2.2.2.2.1; omega)
          obtain ⟨W14, hW14⟩ : ∃ W14, w14.alloc (.cells #[.int .i64 id] 3) = W14 := ⟨_, rfl⟩
          have hbW14 : Below w14.heap.size w14 W14 := by rw [← hW14]; exact (Below.refl _ _).alloc (Nat.le_refl _) _
          have hr1 : RdI W14 v14 [n] := by
            refine RdL.below ?_ (Nat.le_refl _) hbW14
            refine rdL_ofOwn (xs := [n]) (n := 1) i1_len (by decide) (base := w13.heap.size) (e := 3) ?_
            have h0 : w14.ownsRow w13.heap.size 3 1 v14 1 [.int .i64 id] := hrow14
            rw [hn] at h0; exact h0
          have hr2 : RdI W14 (.slice (some ⟨w14.heap.size, 0, none⟩) 1 1) [n] := by
            have h0 : (w14.alloc (.cells #[.int .i64 id] 3)).ownsRow w14.heap.size 3 1 (.slice (some ⟨w14.heap.size, 0, none⟩) 1 1) 1 [.int .i64 id] := World.ownsRow_lit w14 #[.int .i64 id] 1 (Nat.le_refl _) (by decide) rfl
            rw [← hW14]
            refine rdL_ofOwn (xs := [n]) (n := 1) i1_len (by decide) (base := w14.heap.size) (e := 3) ?_
            rw [hn] at h0 ⊢; exact h0
          have hin := refInts_calls v14 (.slice (some ⟨w14.heap.size, 0, none⟩) 1 1) [n] W14 hr1 hr2
          obtain ⟨av, cv, rfl⟩ := own_form0 hrow14
          have Hin := Lib.hid hin
          have Hb14 := Lib.hid (hb14'.trans (hbW14.mono hb14'.size))
          clear hb14 hb14' hin hr1 hr2 hbW14 hrow14 hn
          subst hW14
          go_wp2_with fail
          refine (Hin.out).mono ?_; rintro e w15 ⟨rfl, hb15⟩
          have hb15' := Hb14.out.trans (hb15.mono Hb14.out.size)
          have hO15 := H11.out.1.below hb15'
          have hT15 := H11.out.2.1.below hb15'
          have hdr := drop_calls s d ρ11 id w15 hO15 (by have := H8.out.2.2.2.2.2.2; have := H7.out.2.2.2.2.2.2; omega) (by have := H.out.2.2.2.2.2.2.1; omega)
          have Hdr := Lib.hid hdr
          have H15 := Lib.hid (And.intro hO15 (And.intro hT15 (H11.out.2.2.1.trans (hb15'.mono (Hcv.out _ H11.out.2.2.1).2.2.2))))
          clear hb15 hb15' hO15 hT15 hdr
          go_wp2_with fail
          refine (Hdr.out).mono ?_; rintro e w16 ⟨e16, d16, ρ16, rfl, hd16, hO16, hT16, hg16⟩
          obtain ⟨e16', hd16'⟩ := cor_drop HB.out.1 HB.out.2.1 hd16
          rw [hd16'] at hO16 hT16
          have hT16t := H15.out.2.1.beside hT16 hO16.at_ (by rw [H11.out.2.2.2.2.2.1, H8.out.2.1]) (H11.out.2.2.2.2.1 _ _ (.inl rfl) H15.out.2.1.rs) (H11.out.2.2.2.2.1 _ _ (.inr (.inl rfl)) H15.out.2.1.ri) (H11.out.2.2.2.2.1 _ _ (.inr (.inr rfl)) H15.out.2.1.rm)
          have hx : ({ d2 with fs := d.fs } : StoD) = d2 := by rw [← H11.out.2.2.2.2.2.2]
          rw [hx] at hT16t
          have hs15 : ∀ (ρ : Rho), (∀ k, ρ.has k → B ≤ k) → ∀ k, stoOwn s d ρ k → B ≤ k := fun ρ hρ k e => by
            rcases e with e | e | e | e
            · exact hρ k e
            · exact Hs8.out k (.inl e)
            · exact Hs8.out k (.inr (.inl e))
            · exact Hs8.out k (.inr (.inr e))
          have hb16 := hT16.belB (hs15 _ Hρ11.out) (Hcv.out _ H15.out.2.2).2.2.2
          have hb16B := H15.out.2.2.trans hb16
          have hmv := move_calls s d ρ16 id 105 w16 hO16 (by have := H8.out.2.2.2.2.2.2; have := H7.out.2.2.2.2.2.2; omega) (by rw [HB.out.1]; show 1 ≤ 1000000; omega) (by have := H.out.2.2.2.2.2.2.1; omega)
          have h105 : ((105 : UInt8).toNat : Int) = 105 := rfl
          rw [h105] at hmv
          have Hmv := Lib.hid hmv
          have hown16 : ∀ k, stoOwn s d ρ16 k → B ≤ k := fun k e => by
            rcases hT16.grow k e with e | e
            · exact hs15 _ Hρ11.out k e
            · have := (Hcv.out _ H15.out.2.2).2.2.2; omega
          have H16 := Lib.hid (And.intro hT16t (And.intro hb16B hown16))
          subst e16'
          clear hmv hT16t hb16B hown16 hb16 hT16 hO16 hd16 hd16' hg16 hs15 hx h105
          go_wp2_with fail
          refine (Hmv.out).mono ?_; rintro e w17 ⟨e17, d17, ρ17, rfl, hd17, hO17, hT17, hg17⟩
          obtain ⟨e17', hd17'⟩ := cor_move HB.out.1 HB.out.2.1 hd17
          rw [hd17'] at hO17 hT17
          have hT17t := H16.out.1.beside hT17 hO17.at_ (by rw [H11.out.2.2.2.2.2.1, H8.out.2.1]) (H11.out.2.2.2.2.1 _ _ (.inl rfl) H16.out.1.rs) (H11.out.2.2.2.2.1 _ _ (.inr (.inl rfl)) H16.out.1.ri) (H11.out.2.2.2.2.1 _ _ (.inr (.inr rfl)) H16.out.1.rm)
          have hx : ({ d2 with fs := d.fs } : StoD) = d2 := by rw [← H11.out.2.2.2.2.2.2]
          rw [hx] at hT17t
          have hb17 := hT17.belB H16.out.2.2 (Hcv.out _ H16.out.2.1).2.2.2
          have hb17B := H16.out.2.1.trans hb17
          have hwt := where_calls t d2 ρ17 w17 hT17t id (by have := H.out.2.2.2.2.2.2.1; omega)
          have h99 : ((99 : UInt8).toNat : Int) = 99 := rfl
          rw [H11.out.2.2.2.1, at_one, if_pos rfl, h99] at hwt
          have Hwt := Lib.hid hwt
          have Hb17 := Lib.hid hb17B
          subst e17'
          clear hwt hb17 hb17B hT17t hT17 hO17 hd17 hd17' hg17 hx h99
          go_wp2_with fail
          refine (Hwt.out).mono ?_; rintro e w18 ⟨rfl, hb18⟩
          have hcv17 := Hcv.out _ Hb17.out
          have hb18' := hcv17.1.trans (hb18.mono hcv17.1.size)
          clear hb18 hcv17
          go_wp2
          go_ret
          exact ⟨rfl, hb18'⟩
        · exact absurd r7 r10
      | true =>
        have hne := Hmi'.out rfl
        clear Hmi'
        go_wp2_with fail
        refine (Hfile.out).mono ?_; rintro e w9 ⟨ur, ub, um, rfl, o1, o2, o3, hb9⟩
        obtain ⟨u1, k1, rfl⟩ := own_slice o1
        obtain ⟨u2, k2, rfl⟩ := own_slice o2
        obtain ⟨u3, k3, rfl⟩ := own_slice o3
        obtain ⟨m1, hm1⟩ : ∃ m1, ((none : Option FileD).getD FileD.zero).mail.rcpts.length = m1 := ⟨_, rfl⟩
        obtain ⟨m2, hm2⟩ : ∃ m2, ((none : Option FileD).getD FileD.zero).mail.body.length = m2 := ⟨_, rfl⟩
        obtain ⟨m3, hm3⟩ : ∃ m3, ((none : Option FileD).getD FileD.zero).marks.length = m3 := ⟨_, rfl⟩
        have he : ∀ a b c, fileVal ((none : Option FileD).getD FileD.zero) a b c = .agg #[.int .i64 0, .int .i64 0, .int .i64 0, .string (strL []), a, b, c, .int .i64 0] := fun _ _ _ => rfl
        have hs : (none : Option FileD).isSome = false := rfl
        rw [he, hs, hm1, hm2, hm3]
        generalize strL [] = se
        obtain ⟨W10, hW10⟩ : ∃ W10, w9.alloc (.cells #[.int .i64 0, .int .i64 0, .int .i64 0, .string se, .slice u1 m1 k1, .slice u2 m2 k2, .slice u3 m3 k3, .int .i64 0] 43) = W10 := ⟨_, rfl⟩
        have hbW10 : Below w9.heap.size w9 W10 := by rw [← hW10]; exact (Below.refl _ _).alloc (Nat.le_refl _) _
        have hb10 := hb9.trans (hbW10.mono hb9.size)
        have hO10 := H8.out.1.below hb10
        have hb10B := H8.out.2.2.1.trans (hb10.mono (Hcv.out _ H8.out.2.2.1).2.2.2)
        have hcv10 := (Hcv.out _ hb10B).1
        have hF10 := hO10.at_.fs
        rw [H8.out.2.1] at hF10
        have hop2 := open_calls f d.fs ρ8 W10 hF10 hO10.ok HB.out.2.2.1.up.down (cor_nm1 HB.out.2.2.1 HB.out.2.2.2 (by have := nameD_len 99 id; omega)) (by have := H8.out.2.2.2.2.2.2; have := H7.out.2.2.2.2.2.2; omega) (fun k e => by
          have h1 := H8.out.2.2.2.1 k e
          have h2 := Hf.out.2
          have h3 := H.out.2.2.2.1.size
          omega) (H.out.2.2.2.1.below hcv10) (H.out.2.2.2.2.1.below hcv10)
        have Hop2 := Lib.hid hop2
        have H10 := Lib.hid (And.intro hO10 hb10B)
        clear hop2 hO10 hF10 hb10 hb9 hbW10 hb10B hcv10 o1 o2 o3 hm1 hm2 hm3 he hs hM8
        subst hW10
        go_wp2_with fail
        refine (Hop2.out).mono ?_; rintro e w11 ⟨er2, t, d2, ρ11, hret2, ⟨ib2, mb2, ss2, hss2, hrec2⟩, hO11, hfb11, hst11, hnew11, hg11⟩
        obtain ⟨r7, r8, r9⟩ := cor_again H.out.2.2.2.2.2.2.1 HB.out.2.2.1 HB.out.2.2.2 hss2 hrec2
        rcases hret2 with ⟨_, rfl⟩ | ⟨r10, _⟩
        · have hF11 : FsAt w11 d.fb d2.fs ρ11 := by have := hO11.at_.fs; rw [hfb11] at this; rw [H8.out.2.1]; exact this
          obtain ⟨hAs, hTs⟩ := H10.out.1.at_.fsStep hF11 hst11
          have hx : ({ d with fs := d2.fs } : StoD) = d := by rw [r9]
          rw [hx] at hAs hTs
          have hOs := H10.out.1.step hAs hTs H10.out.1.ok H10.out.1.last H10.out.1.nf
          obtain ⟨hb11, hρ11⟩ := hst11.bel H8.out.2.2.2.1 (Hcv.out _ H10.out.2).2.2.2
          have hb11B := H10.out.2.trans hb11
          have hcv11 := (Hcv.out _ hb11B).1
          have hNo : ∀ (k : Nat) (ρ : Rho), (k = t ∨ k = d2.ib ∨ k = d2.mb) → ρ k = none → ¬ stoOwn s d ρ k := fun k ρ hk hr => no_own H10.out.1.at_ (hnew11 k hk) hr
          have Ha := Lib.hid (Hans.out _ hcv11)
          have H11 := Lib.hid (And.intro hOs (And.intro hO11.at_ (And.intro hb11B (And.intro r8 (And.intro hNo (And.intro hfb11 r9))))))
          have Hcv11 := Lib.hid hcv11
          have Hρ11 := Lib.hid hρ11
          clear hF11 hAs hTs hOs hb11 hρ11 hb11B hcv11 hNo hO11 hst11 hnew11 hg11 hss2 hrec2 r7 r8 r9
          go_wp2_with fail
          refine (Ha.out).mono ?_; rintro e w12 ⟨rfl, hb12⟩
          have Hb12 := Lib.hid hb12
          have hwh := where_calls s d ρ11 w12 (H11.out.1.below hb12).at_ id (by have := H.out.2.2.2.2.2.2.1; omega)
          have h99 : ((99 : UInt8).toNat : Int) = 99 := rfl
          rw [HB.out.1, at_one, if_pos rfl, h99] at hwh
          have Hwh := Lib.hid hwh
          clear hb12 hwh
          go_wp2_with fail
          refine (Hwh.out).mono ?_; rintro e w13 ⟨rfl, hb13⟩
          have hb13' := Hb12.out.trans (hb13.mono Hb12.out.size)
          have Hb13 := Lib.hid hb13'
          have hls := slist_calls s d ρ11 w13 (H11.out.1.below hb13').at_ 99 (by rw [HB.out.1]; show 1 ≤ 100000; omega)
          rw [HB.out.1, listD_one, if_pos rfl, h99] at hls
          have Hls := Lib.hid hls
          clear hb13 hb13' hls
          go_wp2_with fail
          refine (Hls.out).mono ?_; rintro e w14 ⟨v14, rfl, hrow14, hb14⟩
          have hb14' := Hb13.out.trans (hb14.mono Hb13.out.size)
          obtain ⟨n, hn⟩ : ∃ n : Nat, id = (n : Int) := Int.eq_ofNat_of_zero_le (by have := H.out.2.2.2.2.2.2.1; omega)
          obtain ⟨W14, hW14⟩ : ∃ W14, w14.alloc (.cells #[.int .i64 id] 3) = W14 := ⟨_, rfl⟩
          have hbW14 : Below w14.heap.size w14 W14 := by rw [← hW14]; exact (Below.refl _ _).alloc (Nat.le_refl _) _
          have hr1 : RdI W14 v14 [n] := by
            refine RdL.below ?_ (Nat.le_refl _) hbW14
            refine rdL_ofOwn (xs := [n]) (n := 1) i1_len (by decide) (base := w13.heap.size) (e := 3) ?_
            have h0 : w14.ownsRow w13.heap.size 3 1 v14 1 [.int .i64 id] := hrow14
            rw [hn] at h0; exact h0
          have hr2 : RdI W14 (.slice (some ⟨w14.heap.size, 0, none⟩) 1 1) [n] := by
            have h0 : (w14.alloc (.cells #[.int .i64 id] 3)).ownsRow w14.heap.size 3 1 (.slice (some ⟨w14.heap.size, 0, none⟩) 1 1) 1 [.int .i64 id] := World.ownsRow_lit w14 #[.int .i64 id] 1 (Nat.le_refl _) (by decide) rfl
            rw [← hW14]
            refine rdL_ofOwn (xs := [n]) (n := 1) i1_len (by decide) (base := w14.heap.size) (e := 3) ?_
            rw [hn] at h0 ⊢; exact h0
          have hin := refInts_calls v14 (.slice (some ⟨w14.heap.size, 0, none⟩) 1 1) [n] W14 hr1 hr2
          obtain ⟨av, cv, rfl⟩ := own_form0 hrow14
          have Hin := Lib.hid hin
          have Hb14 := Lib.hid (hb14'.trans (hbW14.mono hb14'.size))
          clear hb14 hb14' hin hr1 hr2 hbW14 hrow14 hn
          subst hW14
          go_wp2_with fail
          refine (Hin.out).mono ?_; rintro e w15 ⟨rfl, hb15⟩
          have hb15' := Hb14.out.trans (hb15.mono Hb14.out.size)
          have hO15 := H11.out.1.below hb15'
          have hT15 := H11.out.2.1.below hb15'
          have hdr := drop_calls s d ρ11 id w15 hO15 (by have := H8.out.2.2.2.2.2.2; have := H7.out.2.2.2.2.2.2; omega) (by have := H.out.2.2.2.2.2.2.1; omega)
          have Hdr := Lib.hid hdr
          have H15 := Lib.hid (And.intro hO15 (And.intro hT15 (H11.out.2.2.1.trans (hb15'.mono (Hcv.out _ H11.out.2.2.1).2.2.2))))
          clear hb15 hb15' hO15 hT15 hdr
          go_wp2_with fail
          refine (Hdr.out).mono ?_; rintro e w16 ⟨e16, d16, ρ16, rfl, hd16, hO16, hT16, hg16⟩
          obtain ⟨e16', hd16'⟩ := cor_drop HB.out.1 HB.out.2.1 hd16
          rw [hd16'] at hO16 hT16
          have hT16t := H15.out.2.1.beside hT16 hO16.at_ (by rw [H11.out.2.2.2.2.2.1, H8.out.2.1]) (H11.out.2.2.2.2.1 _ _ (.inl rfl) H15.out.2.1.rs) (H11.out.2.2.2.2.1 _ _ (.inr (.inl rfl)) H15.out.2.1.ri) (H11.out.2.2.2.2.1 _ _ (.inr (.inr rfl)) H15.out.2.1.rm)
          have hx : ({ d2 with fs := d.fs } : StoD) = d2 := by rw [← H11.out.2.2.2.2.2.2]
          rw [hx] at hT16t
          have hs15 : ∀ (ρ : Rho), (∀ k, ρ.has k → B ≤ k) → ∀ k, stoOwn s d ρ k → B ≤ k := fun ρ hρ k e => by
            rcases e with e | e | e | e
            · exact hρ k e
            · exact Hs8.out k (.inl e)
            · exact Hs8.out k (.inr (.inl e))
            · exact Hs8.out k (.inr (.inr e))
          have hb16 := hT16.belB (hs15 _ Hρ11.out) (Hcv.out _ H15.out.2.2).2.2.2
          have hb16B := H15.out.2.2.trans hb16
          have hmv := move_calls s d ρ16 id 105 w16 hO16 (by have := H8.out.2.2.2.2.2.2; have := H7.out.2.2.2.2.2.2; omega) (by rw [HB.out.1]; show 1 ≤ 1000000; omega) (by have := H.out.2.2.2.2.2.2.1; omega)
          have h105 : ((105 : UInt8).toNat : Int) = 105 := rfl
          rw [h105] at hmv
          have Hmv := Lib.hid hmv
          have hown16 : ∀ k, stoOwn s d ρ16 k → B ≤ k := fun k e => by
            rcases hT16.grow k e with e | e
            · exact hs15 _ Hρ11.out k e
            · have := (Hcv.out _ H15.out.2.2).2.2.2; omega
          have H16 := Lib.hid (And.intro hT16t (And.intro hb16B hown16))
          subst e16'
          clear hmv hT16t hb16B hown16 hb16 hT16 hO16 hd16 hd16' hg16 hs15 hx h105
          go_wp2_with fail
          refine (Hmv.out).mono ?_; rintro e w17 ⟨e17, d17, ρ17, rfl, hd17, hO17, hT17, hg17⟩
          obtain ⟨e17', hd17'⟩ := cor_move HB.out.1 HB.out.2.1 hd17
          rw [hd17'] at hO17 hT17
          have hT17t := H16.out.1.beside hT17 hO17.at_ (by rw [H11.out.2.2.2.2.2.1, H8.out.2.1]) (H11.out.2.2.2.2.1 _ _ (.inl rfl) H16.out.1.rs) (H11.out.2.2.2.2.1 _ _ (.inr (.inl rfl)) H16.out.1.ri) (H11.out.2.2.2.2.1 _ _ (.inr (.inr rfl)) H16.out.1.rm)
          have hx : ({ d2 with fs := d.fs } : StoD) = d2 := by rw [← H11.out.2.2.2.2.2.2]
          rw [hx] at hT17t
          have hb17 := hT17.belB H16.out.2.2 (Hcv.out _ H16.out.2.1).2.2.2
          have hb17B := H16.out.2.1.trans hb17
          have hwt := where_calls t d2 ρ17 w17 hT17t id (by have := H.out.2.2.2.2.2.2.1; omega)
          have h99 : ((99 : UInt8).toNat : Int) = 99 := rfl
          rw [H11.out.2.2.2.1, at_one, if_pos rfl, h99] at hwt
          have Hwt := Lib.hid hwt
          have Hb17 := Lib.hid hb17B
          subst e17'
          clear hwt hb17 hb17B hT17t hT17 hO17 hd17 hd17' hg17 hx h99
          go_wp2_with fail
          refine (Hwt.out).mono ?_; rintro e w18 ⟨rfl, hb18⟩
          have hcv17 := Hcv.out _ Hb17.out
          have hb18' := hcv17.1.trans (hb18.mono hcv17.1.size)
          clear hb18 hcv17
          go_wp2
          go_ret
          exact ⟨rfl, hb18'⟩
        · exact absurd r7 r10
    · exact absurd r1 r6
theorem storeCorrupt_all (a0 a2 : Int) (v : Value) (bs : List UInt8) (w : World) (hv : RdB w v bs) (hnv : NilOk v) (hol : ∀ k, v.ownBlock = some k → k < w.heap.size) (h2 : (Lit.int .u8 a2).wf = true) (hg : GOk w) (hmax : MaxOk w) :
    Calls Tryz.prog 4 #[.int .i64 a0, v, .int .u8 a2] w fun e w' => e = .returned (.bool true) ∧ Below w.heap.size w w' := by
  obtain ⟨l, u⟩ := bounds_u8 h2
  obtain ⟨n, rfl⟩ := Int.eq_ofNat_of_zero_le l
  exact storeCorrupt_calls a0 v bs (n % 4) (n : Int) w hv hnv hol (by rw [Int.tmod_eq_emod_of_nonneg (by omega)]; rfl) (by omega) ⟨by omega, by omega⟩ hg hmax
end Go.Proofs.YtffnbkmigapmjaaGreatDoor

/-
  The walk of pillarboxlaw14.answers.
  The body of the law StoreNames (printed by gen_nam.py).
-/
import Derived.Test.YtffnbkmigapmjaaGreatDoorS41
import Derived.Test.YtffnbkmigapmjaaGreatDoorS43
import Derived.Test.YtffnbkmigapmjaaGreatDoorS45
import Derived.Test.YtffnbkmigapmjaaGreatDoorS47
set_option linter.unusedSimpArgs false
set_option linter.unusedVariables false
set_option maxRecDepth 100000
namespace Go.Proofs.YtffnbkmigapmjaaGreatDoor
open Go.RowKit Go.Maps
theorem idsNameD_len14 {n : Int} (h : 0 ≤ n ∧ n ≤ 999999999) : (idsNameD n).length = 14 := by
  rw [idsNameD_of h, List.length_append, numD_length (by omega)]; rfl
theorem ids_ne_name {n : Int} (h : 0 ≤ n ∧ n ≤ 999999999) (q : UInt8) (k : Int) : idsNameD n ≠ nameD q k := fun e => by
  have h1 := idsNameD_len14 h
  have h2 := nameD_len q k
  rw [e] at h1; omega
theorem vw_new (B : Nat) (r : Int) (hr : 0 ≤ r ∧ r ≤ 16777216) : Vw (newD B r) (fun _ => none) 0 0 r :=
  ⟨⟨⟨by show (-1 : Int) ≤ -1; omega, by show (-1 : Int) ≤ _; omega, by show 0 ≤ 256; omega, hr.1, hr.2⟩, List.Pairwise.nil, List.Pairwise.nil, fun p hp => (by cases hp), rfl, rfl⟩, fun _ => rfl, rfl, rfl, rfl⟩
def one1 : MailD := { one14 with id := 1 }
theorem one1_len : one1.record.length = 73 := by decide +kernel
theorem name_i1 : nameD 105 1 = [105, 45, 48, 48, 48, 48, 48, 48, 48, 48, 49] := by
  rw [nameD_of (by decide) (by decide) (by decide), numD_digs (by decide)]; rfl
theorem ans_commit {B fb ib mb : Nat} {er id : Int} {d' : StoD} (h : CommitR ⟨newD B 100000, fb, ib, mb, 0, 0, [], [], false⟩ one14 er id d') :
    er = 0 ∧ id = 1 ∧ d'.whr = [(1, 105)] ∧ (fsReadD d'.fs (nameD 105 1)) = (0, one1.record) := by
  rcases h with ⟨h, _⟩ | ⟨_, _, h, _⟩ | ⟨_, _, _, e1, id1, d1, hn, ha⟩
  · rcases h with h | h
    · have : goodNew one14 = true := one14_good
      rw [this] at h; cases h
    · exact absurd rfl h
  · cases h
  · have hv0 : Vw (newD B 100000) (fun _ => none) 0 0 100000 := vw_new B _ (by decide)
    have hmo : moreB ⟨newD B 100000, fb, ib, mb, 0, 0, [], [], false⟩ = 16 := by show min ((0 : Int) + 16) 999999999 = 16; decide
    rcases hn with ⟨h, _⟩ | ⟨_, h, _⟩ | ⟨_, _, _, e2, d2, hm, h2⟩ | ⟨_, _, h, _⟩
    · cases h
    · exact absurd h (by show ¬ (0 : Int) = 999999999; decide)
    · obtain ⟨q1, q2, q3, q4⟩ := hm.vw0 hv0 (by decide) (by rw [hmo]; decide) rfl rfl
      rw [hmo] at q2
      have hw := hm.same.2.2.2.2.1
      rcases h2 with ⟨h3, _⟩ | ⟨_, h3, h4, h5⟩
      · exact absurd q1 h3
      · have h4 : id1 = 1 := h4
        subst h4
        subst h3
        rcases ha with ⟨h6, _⟩ | ⟨_, e3, fs3, ho, h6⟩
        · exact absurd rfl h6
        · have hfs : d1.fs = d2.fs := by rw [h5]
          have hen : encD ({ one14 with id := 1 } : MailD) = one1.record := by
            unfold encD; rw [if_pos one14_good1]; rfl
          rw [hfs, hen] at ho
          have hne : nameD 116 1 ≠ nameD 105 1 := fun e => by
            rw [nameD_of (by decide) (by decide) (by decide), nameD_of (by decide) (by decide) (by decide)] at e
            injection e with e _; cases e
          obtain ⟨r1, r2⟩ := q2.lay (rightD_nameD (by decide) (by decide) (by decide)) (rightD_nameD (by decide) (by decide) (by decide)) hne (by rw [updC_other _ _ (ids_ne_name (by decide) _ _)]) (by decide) (by rw [one1_len]; decide) ho
          subst r1
          rcases h6 with ⟨_, h7, h8, h9⟩ | ⟨h7, _⟩ | ⟨h7, _⟩
          · refine ⟨h7, h8, ?_, ?_⟩
            · rw [h9]
              show d1.whr.put 1 105 = _
              rw [h5]
              show d2.whr.put 1 105 = _
              rw [hw]; rfl
            · rw [h9]
              exact r2.read (rightD_nameD (by decide) (by decide) (by decide)) (updC_same _ _ _)
          · exact absurd rfl h7
          · cases h7
    · exact absurd h (by show ¬ (0 : Int) < 0; decide)
theorem ans_file {d : StoD} (hw : d.whr = [(1, 105)]) (hr : fsReadD d.fs (nameD 105 1) = (0, one1.record)) : d.whr.at 1 = 105 ∧ sfileD d 1 = some ⟨one1, [], one1.record.length⟩ := by
  have h1 : d.whr.at 1 = 105 := by rw [hw]; rfl
  refine ⟨h1, ?_⟩
  have h2 := fileD_full one1 one14_small one14_good1 [] (fun k hk => by cases hk) (by decide)
  have h3 : one1.record ++ bytesM [] = one1.record := List.append_nil _
  rw [h3] at h2
  unfold sfileD
  rw [h1, hr, if_pos (by decide), if_pos rfl]
  exact h2
theorem own_slice {w : World} {base : Nat} {e : TypeId} {sz : Nat} {v : Value} {n : Nat} {xs : List Value} (h : w.ownsRow base e sz v n xs) : ∃ a c, v = .slice a n c := own_form0 h
set_option maxHeartbeats 16000000 in
theorem answers14_calls (w : World) (hg : GOk w) (hmax : MaxOk w) :
    Calls Tryz.prog 11 #[] w fun e w' => e = .returned (.bool true) ∧ Below w.heap.size w w' := by
  have hnew := new_calls 100000 w
  have hroom : roomD 100000 = 100000 := by decide
  rw [hroom] at hnew
  have Hnew := Lib.hid hnew
  have Hg := Lib.hid (And.intro hg hmax)
  clear hnew hroom hg hmax
  go_enter Tryz.func11, Tryz.ntmps11
  go_wp2_with fail
  refine (Hnew.out).mono ?_; rintro e w1 ⟨rfl, hF1, hb1⟩
  have hop := open0_calls (w.heap.size + 2) _ _ w1 hF1 rfl rfl (Hg.out.1.below hb1)
  obtain ⟨f, hf⟩ : ∃ f, w.heap.size + 2 = f := ⟨_, rfl⟩
  rw [hf] at hop hF1
  rw [hf]
  have Hop := Lib.hid hop
  have H1 := Lib.hid (And.intro hF1 (And.intro hb1 hf))
  clear hop hF1 hb1 hf
  go_wp2_with fail
  refine (Hop.out).mono ?_; rintro e w2 ⟨s, d, rfl, hA2, ⟨ib, mb, rfl, hib, hmb⟩, hns, hb2⟩
  have hb2' := H1.out.2.1.trans (hb2.mono H1.out.2.1.size)
  have hO2 : StoOk w2 s ⟨newD w.heap.size 100000, f, ib, mb, 0, 0, [], [], false⟩ (newRho w.heap.size) := by
    refine ⟨hA2, ⟨by show (-1 : Int) ≤ -1; omega, by show (-1 : Int) ≤ _; omega, by show 0 ≤ 256; omega, by show (0 : Int) ≤ 100000; omega, by show (100000 : Int) ≤ _; omega⟩, Hg.out.1.below hb2', Hg.out.2.below hb2', fun k hk => ?_, by show (0 : Int) ≤ 0 ∧ (0 : Int) ≤ 999999999; omega, by show 0 ≤ 1000; omega⟩
    have h0 := Hg.out.1.size
    have h1 := H1.out.2.1.size
    rcases hk with e | e | e | e
    · have := newRho_has e; omega
    · omega
    · have : k = ib := e; omega
    · have : k = mb := e; omega
  have hown : ∀ k, stoOwn s ⟨newD w.heap.size 100000, f, ib, mb, 0, 0, [], [], false⟩ (newRho w.heap.size) k → w.heap.size ≤ k := fun k hk => by
    have h1 := H1.out.2.1.size
    rcases hk with e | e | e | e
    · exact (newRho_has e).1
    · omega
    · have : k = ib := e; omega
    · have : k = mb := e; omega
  have Hown := Lib.hid hown
  clear hown
  have hone := one14_calls w2
  have Hone := Lib.hid hone
  have H2 := Lib.hid (And.intro hO2 hb2')
  clear hone hO2 hb2' hA2 hib hmb hns hb2
  go_wp2_with fail
  refine (Hone.out).mono ?_; rintro e w3 ⟨vr, vb, rfl, hr3, hb3, hnr, hnb, hor, hob, hbl3⟩
  have hO3 := H2.out.1.below hbl3
  have hMA : MailArg w3 s ⟨newD w.heap.size 100000, f, ib, mb, 0, 0, [], [], false⟩ (newRho w.heap.size) one14 vr vb :=
    ⟨hr3, hb3, hnb, fun k e => ⟨(hor k e).2, fun g => by have := stoOwn_lt H2.out.1.at_ g; have := (hor k e).1; omega⟩, fun k e => ⟨(hob k e).2, fun g => by have := stoOwn_lt H2.out.1.at_ g; have := (hob k e).1; omega⟩, one14_small⟩
  have hcm := commit_calls s _ _ one14 vr vb w3 hO3 (by show 0 ≤ 800000; omega) (by show 0 ≤ 1000000; omega) hMA
  have Hcm := Lib.hid hcm
  have H3 := Lib.hid (And.intro hO3 (H2.out.2.trans (hbl3.mono H2.out.2.size)))
  clear hcm hMA hO3 hr3 hb3 hnr hnb hor hob hbl3
  generalize hmv : mailVal one14 vr vb = mv at Hcm ⊢
  clear hmv
  go_wp2_with fail
  refine (Hcm.out).mono ?_; rintro e w4 ⟨er, id, d, ρ, rfl, hout, hO4, hT4, hg4⟩
  obtain ⟨rfl, rfl, hwh, hrd⟩ := ans_commit hout
  obtain ⟨hat, hfl⟩ := ans_file hwh hrd
  have hb4 : Below w.heap.size w w4 := by
    have hk := hT4.keeps.below (B := w.heap.size) (fun i e => Hown.out i e) H3.out.2.size
    exact H3.out.2.trans hk
  have hfc := sfile_calls s d ρ w4 hO4.at_ 1 (by decide) hO4.g hO4.mx
  rw [hfl] at hfc
  have Hfc := Lib.hid hfc
  have H4 := Lib.hid (And.intro hO4 (And.intro hb4 hat))
  clear hfc hO4 hT4 hg4 hout hwh hrd hat hfl hb4
  go_wp2_with fail
  refine (Hfc.out).mono ?_; rintro e w5 ⟨ur, ub, um, rfl, o1, o2, o3, hb5⟩
  obtain ⟨u1, k1, rfl⟩ := own_slice o1
  obtain ⟨u2, k2, rfl⟩ := own_slice o2
  obtain ⟨u3, k3, rfl⟩ := own_slice o3
  have hO5 := H4.out.1.below hb5
  have hb5' := H4.out.2.1.trans (hb5.mono H4.out.2.1.size)
  obtain ⟨n1, hn1⟩ : ∃ n1, ((some (⟨one1, [], one1.record.length⟩ : FileD)).getD FileD.zero).mail.rcpts.length = n1 := ⟨_, rfl⟩
  obtain ⟨n2, hn2⟩ : ∃ n2, ((some (⟨one1, [], one1.record.length⟩ : FileD)).getD FileD.zero).mail.body.length = n2 := ⟨_, rfl⟩
  obtain ⟨n3, hn3⟩ : ∃ n3, ((some (⟨one1, [], one1.record.length⟩ : FileD)).getD FileD.zero).marks.length = n3 := ⟨_, rfl⟩
  have he : ∀ a b c, fileVal ((some (⟨one1, [], one1.record.length⟩ : FileD)).getD FileD.zero) a b c = .agg #[.int .i64 1, .int .i64 0, .int .i64 0, .string (strL []), a, b, c, .int .i64 (one1.record.length : Int)] := fun _ _ _ => rfl
  have hs : (some (⟨one1, [], one1.record.length⟩ : FileD)).isSome = true := rfl
  rw [he, hs, hn1, hn2, hn3]
  obtain ⟨gd, hgd⟩ : ∃ gd : Int, (one1.record.length : Int) = gd := ⟨_, rfl⟩
  obtain ⟨se, hse⟩ : ∃ se, strL [] = se := ⟨_, rfl⟩
  rw [hgd, hse]
  obtain ⟨W, hW⟩ : ∃ W, w5.alloc (.cells #[.int .i64 1, .int .i64 0, .int .i64 0, .string se, .slice u1 n1 k1, .slice u2 n2 k2, .slice u3 n3 k3, .int .i64 gd] 43) = W := ⟨_, rfl⟩
  have hbW : Below w5.heap.size w5 W := by rw [← hW]; exact (Below.refl _ _).alloc (Nat.le_refl _) _
  have hX : W.heap[w5.heap.size]? = some (.cells #[.int .i64 1, .int .i64 0, .int .i64 0, .string se, .slice u1 n1 k1, .slice u2 n2 k2, .slice u3 n3 k3, .int .i64 gd] 43 (0, 0)) := by rw [← hW]; exact heap_alloc_new w5 _
  have hOW := hO5.below hbW
  have hwh := where_calls s d ρ W hOW.at_ 1 (by decide)
  rw [H4.out.2.2] at hwh
  have hnm := fun w1 (hg1 : GOk w1) => name_calls 105 1 w1 (hg1.int _)
  have hst : strL (nameD 105 1) = ⟨#[105, 45, 48, 48, 48, 48, 48, 48, 48, 48, 49]⟩ := by rw [name_i1]; rfl
  rw [hst] at hnm
  have x0 := (cells8 hX).1.1
  have Hwh := Lib.hid hwh
  have Hnm := Lib.hid hnm
  have H5 := Lib.hid (And.intro hOW (hb5'.trans (hbW.mono hb5'.size)))
  clear hwh hnm hst hOW hX hbW hb5' hO5 hb5 o1 o2 o3 hn1 hn2 hn3 he hs hgd hse
  subst hW
  go_wp2_with fail
  refine (Hwh.out).mono ?_; rintro e w6 ⟨rfl, hb6⟩
  have hO6 := H5.out.1.below hb6
  have hb6' := H5.out.2.trans (hb6.mono H5.out.2.size)
  have Hnm6 := Lib.hid (Hnm.out w6 hO6.g)
  clear hO6 hb6 x0
  go_wp2_with fail
  refine (Hnm6.out).mono ?_; rintro e w7 ⟨rfl, hb7⟩
  have hb7' := hb6'.trans (hb7.mono hb6'.size)
  clear hb7 hb6'
  go_wp2
  go_ret
  exact ⟨rfl, hb7'⟩
end Go.Proofs.YtffnbkmigapmjaaGreatDoor

set_option linter.unusedSimpArgs false
set_option linter.unusedVariables false
set_option maxRecDepth 100000
namespace Go.Proofs.YtffnbkmigapmjaaGreatDoor
open Go.RowKit Go.Maps
def wantD (q : UInt8) (id : Int) (j : Nat) : Nm := if (allQ.take j).contains q = true ∧ 1 ≤ id ∧ id ≤ 999999999 then [q, 45] ++ numD id.toNat else []
theorem wantD_all (q : UInt8) (id : Int) : wantD q id 6 = nameD q id := rfl
theorem wantD_zero (q : UInt8) (id : Int) : wantD q id 0 = [] := by unfold wantD; rw [if_neg]; rintro ⟨h, _⟩; cases h
theorem take_succ_contains {l : List UInt8} {j : Nat} {k q : UInt8} (h : l[j]? = some k) : (l.take (j + 1)).contains q = ((l.take j).contains q || q == k) := by
  rw [List.take_add_one, h, Bool.eq_iff_iff]
  simp
theorem wantD_no {q k : UInt8} {id : Int} {j : Nat} (h : allQ[j]? = some k) (hc : q ≠ k ∨ ¬ (1 ≤ id ∧ id ≤ 999999999)) : wantD q id (j + 1) = wantD q id j := by
  unfold wantD
  rw [take_succ_contains h]
  rcases hc with hc | hc
  · rw [show (q == k) = false by simpa using hc, Bool.or_false]
  · rw [if_neg (fun e => hc e.2), if_neg (fun e => hc e.2)]
theorem wantD_yes {q k : UInt8} {id : Int} {j : Nat} (h : allQ[j]? = some k) (hc : q = k) (hi : 1 ≤ id ∧ id ≤ 999999999) : wantD q id (j + 1) = [q, 45] ++ numD id.toNat := by
  unfold wantD
  rw [take_succ_contains h, hc]
  rw [if_pos ⟨by simp, hi⟩]
set_option maxHeartbeats 16000000 in
theorem storeNames_calls (q : UInt8) (id : Int) (w : World) (hg : GOk w) (hmax : MaxOk w) :
    Calls Tryz.prog 3 #[.int .u8 q.toNat, .int .i64 id] w fun e w' => e = .returned (.bool true) ∧ Below w.heap.size w w' := by
  have hkc : (convert 22 22 (.slice (some ⟨w.heap.size, 0, none⟩) 6 6)).run Tryz.prog (w.alloc (.cells #[.int .u8 116, .int .u8 105, .int .u8 97, .int .u8 100, .int .u8 104, .int .u8 99] 5)) = .ok (.slice (some ⟨w.heap.size, 0, none⟩) 6 6) (w.alloc (.cells #[.int .u8 116, .int .u8 105, .int .u8 97, .int .u8 100, .int .u8 104, .int .u8 99] 5 (6, 7))) :=
    Lib.run_convert_bytes_const (P := Tryz.prog) w 22 5 #[.int .u8 116, .int .u8 105, .int .u8 97, .int .u8 100, .int .u8 104, .int .u8 99] 6 6 Tryz.underlying22 Tryz.underlying5
  obtain ⟨W, hW⟩ : ∃ W, w.alloc (.cells #[.int .u8 116, .int .u8 105, .int .u8 97, .int .u8 100, .int .u8 104, .int .u8 99] 5 (6, 7)) = W := ⟨_, rfl⟩
  have hbW : Below w.heap.size w W := by rw [← hW]; exact (Below.refl _ _).alloc (Nat.le_refl _) _
  have hh : W.heap[w.heap.size]? = some (.cells (allQ.map u8v).toArray 5 (6, 7)) := by rw [← hW]; exact heap_alloc_new w _
  have hWs : w.heap.size < W.heap.size := (Array.getElem?_eq_some_iff.1 hh).1
  have hans := fun w1 (hb : Below w.heap.size w w1) => answers14_calls w1 (hg.below hb) (hmax.below hb)
  have hname := fun w1 (hb : Below w.heap.size w w1) => name_calls q id w1 ((hg.below hb).int _)
  obtain ⟨qn, hqn⟩ : ∃ qn : Nat, q.toNat = qn := ⟨_, rfl⟩
  rw [hqn] at hname
  rw [hqn]
  rw [hW] at hkc
  have hst : strL (wantD q id 0) = ⟨#[]⟩ := by rw [wantD_zero]; rfl
  have Hst := Lib.hid hst
  have Hq := Lib.hid hqn
  have Hh := Lib.hid (And.intro hh hWs)
  have HbW := Lib.hid hbW
  have Hans := Lib.hid hans
  have Hname := Lib.hid hname
  clear hans hname hst hqn hh hWs hbW hg hmax
  subst hW
  go_enter Tryz.func3, Tryz.ntmps3
  go_wp2
  generalize hW : w.alloc (.cells #[.int .u8 116, .int .u8 105, .int .u8 97, .int .u8 100, .int .u8 104, .int .u8 99] 5 (6, 7)) = W at *
  clear hkc hW
  go_loopw [5, 7, 11] (fun v k i wr => ∃ j : Nat, j ≤ 6 ∧ i = .int .i64 j ∧ v = .string (strL (wantD q id j)) ∧ Below W.heap.size W wr) (fun _ _ i _ => 6 - (intOf i).toNat)
  case atStart => exact ⟨0, by omega, rfl, by rw [Hst.out], Below.refl _ _⟩
  case round =>
    obtain ⟨j, hj, rfl, rfl, hb_wr⟩ := hrel
    by_cases hlt : j < 6
    · obtain ⟨k, hk⟩ : ∃ k, allQ[j]? = some k := ⟨_, List.getElem?_eq_getElem hlt⟩
      have hcell : wr.cell? ⟨w.heap.size, j, none⟩ = some (.int .u8 k.toNat) := by
        rw [cell_of_row _ _ _ _ _ _ ((hb_wr.block _ Hh.out.2).trans Hh.out.1), List.getElem?_toArray, List.getElem?_map, hk]; rfl
      have hj0 : (0 : Int) ≤ (j : Int) := by omega
      have hj1 : (j : Int) < 6 := by omega
      by_cases hkq : k = q
      · by_cases hr : 1 ≤ id ∧ id ≤ 999999999
        · have hw := wantD_yes hk hkq.symm hr
          obtain ⟨n, rfl⟩ := Int.eq_ofNat_of_zero_le (show 0 ≤ id by omega)
          rw [Int.toNat_natCast] at hw
          have hdg := fun w1 => digits_calls n (by omega) w1
          have happ := strL_append [q, 45] (numD n)
          rw [← hw] at happ
          have hs1 : (strL [q, 45]).size = 2 := by rw [strL_size]; rfl
          have hs2 : (strL (numD n)).size = 9 := by rw [strL_size]; exact numD_length (by omega)
          obtain ⟨qs, hqs⟩ : ∃ qs, strL [q, 45] = qs := ⟨_, rfl⟩
          obtain ⟨ds, hds⟩ : ∃ ds, strL (numD n) = ds := ⟨_, rfl⟩
          rw [hqs, hds] at happ
          rw [hqs] at hs1
          rw [hds] at hs2 hdg
          have hi1 : ¬ (9223372036854775807 < qs.size + ds.size) := by omega
          have hkn : k.toNat = qn := by rw [hkq, Hq.out]
          rw [hkn] at hcell
          have r1 : 1 ≤ (n : Int) := hr.1
          have r2 : (n : Int) ≤ 999999999 := hr.2
          have Hdg := Lib.hid hdg
          have Happ := Lib.hid happ
          have Hqs := Lib.hid hqs
          obtain ⟨ws, hws⟩ : ∃ ws, strL (wantD q (n : Int) j) = ws := ⟨_, rfl⟩
          rw [hws]
          have HS : Hid ((fun w' => Hid (Below W.heap.size W w')) wr.drew) := Lib.hid (Lib.hid hb_wr.drew)
          clear hw hdg happ hs1 hs2 hqs hds hk hkq hr hkn hws
          go_upto_region 6 with fail
          refine wp_region_noPanic ?_
          refine wp_region_held_drew (S := (fun w' => Hid (Below W.heap.size W w'))) (by kernel_rfl) (by first | with_reducible exact HS.out | exact Lib.hid (by with_reducible assumption)) (fun hHeld => ?_)
          refine wpAnyH_take (i := 0) (oi := _) (v := ?_) (by simp only [List.getElem?_toArray, List.getElem?_cons_succ, List.getElem?_cons_zero]; rfl) (by kernel_rfl) (by kernel_rfl) (by kernel_rfl) (fun _ _ _ h => h) (Or.inl ⟨by rfl, ?_⟩) (by assumption) ?_
          rotate_left
          · intro w hSw; (try dsimp only at hSw); go_simp; (try with_reducible rfl)
          try simp only [Act.put, List.setIfInBounds_toArray, List.set_cons_zero, List.set_cons_succ]
          refine wpAnyH_take (i := 3) (oi := _) (v := ?_) (by simp only [List.getElem?_toArray, List.getElem?_cons_succ, List.getElem?_cons_zero]; rfl) (by kernel_rfl) (by kernel_rfl) (by kernel_rfl) (fun _ _ _ h => h) (Or.inl ⟨by rfl, ?_⟩) (by assumption) ?_
          rotate_left
          · intro w hSw; (try dsimp only at hSw); go_simp; (try with_reducible rfl)
          try simp only [Act.put, List.setIfInBounds_toArray, List.set_cons_zero, List.set_cons_succ]
          refine wpAnyH_ready (rs := [1, 4]) (by kernel_rfl) (by simp) ?_
          refine AllReadyH.cons (o := _) (by simp only [List.getElem?_toArray, List.getElem?_cons_succ, List.getElem?_cons_zero]; rfl) (fun K hK => ?_) (AllReadyH.cons (o := _) (by simp only [List.getElem?_toArray, List.getElem?_cons_succ, List.getElem?_cons_zero]; rfl) (fun K hK => ?_) (AllReadyH.nil))
          · skip
            refine step_buildB (q := q) rfl (by rfl) (by rw [Hq.out]; rfl) ?_; rintro g xa hrb_xa hd_xa; have hb_xa := hb_wr.drew.trans (hd_xa.mono hb_wr.drew.size)
            refine hK.out _ _ (by (try dsimp only); first | with_reducible exact HS.out | exact Lib.hid (by with_reducible assumption)) (fun hHeld => ?_)
            clear hK K
            try simp only [Act.put, List.setIfInBounds_toArray, List.set_cons_zero, List.set_cons_succ]
            refine wpAnyH_ready (rs := [2, 4]) (by kernel_rfl) (by simp) ?_
            refine AllReadyH.cons (o := _) (by simp only [List.getElem?_toArray, List.getElem?_cons_succ, List.getElem?_cons_zero]; rfl) (fun K hK => ?_) (AllReadyH.cons (o := _) (by simp only [List.getElem?_toArray, List.getElem?_cons_succ, List.getElem?_cons_zero]; rfl) (fun K hK => ?_) (AllReadyH.nil))
            · skip
              have hconv := run_strL hrb_xa; rw [Hqs.out] at hconv; go_simp
              refine hK.out _ _ (by (try dsimp only); first | with_reducible exact HS.out | exact Lib.hid (by with_reducible assumption)) (fun hHeld => ?_)
              clear hK K
              try simp only [Act.put, List.setIfInBounds_toArray, List.set_cons_zero, List.set_cons_succ]
              refine wpAnyH_ready (rs := [4]) (by kernel_rfl) (by simp) ?_
              refine AllReadyH.cons (o := _) (by simp only [List.getElem?_toArray, List.getElem?_cons_succ, List.getElem?_cons_zero]; rfl) (fun K hK => ?_) AllReadyH.nil
              go_simp
              go_at_call 10; refine (Hdg.out xa).mono ?_; rintro e xb ⟨rfl, hd_xb⟩; have hb_xb := hb_xa.trans (hd_xb.mono hb_xa.size); have hend := hb_xb
              refine hK.out _ _ (by (try dsimp only); first | with_reducible exact HS.out | exact Lib.hid (by with_reducible assumption)) (fun hHeld => ?_)
              clear hK K
              try simp only [Act.put, List.setIfInBounds_toArray, List.set_cons_zero, List.set_cons_succ]
              refine wpAnyH_take (i := 5) (oi := _) (v := ?_) (by simp only [List.getElem?_toArray, List.getElem?_cons_succ, List.getElem?_cons_zero]; rfl) (by kernel_rfl) (by kernel_rfl) (by kernel_rfl) (fun _ _ _ h => h) (Or.inl ⟨by rfl, ?_⟩) (by assumption) ?_
              rotate_left
              · intro w hSw; (try dsimp only at hSw); go_simp; (try with_reducible rfl)
              try simp only [Act.put, List.setIfInBounds_toArray, List.set_cons_zero, List.set_cons_succ]
              refine wpAnyH_take (i := 6) (oi := _) (v := ?_) (by simp only [List.getElem?_toArray, List.getElem?_cons_succ, List.getElem?_cons_zero]; rfl) (by kernel_rfl) (by kernel_rfl) (by kernel_rfl) (fun _ _ _ h => h) (Or.inl ⟨by rfl, ?_⟩) (by assumption) ?_
              rotate_left
              · intro w hSw; (try dsimp only at hSw); go_simp; (try with_reducible rfl)
              try simp only [Act.put, List.setIfInBounds_toArray, List.set_cons_zero, List.set_cons_succ]
              refine wpAnyH_done (by kernel_rfl) ?_ _
              refine NoPanic.normal ?_
              go_wp2
              go_roundw
              case rel => exact ⟨j + 1, by omega, by simp, by rw [Happ.out], hend⟩
              case measure => simp [intOf] <;> omega
            · go_simp
              go_at_call 10; refine (Hdg.out xa).mono ?_; rintro e xb ⟨rfl, hd_xb⟩; have hb_xb := hb_xa.trans (hd_xb.mono hb_xa.size); have hrb_xb := hrb_xa.below (Nat.le_refl _) hd_xb
              refine hK.out _ _ (by (try dsimp only); first | with_reducible exact HS.out | exact Lib.hid (by with_reducible assumption)) (fun hHeld => ?_)
              clear hK K
              try simp only [Act.put, List.setIfInBounds_toArray, List.set_cons_zero, List.set_cons_succ]
              refine wpAnyH_ready (rs := [2]) (by kernel_rfl) (by simp) ?_
              refine AllReadyH.cons (o := _) (by simp only [List.getElem?_toArray, List.getElem?_cons_succ, List.getElem?_cons_zero]; rfl) (fun K hK => ?_) AllReadyH.nil
              have hconv := run_strL hrb_xb; rw [Hqs.out] at hconv; go_simp; have hend := hb_xb
              refine hK.out _ _ (by (try dsimp only); first | with_reducible exact HS.out | exact Lib.hid (by with_reducible assumption)) (fun hHeld => ?_)
              clear hK K
              try simp only [Act.put, List.setIfInBounds_toArray, List.set_cons_zero, List.set_cons_succ]
              refine wpAnyH_take (i := 5) (oi := _) (v := ?_) (by simp only [List.getElem?_toArray, List.getElem?_cons_succ, List.getElem?_cons_zero]; rfl) (by kernel_rfl) (by kernel_rfl) (by kernel_rfl) (fun _ _ _ h => h) (Or.inl ⟨by rfl, ?_⟩) (by assumption) ?_
              rotate_left
              · intro w hSw; (try dsimp only at hSw); go_simp; (try with_reducible rfl)
              try simp only [Act.put, List.setIfInBounds_toArray, List.set_cons_zero, List.set_cons_succ]
              refine wpAnyH_take (i := 6) (oi := _) (v := ?_) (by simp only [List.getElem?_toArray, List.getElem?_cons_succ, List.getElem?_cons_zero]; rfl) (by kernel_rfl) (by kernel_rfl) (by kernel_rfl) (fun _ _ _ h => h) (Or.inl ⟨by rfl, ?_⟩) (by assumption) ?_
              rotate_left
              · intro w hSw; (try dsimp only at hSw); go_simp; (try with_reducible rfl)
              try simp only [Act.put, List.setIfInBounds_toArray, List.set_cons_zero, List.set_cons_succ]
              refine wpAnyH_done (by kernel_rfl) ?_ _
              refine NoPanic.normal ?_
              go_wp2
              go_roundw
              case rel => exact ⟨j + 1, by omega, by simp, by rw [Happ.out], hend⟩
              case measure => simp [intOf] <;> omega
          · go_simp
            go_at_call 10; refine (Hdg.out wr.drew).mono ?_; rintro e xa ⟨rfl, hd_xa⟩; have hb_xa := hb_wr.drew.trans (hd_xa.mono hb_wr.drew.size)
            refine hK.out _ _ (by (try dsimp only); first | with_reducible exact HS.out | exact Lib.hid (by with_reducible assumption)) (fun hHeld => ?_)
            clear hK K
            try simp only [Act.put, List.setIfInBounds_toArray, List.set_cons_zero, List.set_cons_succ]
            refine wpAnyH_ready (rs := [1]) (by kernel_rfl) (by simp) ?_
            refine AllReadyH.cons (o := _) (by simp only [List.getElem?_toArray, List.getElem?_cons_succ, List.getElem?_cons_zero]; rfl) (fun K hK => ?_) AllReadyH.nil
            refine step_buildB (q := q) rfl (by rfl) (by rw [Hq.out]; rfl) ?_; rintro g xb hrb_xb hd_xb; have hb_xb := hb_xa.trans (hd_xb.mono hb_xa.size)
            refine hK.out _ _ (by (try dsimp only); first | with_reducible exact HS.out | exact Lib.hid (by with_reducible assumption)) (fun hHeld => ?_)
            clear hK K
            try simp only [Act.put, List.setIfInBounds_toArray, List.set_cons_zero, List.set_cons_succ]
            refine wpAnyH_ready (rs := [2]) (by kernel_rfl) (by simp) ?_
            refine AllReadyH.cons (o := _) (by simp only [List.getElem?_toArray, List.getElem?_cons_succ, List.getElem?_cons_zero]; rfl) (fun K hK => ?_) AllReadyH.nil
            have hconv := run_strL hrb_xb; rw [Hqs.out] at hconv; go_simp; have hend := hb_xb
            refine hK.out _ _ (by (try dsimp only); first | with_reducible exact HS.out | exact Lib.hid (by with_reducible assumption)) (fun hHeld => ?_)
            clear hK K
            try simp only [Act.put, List.setIfInBounds_toArray, List.set_cons_zero, List.set_cons_succ]
            refine wpAnyH_take (i := 5) (oi := _) (v := ?_) (by simp only [List.getElem?_toArray, List.getElem?_cons_succ, List.getElem?_cons_zero]; rfl) (by kernel_rfl) (by kernel_rfl) (by kernel_rfl) (fun _ _ _ h => h) (Or.inl ⟨by rfl, ?_⟩) (by assumption) ?_
            rotate_left
            · intro w hSw; (try dsimp only at hSw); go_simp; (try with_reducible rfl)
            try simp only [Act.put, List.setIfInBounds_toArray, List.set_cons_zero, List.set_cons_succ]
            refine wpAnyH_take (i := 6) (oi := _) (v := ?_) (by simp only [List.getElem?_toArray, List.getElem?_cons_succ, List.getElem?_cons_zero]; rfl) (by kernel_rfl) (by kernel_rfl) (by kernel_rfl) (fun _ _ _ h => h) (Or.inl ⟨by rfl, ?_⟩) (by assumption) ?_
            rotate_left
            · intro w hSw; (try dsimp only at hSw); go_simp; (try with_reducible rfl)
            try simp only [Act.put, List.setIfInBounds_toArray, List.set_cons_zero, List.set_cons_succ]
            refine wpAnyH_done (by kernel_rfl) ?_ _
            refine NoPanic.normal ?_
            go_wp2
            go_roundw
            case rel => exact ⟨j + 1, by omega, by simp, by rw [Happ.out], hend⟩
            case measure => simp [intOf] <;> omega
        · have hw := wantD_no (q := q) (id := id) hk (.inr hr)
          have hkn : k.toNat = qn := by rw [hkq, Hq.out]
          rw [hkn] at hcell
          rw [← hw]
          clear hk hkq hkn hw
          by_cases h1 : 1 ≤ id
          · have h2 : ¬ (id ≤ 999999999) := fun e => hr ⟨h1, e⟩
            generalize hws : strL (wantD q id (j + 1)) = ws
            clear hr
            go_wp2
            go_roundw
            case rel => exact ⟨j + 1, by omega, by simp, by rw [← hws], hb_wr⟩
            case measure => simp [intOf] <;> omega
          · generalize hws : strL (wantD q id (j + 1)) = ws
            clear hr
            go_wp2
            go_roundw
            case rel => exact ⟨j + 1, by omega, by simp, by rw [← hws], hb_wr⟩
            case measure => simp [intOf] <;> omega
      · have hw := wantD_no (q := q) (id := id) hk (.inl (fun e => hkq e.symm))
        have hne : ((k.toNat : Int) == (qn : Int)) = false := by
          rw [beq_eq_false_iff_ne]; intro e; exact hkq (UInt8.toNat_inj.1 (by rw [Hq.out]; omega))
        rw [← hw]
        obtain ⟨kn, hkn⟩ : ∃ kn : Nat, k.toNat = kn := ⟨_, rfl⟩
        rw [hkn] at hcell hne
        generalize hws : strL (wantD q id (j + 1)) = ws
        clear hk hkq hw hkn
        go_wp2
        go_roundw
        case rel => exact ⟨j + 1, by omega, by simp, by rw [← hws], hb_wr⟩
        case measure => simp [intOf] <;> omega
    · have hje : j = 6 := by omega
      subst hje
      rw [wantD_all]
      have hbw := HbW.out.trans (hb_wr.mono HbW.out.size)
      have ha := Hans.out _ hbw
      have Ha := Lib.hid ha
      have Hbw := Lib.hid hbw
      obtain ⟨ns, hns⟩ : ∃ ns, strL (nameD q id) = ns := ⟨_, rfl⟩
      rw [hns] at Hname
      rw [hns]
      clear ha hbw hb_wr hns
      go_wp2_with fail
      refine (Ha.out).mono ?_; rintro e w2 ⟨rfl, hb2⟩
      have hb2' := Hbw.out.trans (hb2.mono Hbw.out.size)
      have Hn := Lib.hid (Hname.out _ hb2')
      have Hb2 := Lib.hid hb2'
      clear hb2 hb2'
      go_wp2_with fail
      refine (Hn.out).mono ?_; rintro e w3 ⟨rfl, hb3⟩
      have hb3' := Hb2.out.trans (hb3.mono Hb2.out.size)
      clear hb3
      go_wp2
      go_ret
      exact ⟨by simp, hb3'⟩
theorem storeNames_all (a0 a1 : Int) (w : World) (h0 : (Lit.int .u8 a0).wf = true) (hg : GOk w) (hmax : MaxOk w) :
    Calls Tryz.prog 3 #[.int .u8 a0, .int .i64 a1] w fun e w' => e = .returned (.bool true) ∧ Below w.heap.size w w' := by
  obtain ⟨l2, u2⟩ := bounds_u8 h0
  have e : Value.int .u8 a0 = .int .u8 ((UInt8.ofNat a0.toNat).toNat : Int) := by
    rw [UInt8.toNat_ofNat', Nat.mod_eq_of_lt (by omega)]
    congr 1; omega
  rw [e]
  exact storeNames_calls _ a1 w hg hmax
end Go.Proofs.YtffnbkmigapmjaaGreatDoor


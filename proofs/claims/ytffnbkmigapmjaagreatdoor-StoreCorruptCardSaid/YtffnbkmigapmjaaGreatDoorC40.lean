/-
  What opening a disk of one file comes to (plain).
  Opening a disk of one file: what the store is then (plain).
  The walks of store.at, Drop, Move.
-/
import Derived.Test.YtffnbkmigapmjaaGreatDoorC34
import Derived.Test.YtffnbkmigapmjaaGreatDoorC38
import Derived.Test.YtffnbkmigapmjaaGreatDoorC39
set_option linter.unusedSimpArgs false
set_option linter.unusedVariables false
set_option maxRecDepth 100000
namespace Go.Proofs.YtffnbkmigapmjaaGreatDoor
theorem bytesO_of {o : Option (List UInt8)} {n : Nat} {r : List UInt8} (h : numO o = (n, some r)) (hn : n ≤ r.length) : bytesO o = (r.take n, some (r.drop n)) := by
  unfold bytesO
  simp only [h]
  rw [if_pos hn]
theorem bytesO_inv {o : Option (List UInt8)} {r : List UInt8} (h : (bytesO o).2 = some r) : ∃ n rr, numO o = (n, some rr) ∧ n ≤ rr.length ∧ r = rr.drop n := by
  obtain ⟨⟨n, x⟩, hx⟩ : ∃ y, numO o = y := ⟨_, rfl⟩
  unfold bytesO at h
  simp only [hx] at h
  cases x with
  | none => cases h
  | some rr =>
    dsimp only at h
    by_cases hn : n ≤ rr.length
    · rw [if_pos hn] at h
      injection h with h
      exact ⟨n, rr, hx, hn, h.symm⟩
    · rw [if_neg hn] at h; cases h
theorem numO_inv {bs : List UInt8} {n : Nat} {r : List UInt8} (h : numO (some bs) = (n, some r)) : 8 ≤ bs.length ∧ ¬ (4611686018427387904 < beNat (bs.take 8)) ∧ n = beNat (bs.take 8) ∧ r = bs.drop 8 := by
  unfold numO at h
  dsimp only at h
  by_cases h1 : bs.length < 8
  · rw [if_pos h1] at h; cases h
  · rw [if_neg h1] at h
    by_cases h2 : 4611686018427387904 < beNat (bs.take 8)
    · rw [if_pos h2] at h; cases h
    · rw [if_neg h2] at h
      injection h with h3 h4
      injection h4 with h4
      exact ⟨by omega, h2, h3.symm, h4.symm⟩
theorem bytesO_take {bs r : List UInt8} (h : (bytesO (some bs)).2 = some r) (k : Nat) (hk : 8 + (bytesO (some bs)).1.length ≤ k) :
    bytesO (some (bs.take k)) = ((bytesO (some bs)).1, some (r.take (k - 8 - (bytesO (some bs)).1.length))) := by
  obtain ⟨n, rr, hx, hn, rfl⟩ := bytesO_inv h
  have hb := bytesO_of hx hn
  obtain ⟨h8, hbig, hnn, rfl⟩ := numO_inv hx
  rw [hb] at hk ⊢
  have hl : ((bs.drop 8).take n).length = n := by rw [List.length_take]; omega
  dsimp only at hk ⊢
  rw [hl] at hk ⊢
  have e1 : (bs.take k).take 8 = bs.take 8 := by rw [List.take_take, Nat.min_eq_left (by omega)]
  have e2 : (bs.take k).drop 8 = (bs.drop 8).take (k - 8) := List.drop_take ..
  have hx2 : numO (some (bs.take k)) = (n, some ((bs.drop 8).take (k - 8))) := by
    unfold numO
    dsimp only
    rw [if_neg (by rw [List.length_take]; omega), e1, if_neg hbig, e2, hnn]
  rw [bytesO_of hx2 (by rw [List.length_take]; omega), List.take_take, Nat.min_eq_left (by omega), List.drop_take]
theorem decode_take {bs : List UInt8} {m : MailD} {n : Nat} (h : decodeMail bs = some (m, n)) {k : Nat} (hk : n ≤ k) : decodeMail (bs.take k) = some (m, n) := by
  unfold decodeMail at h ⊢
  cases hb : (bytesO (some bs)).2 with
  | none => rw [hb] at h; cases h
  | some rest =>
    rw [hb] at h
    dsimp only at h
    by_cases h1 : rest.length < 4
    · rw [if_pos h1] at h; cases h
    · rw [if_neg h1] at h
      by_cases h2 : rest.take 4 = be4 (PbCrc.sum (bytesO (some bs)).1)
      · rw [if_pos h2] at h
        have hn : n = (bytesO (some bs)).1.length + 12 := by
          obtain ⟨x, _, hx⟩ := Option.map_eq_some_iff.1 h
          cases hx; rfl
        rw [bytesO_take hb k (by omega)]
        dsimp only
        have e1 : ¬ ((rest.take (k - 8 - (bytesO (some bs)).1.length)).length < 4) := by rw [List.length_take]; omega
        have e2 : (rest.take (k - 8 - (bytesO (some bs)).1.length)).take 4 = rest.take 4 := by rw [List.take_take, Nat.min_eq_left (by omega)]
        rw [if_neg e1, e2, if_pos h2]
        exact h
      · rw [if_neg h2] at h; cases h
theorem file_take {bs : List UInt8} {f : FileD} (h : fileD bs = some f) : ∃ g, fileD (bs.take f.good) = some g ∧ g.mail = f.mail := by
  unfold fileD at h ⊢
  obtain ⟨⟨m, n⟩, hd, hf⟩ := Option.map_eq_some_iff.1 h
  have hg : n ≤ f.good := by rw [← hf]; exact Nat.le_add_right _ _
  rw [decode_take hd hg]
  exact ⟨_, rfl, by rw [← hf]⟩
section
variable {α : Type} {S : α → StoD → Int → StoD → Prop} {d d' : StoD} {er : Int} {x : α}
theorem outL_nil (h : OutL S [] d er d') : er = 0 ∧ d' = d := by
  rcases h with ⟨h0, h1⟩ | ⟨_, j, y, dj, h1, _⟩
  · refine ⟨h0, ?_⟩
    generalize hl : ([] : List α) = l at h1
    cases h1 with
    | nil => rfl
    | snoc _ _ => exact absurd hl.symm (by simp)
  · cases h1
theorem runL_one (h : RunL S d [x] d') : S x d 0 d' := by
  generalize hl : [x] = l at h
  cases h with
  | nil => cases hl
  | @snoc pre y dj _ h1 h2 =>
    have hp : pre = [] ∧ y = x := by
      have h3 : pre ++ [y] = [] ++ [x] := hl.symm
      have := List.append_inj' h3 rfl
      exact ⟨this.1, by simpa using this.2⟩
    obtain ⟨rfl, rfl⟩ := hp
    have : dj = d := (outL_nil (S := S) (er := 0) (.inl ⟨rfl, h1⟩)).2
    rw [← this]; exact h2
theorem outL_one (h : OutL S [x] d er d') : S x d er d' := by
  rcases h with ⟨rfl, h1⟩ | ⟨_, j, y, dj, h1, h2, h3⟩
  · exact runL_one h1
  · match j, h1, h2 with
    | 0, h1, h2 =>
      cases h1
      have : dj = d := (outL_nil (S := S) (er := 0) (.inl ⟨rfl, h2⟩)).2
      rw [← this]; exact h3
    | j + 1, h1, _ => cases h1
end
section
variable {fs : FsD} {C : Cont} {N U : Nat} {R : Int}
theorem sorted_one {nm : Nm} {b : List UInt8} (h : Vw fs C 1 U R) (hC : C nm = some b) {ss : List Nm} (hs : sortedNm fs ss) : ss = [nm] := by
  have hp := sortedNm.perm hs
  have hl := hp.length_eq
  rw [List.length_map, h.n] at hl
  obtain ⟨x, hx⟩ := List.length_eq_one_iff.1 hl
  obtain ⟨k, c, hk, _, _⟩ := h.look_some hC
  have hm : nm ∈ ss := hp.mem_iff.2 (List.mem_map.2 ⟨(nm, k), look_mem hk, rfl⟩)
  rw [hx] at hm ⊢
  rw [List.mem_singleton.1 hm]
theorem numL_one {nm : Nm} {q : UInt8} {id : Int} (h : StoOf nm q id) : numL [nm] = [] := by
  refine List.eq_nil_iff_forall_not_mem.2 (fun p hp => ?_)
  obtain ⟨h1, h2⟩ := numL_mem hp
  have h3 := List.mem_singleton.1 h1
  have h4 := h.len
  have h5 := h2.2.2
  rw [h3] at h5
  rw [h5, idsNameD_of ⟨h2.1, h2.2.1⟩, List.length_append, numD_length (by have := h2.2.1; omega)] at h4
  cases h4
theorem Vw.renS (h : Vw fs C N U R) {a b : Nm} {z : List UInt8} (ha : rightD a = true) (hb : rightD b = true) (hab : a ≠ b) (hz : C a = some z) {er : Int} {fs' : FsD} (ho : Outcome (Go.Proofs.YtffnbkmigapmjaaGreatDoor.renS a b) 2 fs er fs') :
    er = 0 ∧ Vw fs' (updC (updC C b (some z)) a none) (if (C b).isSome then N - 1 else N) (U - ((C b).getD []).length) R := by
  let V : Nat → FsD → Prop := fun i x => match i with
    | 0 => Vw x C N U R
    | _ => Vw x (updC (updC C b (some z)) a none) (if (C b).isSome then N - 1 else N) (U - ((C b).getD []).length) R
  exact run_good (V := V) (n := 2) (d := fs) (S := Go.Proofs.YtffnbkmigapmjaaGreatDoor.renS a b) h (by
    intro i x er y hi hV hS
    match i, hi, hV, hS with
    | 0, _, hV, ⟨v, lv, he, hy⟩ =>
      have hV : Vw x C N U R := hV
      obtain ⟨q1, q2⟩ := hV.rename ha hb hab hz v lv
      subst he; subst hy
      exact ⟨q1, q2⟩
    | 1, _, hV, ⟨ms, he, hy⟩ =>
      have hV : Vw x (updC (updC C b (some z)) a none) (if (C b).isSome then N - 1 else N) (U - ((C b).getD []).length) R := hV
      obtain ⟨q1, q2⟩ := hV.dirSync ms
      subst he; subst hy
      exact ⟨q1, q2⟩) er fs' ho
end
theorem at_one (id p : Int) (q : UInt8) : Wh.at [(id, q)] p = if id = p then q else 0 := by
  unfold Wh.at Wh.look
  rw [List.find?_cons]
  by_cases h : id = p
  · rw [show ((id, q).1 == p) = true by simpa using h, if_pos h]; rfl
  · rw [show ((id, q).1 == p) = false by simpa using h, if_neg h]; rfl
theorem put_one (id : Int) (q r : UInt8) : Wh.put [(id, q)] id r = [(id, r)] := by
  unfold Wh.put Wh.del
  rw [List.filter_cons, show (!((id, q).1 == id)) = false by simp, if_neg (by simp)]; rfl
theorem listD_one (id : Int) (q r : UInt8) : listD [(id, q)] r = if q = r then [id] else [] := by
  unfold listD
  rw [List.filter_cons]
  by_cases h : q = r
  · rw [show ((id, q).2 == r) = true by simpa using h, if_pos rfl, if_pos h]; simp
  · rw [show ((id, q).2 == r) = false by simpa using h, if_neg (by simp), if_neg h]; simp
theorem nameD_ne {q r : UInt8} {id : Int} (hq : allQ.contains q = true) (hr : allQ.contains r = true) (h1 : 1 ≤ id) (h2 : id ≤ 999999999) (h : q ≠ r) : nameD q id ≠ nameD r id := fun e => by
  rw [nameD_of hq h1 h2, nameD_of hr h1 h2] at e
  injection e with e _
  exact h e
end Go.Proofs.YtffnbkmigapmjaaGreatDoor

set_option linter.unusedSimpArgs false
set_option linter.unusedVariables false
set_option maxRecDepth 100000
namespace Go.Proofs.YtffnbkmigapmjaaGreatDoor
theorem keep_all {q : UInt8} (h : keepQ.contains q = true) : allQ.contains q = true ∧ q ≠ 116 ∧ q ≠ 99 ∧ q ≠ 0 := by
  have hm : q ∈ keepQ := by simpa using h
  have hall : (keepQ.all fun q => allQ.contains q && (q != 116) && (q != 99) && (q != 0)) = true := by decide
  have := List.all_eq_true.1 hall q hm
  simp only [Bool.and_eq_true, bne_iff_ne] at this
  exact ⟨this.1.1.1, this.1.1.2, this.1.2, this.2⟩
theorem tmp_skip {nm : Nm} {q : UInt8} {id er : Int} {d d' : StoD} (hn : StoOf nm q id) (hq : q ≠ 116) (h : TmpS nm d er d') : er = 0 ∧ d' = d := by
  rcases h with ⟨_, h1, h2⟩ | ⟨⟨m, hm⟩, _⟩
  · exact ⟨h1, h2⟩
  · exact absurd (StoOf.inj hn hm).1 hq
theorem recS_inv {nm : Nm} {q : UInt8} {id er : Int} {d d' : StoD} (hn : StoOf nm q id) (h : RecS nm d er d') :
    (keepQ.contains q = false ∧ er = 0 ∧ d' = { d with whr := d.whr.put id q }) ∨ (keepQ.contains q = true ∧ MendR { d with whr := d.whr.put id q } q id er d') := by
  rcases h with ⟨h0, _⟩ | ⟨q', m, hm, h⟩
  · exact absurd hn (h0 q id)
  · obtain ⟨rfl, rfl⟩ := StoOf.inj hn hm
    exact h
theorem par_nil {d : StoD} {id : Int} {q : UInt8} (hw : d.whr = [(id, q)]) (hq : q = 99 ∨ q = 104) : parL d = [] := by
  unfold parL
  rw [hw]
  simp only [List.flatMap_cons, List.flatMap_nil, listD_one]
  rcases hq with rfl | rfl <;> simp
theorem par_one {d : StoD} {id er : Int} {q : UInt8} {d' : StoD} (hid : 1 ≤ id) (hw : d.whr = [(id, q)]) (hk : keepQ.contains q = true) (hp : ((sfileD d id).getD FileD.zero).mail.parent ≠ id) (h : OutL ParS (parL d) d er d') : er = 0 ∧ d' = d := by
  have hl : parL d = [] ∨ parL d = [id] := by
    unfold parL
    rw [hw]
    simp only [List.flatMap_cons, List.flatMap_nil, listD_one, List.append_nil]
    have hm : q ∈ keepQ := by simpa using hk
    have : q = 105 ∨ q = 97 ∨ q = 100 ∨ q = 104 := by simpa [keepQ] using hm
    rcases this with rfl | rfl | rfl | rfl
    · right; simp
    · right; simp
    · right; simp
    · left; simp
  rcases hl with hl | hl
  · rw [hl] at h; exact outL_nil h
  · rw [hl] at h
    rcases outL_one h with ⟨_, h1, h2⟩ | ⟨_, h1, _⟩
    · exact ⟨h1, h2⟩
    · rw [hw, at_one, if_neg (fun e => hp e.symm)] at h1
      exact absurd h1 (by decide)
theorem cor_open {fs : FsD} {U : Nat} {f ib mb : Nat} {ss : List Nm} {q : UInt8} {id er : Int} {b : List UInt8} {d : StoD} {C : Cont} (hk : keepQ.contains q = true) (hid : 1 ≤ id ∧ id ≤ 999999999)
    (hv : Vw fs C 1 U 1048576) (hC : C (nameD q id) = some b) (hC0 : ∀ n, n ≠ nameD q id → C n = none) (hU : U = b.length) (hb : b.length ≤ 500) (hs : sortedNm fs ss) (h : RecoverR (openD fs f ib mb ss) er d) :
    ((∃ g, fileD b = some g ∧ g.mail.id = id) → er = 0 ∧ d.whr = [(id, q)]) ∧
    ((∀ g, fileD b = some g → g.mail.id ≠ id) → er = 0 ∧ d.whr = [(id, 99)] ∧ d.down = false ∧ ∃ C1 U1, Vw d.fs C1 1 U1 1048576 ∧ C1 (nameD 99 id) = some b) := by
  obtain ⟨hqa, hq1, hq2, hq3⟩ := keep_all hk
  have hn : StoOf (nameD q id) q id := ⟨hqa, hid.1, hid.2, rfl⟩
  have hrn : rightD (nameD q id) = true := rightD_nameD hqa hid.1 hid.2
  have hss := sorted_one hv hC hs
  subst hss
  have hod : openD fs f ib mb [nameD q id] = ⟨fs, f, ib, mb, 0, 0, [], [], false⟩ := by unfold openD; rw [numL_one hn]; rfl
  rw [hod] at h
  obtain ⟨ss1, e1, d1, h1, h2, h3⟩ := h
  have := sorted_one hv hC h1
  subst this
  obtain ⟨rfl, rfl⟩ := tmp_skip hn hq1 (outL_one h2)
  rcases h3 with ⟨h3, _⟩ | ⟨_, ss2, e2, d2, h4, h5, h6⟩
  · exact absurd rfl h3
  · have := sorted_one hv hC h4
    subst this
    have hrd : fsReadD fs (nameD q id) = (0, b) := hv.read hrn hC
    rcases recS_inv hn (outL_one h5) with ⟨h7, _⟩ | ⟨_, hm⟩
    · rw [hk] at h7; cases h7
    · have hput : Wh.put [] id q = [(id, q)] := rfl
      dsimp only at hm
      rw [hput] at hm
      unfold MendR at hm
      dsimp only at hm
      rw [hrd] at hm
      dsimp only at hm
      rcases hm with ⟨h7, _⟩ | ⟨_, ⟨hbad, fs2, ho, hd2⟩ | ⟨g, hg, hgi, hm⟩⟩
      · exact absurd rfl h7
      · obtain ⟨r1, r2⟩ := hv.renS hrn (rightD_nameD (by decide) hid.1 hid.2) (nameD_ne hqa (by decide) hid.1 hid.2 hq2) hC ho
        subst r1
        rcases h6 with ⟨h6, _⟩ | ⟨_, h6⟩
        · exact absurd rfl h6
        · have hw2 : d2.whr = [(id, 99)] := by rw [hd2]; exact put_one _ _ _
          rw [par_nil hw2 (.inl rfl)] at h6
          obtain ⟨r3, r4⟩ := outL_nil h6
          refine ⟨fun ⟨g, hg, hgi⟩ => absurd hgi (hbad g hg), fun _ => ⟨r3, by rw [r4]; exact hw2, by rw [r4, hd2]; rfl, ?_⟩⟩
          have hc0 : C (nameD 99 id) = none := hC0 _ (fun e => nameD_ne hqa (by decide) hid.1 hid.2 hq2 e.symm)
          rw [hc0] at r2
          refine ⟨_, _, by rw [r4, hd2]; exact r2, ?_⟩
          rw [updC_other _ _ (nameD_ne hqa (by decide) hid.1 hid.2 hq2), updC_same]
      · have hpar : ∀ d2 : StoD, d2.whr = [(id, q)] → (∃ g', sfileD d2 id = some g' ∧ g'.mail = g.mail) → ((sfileD d2 id).getD FileD.zero).mail.parent ≠ id := by
          rintro d2 _ ⟨g', h8, h9⟩
          rw [h8]
          show g'.mail.parent ≠ id
          have h10 := (good_iff _).1 (file_mail_good hg)
          rw [h9]; omega
        have hsf : ∀ (d2 : StoD) (c : List UInt8) (g' : FileD), d2.whr = [(id, q)] → fsReadD d2.fs (nameD q id) = (0, c) → fileD c = some g' → sfileD d2 id = some g' := by
          intro d2 c g' h8 h9 h10
          unfold sfileD
          rw [h8, at_one, if_pos rfl, if_pos hk, h9, if_pos rfl]; exact h10
        have hend : e2 = 0 ∧ d2.whr = [(id, q)] ∧ (∃ g', sfileD d2 id = some g' ∧ g'.mail = g.mail) := by
          rcases hm with ⟨hlt, fs2, ho, hd2⟩ | ⟨hge, he2, hd2⟩
          · have hne : nameD 116 id ≠ nameD q id := nameD_ne (by decide) hqa hid.1 hid.2 (fun e => hq1 e.symm)
            obtain ⟨r1, r2⟩ := hv.lay (rightD_nameD (by decide) hid.1 hid.2) hrn hne (hC0 _ hne) (by decide) (by rw [List.length_take, hU]; omega) ho
            refine ⟨r1, by rw [hd2], ?_⟩
            obtain ⟨g', h8, h9⟩ := file_take hg
            exact ⟨g', hsf d2 _ g' (by rw [hd2]) (by rw [hd2]; exact r2.read hrn (updC_same _ _ _)) h8, h9⟩
          · exact ⟨he2, by rw [hd2], g, hsf d2 b g (by rw [hd2]) (by rw [hd2]; exact hrd) hg, rfl⟩
        obtain ⟨r1, r2, r3⟩ := hend
        subst r1
        refine ⟨fun _ => ?_, fun hbad => absurd hgi (hbad g hg)⟩
        rcases h6 with ⟨h6, _⟩ | ⟨_, h6⟩
        · exact absurd rfl h6
        · obtain ⟨r4, r5⟩ := par_one hid.1 r2 hk (hpar d2 r2 r3) h6
          exact ⟨r4, by rw [r5]; exact r2⟩
theorem cor_again {fs : FsD} {U : Nat} {f ib mb : Nat} {ss : List Nm} {id er : Int} {b : List UInt8} {d : StoD} {C : Cont} (hid : 1 ≤ id ∧ id ≤ 999999999)
    (hv : Vw fs C 1 U 1048576) (hC : C (nameD 99 id) = some b) (hs : sortedNm fs ss) (h : RecoverR (openD fs f ib mb ss) er d) : er = 0 ∧ d.whr = [(id, 99)] ∧ d.fs = fs := by
  have hn : StoOf (nameD 99 id) 99 id := ⟨by decide, hid.1, hid.2, rfl⟩
  have hss := sorted_one hv hC hs
  subst hss
  have hod : openD fs f ib mb [nameD 99 id] = ⟨fs, f, ib, mb, 0, 0, [], [], false⟩ := by unfold openD; rw [numL_one hn]; rfl
  rw [hod] at h
  obtain ⟨ss1, e1, d1, h1, h2, h3⟩ := h
  have := sorted_one hv hC h1
  subst this
  obtain ⟨rfl, rfl⟩ := tmp_skip hn (by decide) (outL_one h2)
  rcases h3 with ⟨h3, _⟩ | ⟨_, ss2, e2, d2, h4, h5, h6⟩
  · exact absurd rfl h3
  · have := sorted_one hv hC h4
    subst this
    rcases recS_inv hn (outL_one h5) with ⟨_, rfl, hd2⟩ | ⟨h7, _⟩
    · rcases h6 with ⟨h6, _⟩ | ⟨_, h6⟩
      · exact absurd rfl h6
      · have hw2 : d2.whr = [(id, 99)] := by rw [hd2]; rfl
        rw [par_nil hw2 (.inl rfl)] at h6
        obtain ⟨r3, r4⟩ := outL_nil h6
        exact ⟨r3, by rw [r4]; exact hw2, by rw [r4, hd2]⟩
    · exact absurd h7 (by decide)
end Go.Proofs.YtffnbkmigapmjaaGreatDoor

set_option linter.unusedSimpArgs false
set_option linter.unusedVariables false
set_option maxRecDepth 100000
namespace Go.Proofs.YtffnbkmigapmjaaGreatDoor
open Go.RowKit Go.Maps
def atD (d : StoD) (id : Int) : UInt8 × Int := if d.down = true then (0, 2) else if keepQ.contains (d.whr.at id) = true then (d.whr.at id, 0) else (0, 4)
set_option maxHeartbeats 8000000 in
theorem at_calls (s : Nat) (d : StoD) (ρ : Rho) (id : Int) (w : World) (h : StoOk w s d ρ) (hid : -9223372036854775808 ≤ id ∧ id ≤ 9223372036854775807) :
    Calls Tryz.prog 60 #[.pointer (some ⟨s, 0, none⟩), .int .i64 id] w fun e w' => e = .returned (.tuple #[.int .u8 ((atD d id).1.toNat : Int), .int .i64 (atD d id).2]) ∧ Below w.heap.size w w' := by
  have hrd := sready_calls s d ρ w h.at_
  have hwh := fun w1 (hb : Below w.heap.size w w1) => where_calls s d ρ w1 (h.below hb).at_ id hid
  obtain ⟨q, hq⟩ : ∃ q, d.whr.at id = q := ⟨_, rfl⟩
  obtain ⟨dn, hdn⟩ : ∃ dn, d.down = dn := ⟨_, rfl⟩
  have Hat : Hid (atD d id = if dn = true then (0, 2) else if keepQ.contains q = true then (q, 0) else (0, 4)) := Lib.hid (by unfold atD; rw [hq, hdn])
  have hin := in_keep q
  obtain ⟨bq, hbq⟩ : ∃ bq, keepQ.contains q = bq := ⟨_, rfl⟩
  rw [hbq] at hin Hat
  rw [hq] at hwh
  rw [hdn] at hrd
  have Hrd := Lib.hid hrd
  have Hwh := Lib.hid hwh
  have Hin := Lib.hid hin
  clear hrd hwh hin h hid hq hdn hbq
  cases dn with
  | true =>
    have Ha : Hid (atD d id = (0, 2)) := Lib.hid (by rw [Hat.out]; rfl)
    clear Hat
    go_enter Tryz.func60, Tryz.ntmps60
    go_wp2_with fail
    refine (Hrd.out).mono ?_; rintro e w1 ⟨rfl, hb1⟩
    go_wp2
    go_ret2
    rw [Ha.out]
    exact ⟨rfl, hb1⟩
  | false =>
    cases bq with
    | true =>
      have Ha : Hid (atD d id = (q, 0)) := Lib.hid (by rw [Hat.out]; rfl)
      obtain ⟨qn, hqn⟩ : ∃ qn : Nat, q.toNat = qn := ⟨_, rfl⟩
      rw [hqn] at Hwh Hin
      have Hqn := Lib.hid hqn
      clear Hat hqn
      go_enter Tryz.func60, Tryz.ntmps60
      go_wp2_with fail
      refine (Hrd.out).mono ?_; rintro e w1 ⟨rfl, hb1⟩
      have Hb1 := Lib.hid hb1
      clear hb1
      go_wp2_with fail
      refine (Hwh.out w1 Hb1.out).mono ?_; rintro e w2 ⟨rfl, hb2⟩
      have hb2' := Hb1.out.trans (hb2.mono Hb1.out.size)
      clear hb2
      go_wp2_with fail
      refine (Hin.out w2).mono ?_; rintro e w3 ⟨rfl, hw3⟩; have hw3 := hw3.symm; subst hw3
      go_wp2
      go_ret2
      rw [Ha.out, Hqn.out]
      exact ⟨rfl, hb2'⟩
    | false =>
      have Ha : Hid (atD d id = (0, 4)) := Lib.hid (by rw [Hat.out]; rfl)
      obtain ⟨qn, hqn⟩ : ∃ qn : Nat, q.toNat = qn := ⟨_, rfl⟩
      rw [hqn] at Hwh Hin
      clear Hat hqn
      go_enter Tryz.func60, Tryz.ntmps60
      go_wp2_with fail
      refine (Hrd.out).mono ?_; rintro e w1 ⟨rfl, hb1⟩
      have Hb1 := Lib.hid hb1
      clear hb1
      go_wp2_with fail
      refine (Hwh.out w1 Hb1.out).mono ?_; rintro e w2 ⟨rfl, hb2⟩
      have hb2' := Hb1.out.trans (hb2.mono Hb1.out.size)
      clear hb2
      go_wp2_with fail
      refine (Hin.out w2).mono ?_; rintro e w3 ⟨rfl, hw3⟩; have hw3 := hw3.symm; subst hw3
      go_wp2
      go_ret2
      rw [Ha.out]
      exact ⟨rfl, hb2'⟩
def DropR (d : StoD) (id er : Int) (d' : StoD) : Prop :=
  ((atD d id).2 ≠ 0 ∧ er = (atD d id).2 ∧ d' = d) ∨
  ((atD d id).2 = 0 ∧ ∃ fs2, Outcome (unlS (nameD (atD d id).1 id)) 2 d.fs er fs2 ∧ ((er ≠ 0 ∧ d' = { d with fs := fs2, down := d.down || decide (er = 2) }) ∨ (er = 0 ∧ d' = { d with fs := fs2, whr := d.whr.del id })))
structure OpDone (R : Int → StoD → Prop) (w : World) (s : Nat) (d : StoD) (ρ : Rho) (e : Ending) (w' : World) (er : Int) (d' : StoD) (ρ' : Rho) : Prop where
  ret : e = .returned (.int .i64 er)
  out : R er d'
  at_ : StoOk w' s d' ρ'
  step : StoStep w s d ρ w' d' ρ'
  go : FsGo d.fs d'.fs 9
set_option maxHeartbeats 16000000 in
theorem drop_calls (s : Nat) (d : StoD) (ρ : Rho) (id : Int) (w : World) (h : StoOk w s d ρ) (hll : d.fs.loose.length ≤ 800000) (hid : -9223372036854775808 ≤ id ∧ id ≤ 9223372036854775807) :
    Calls Tryz.prog 22 #[.pointer (some ⟨s, 0, none⟩), .int .i64 id] w fun e w' => ∃ er d' ρ', OpDone (DropR d id) w s d ρ e w' er d' ρ' := by
  have hat := at_calls s d ρ id w h hid
  have hul := fun w1 (hb : Below w.heap.size w w1) => sunlink_calls s d ρ (atD d id).1 id w1 (h.below hb) (by omega)
  have HR : Hid (∀ er d', DropR d id er d' ↔ (((atD d id).2 ≠ 0 ∧ er = (atD d id).2 ∧ d' = d) ∨ ((atD d id).2 = 0 ∧ ∃ fs2, Outcome (unlS (nameD (atD d id).1 id)) 2 d.fs er fs2 ∧ ((er ≠ 0 ∧ d' = { d with fs := fs2, down := d.down || decide (er = 2) }) ∨ (er = 0 ∧ d' = { d with fs := fs2, whr := d.whr.del id }))))) := Lib.hid (fun _ _ => Iff.rfl)
  obtain ⟨⟨q, ae⟩, hqa⟩ : ∃ r, atD d id = r := ⟨_, rfl⟩
  rw [hqa] at hat hul HR
  obtain ⟨qn, hqn⟩ : ∃ qn : Nat, q.toNat = qn := ⟨_, rfl⟩
  dsimp only at hat hul HR
  rw [hqn] at hat hul
  have Hat := Lib.hid hat
  have Hul := Lib.hid hul
  have H := Lib.hid (And.intro h hid)
  clear hat hul h hid hqa hqn hll
  by_cases h0 : ae = 0
  · subst h0
    go_enter Tryz.func22, Tryz.ntmps22
    go_wp2_with fail
    refine (Hat.out).mono ?_; rintro e w1 ⟨rfl, hb1⟩
    have Hb1 := Lib.hid hb1
    clear hb1
    go_wp2_with fail
    refine (Hul.out w1 Hb1.out).mono ?_; rintro e w2 ⟨er, fs2, ρ2, rfl, ho, hO2, hT2, hg2⟩
    have H2 := Lib.hid (And.intro ho (And.intro hO2 (And.intro ((StoStep.below (s := s) (d := d) (ρ := ρ) Hb1.out).trans hT2) hg2)))
    clear ho hO2 hT2 hg2
    by_cases h1 : er = 0
    · subst h1
      have hdn : ({ d with fs := fs2, down := d.down || decide ((0 : Int) = 2) } : StoD) = { d with fs := fs2 } := by cases hx : d.down <;> simp [hx]
      have H2' : Hid (StoOk w2 s { d with fs := fs2 } ρ2 ∧ StoStep w s d ρ w2 { d with fs := fs2 } ρ2) := Lib.hid (by
        obtain ⟨_, q2, q3, _⟩ := H2.out
        rw [hdn] at q2 q3
        exact ⟨q2, q3⟩)
      have c2 := (cells4 H2'.out.1.at_.hd).1.2.2.1
      obtain ⟨w3, hrun, hm3, hk3⟩ := wh_del H2'.out.1.at_.whr id H.out.2 0
      obtain ⟨hA3, hT3⟩ := H2'.out.1.at_.setMap hm3 hk3
      have hO3 := H2'.out.1.step hA3 hT3 H2'.out.1.ok H2'.out.1.last H2'.out.1.nf
      have H3 := Lib.hid (And.intro hO3 (H2'.out.2.trans hT3))
      dsimp only at c2 hrun
      clear hm3 hk3 hA3 hT3 hO3 hdn
      go_wp2
      go_ret
      exact ⟨0, { d with fs := fs2, whr := d.whr.del id }, ρ2, rfl, (HR.out _ _).2 (.inr ⟨by first | exact rfl | exact trivial, fs2, H2.out.1, .inr ⟨rfl, rfl⟩⟩), H3.out.1, H3.out.2, H2.out.2.2.2.mono (by omega)⟩
    · have h1' : (er == 0) = false := by simpa using h1
      have H1 := Lib.hid h1
      clear h1
      go_wp2
      go_ret
      exact ⟨er, _, ρ2, rfl, (HR.out _ _).2 (.inr ⟨by first | exact rfl | exact trivial, fs2, H2.out.1, .inl ⟨H1.out, rfl⟩⟩), H2.out.2.1, H2.out.2.2.1, H2.out.2.2.2.mono (by omega)⟩
  · have h0' : (ae == 0) = false := by simpa using h0
    have H0 := Lib.hid h0
    clear h0
    go_enter Tryz.func22, Tryz.ntmps22
    go_wp2_with fail
    refine (Hat.out).mono ?_; rintro e w1 ⟨rfl, hb1⟩
    have Hb1 := Lib.hid hb1
    clear hb1
    go_wp2
    go_ret
    exact ⟨ae, d, ρ, rfl, (HR.out _ _).2 (.inl ⟨H0.out, rfl, rfl⟩), H.out.1.below Hb1.out, StoStep.below Hb1.out, (FsGo.refl H.out.1.ok).mono (by omega)⟩
def MoveR (d : StoD) (id : Int) (t : UInt8) (er : Int) (d' : StoD) : Prop :=
  (keepQ.contains t = false ∧ er = 1 ∧ d' = d) ∨
  (keepQ.contains t = true ∧ (((atD d id).2 ≠ 0 ∧ er = (atD d id).2 ∧ d' = d) ∨
    ((atD d id).2 = 0 ∧ (((atD d id).1 = t ∧ er = 0 ∧ d' = d) ∨
      ((atD d id).1 ≠ t ∧ ∃ fs2, Outcome (renS (nameD (atD d id).1 id) (nameD t id)) 2 d.fs er fs2 ∧ ((er ≠ 0 ∧ d' = { d with fs := fs2, down := d.down || decide (er = 2) }) ∨ (er = 0 ∧ d' = { d with fs := fs2, whr := d.whr.put id t })))))))
set_option maxHeartbeats 16000000 in
theorem move_calls (s : Nat) (d : StoD) (ρ : Rho) (id : Int) (t : UInt8) (w : World) (h : StoOk w s d ρ) (hll : d.fs.loose.length ≤ 800000) (hwl : d.whr.length ≤ 1000000) (hid : -9223372036854775808 ≤ id ∧ id ≤ 9223372036854775807) :
    Calls Tryz.prog 23 #[.pointer (some ⟨s, 0, none⟩), .int .i64 id, .int .u8 t.toNat] w fun e w' => ∃ er d' ρ', OpDone (MoveR d id t) w s d ρ e w' er d' ρ' := by
  have hin := in_keep t
  have hat := at_calls s d ρ id w h hid
  have hrn := fun w1 (hb : Below w.heap.size w w1) => srename_calls s d ρ id (atD d id).1 t w1 (h.below hb) (by omega)
  have HR : Hid (∀ er d', ((keepQ.contains t = false ∧ er = 1 ∧ d' = d) ∨
  (keepQ.contains t = true ∧ (((atD d id).2 ≠ 0 ∧ er = (atD d id).2 ∧ d' = d) ∨
    ((atD d id).2 = 0 ∧ (((atD d id).1 = t ∧ er = 0 ∧ d' = d) ∨
      ((atD d id).1 ≠ t ∧ ∃ fs2, Outcome (renS (nameD (atD d id).1 id) (nameD t id)) 2 d.fs er fs2 ∧ ((er ≠ 0 ∧ d' = { d with fs := fs2, down := d.down || decide (er = 2) }) ∨ (er = 0 ∧ d' = { d with fs := fs2, whr := d.whr.put id t }))))))) ) → MoveR d id t er d') := Lib.hid (fun _ _ h => h)
  obtain ⟨⟨q, ae⟩, hqa⟩ : ∃ r, atD d id = r := ⟨_, rfl⟩
  rw [hqa] at hat hrn HR
  obtain ⟨qn, hqn⟩ : ∃ qn : Nat, q.toNat = qn := ⟨_, rfl⟩
  obtain ⟨tn, htn⟩ : ∃ tn : Nat, t.toNat = tn := ⟨_, rfl⟩
  obtain ⟨bt, hbt⟩ : ∃ bt, keepQ.contains t = bt := ⟨_, rfl⟩
  dsimp only at hat hrn HR
  rw [hqn] at hat hrn
  rw [htn] at hin hrn ⊢
  rw [hbt] at hin
  have Hin := Lib.hid hin
  have Hat := Lib.hid hat
  have Hrn := Lib.hid hrn
  have Hy := Lib.hid (And.intro hbt (And.intro hqn htn))
  have H := Lib.hid (And.intro h (And.intro hid hwl))
  clear hin hat hrn h hid hqa hqn htn hll hwl hbt
  cases bt with
  | false =>
    go_enter Tryz.func23, Tryz.ntmps23
    go_wp2_with fail
    refine (Hin.out w).mono ?_; rintro e w1 ⟨rfl, hw1⟩; have hw1 := hw1.symm; subst hw1
    go_wp2
    go_ret
    exact ⟨1, d, ρ, rfl, HR.out _ _ (.inl ⟨Hy.out.1, rfl, rfl⟩), H.out.1, StoStep.refl _ _ _ _, (FsGo.refl H.out.1.ok).mono (by omega)⟩
  | true =>
    by_cases h0 : ae = 0
    · subst h0
      by_cases hqt : q = t
      · have hqe : qn = tn := by rw [← Hy.out.2.1, ← Hy.out.2.2, hqt]
        have Hqt := Lib.hid hqt
        clear hqt
        subst hqe
        go_enter Tryz.func23, Tryz.ntmps23
        go_wp2_with fail
        refine (Hin.out w).mono ?_; rintro e w1 ⟨rfl, hw1⟩; have hw1 := hw1.symm; subst hw1
        go_wp2_with fail
        refine (Hat.out).mono ?_; rintro e w1 ⟨rfl, hb1⟩
        have Hb1 := Lib.hid hb1
        clear hb1
        go_wp2
        go_ret
        exact ⟨0, d, ρ, rfl, HR.out _ _ (.inr ⟨Hy.out.1, .inr ⟨by first | exact rfl | exact trivial, .inl ⟨Hqt.out, rfl, rfl⟩⟩⟩), H.out.1.below Hb1.out, StoStep.below Hb1.out, (FsGo.refl H.out.1.ok).mono (by omega)⟩
      · have hne : ((qn : Int) == (tn : Int)) = false := by
          rw [beq_eq_false_iff_ne]; intro e; exact hqt (UInt8.toNat_inj.1 (by rw [Hy.out.2.1, Hy.out.2.2]; omega))
        have Hqt := Lib.hid hqt
        clear hqt
        go_enter Tryz.func23, Tryz.ntmps23
        go_wp2_with fail
        refine (Hin.out w).mono ?_; rintro e w1 ⟨rfl, hw1⟩; have hw1 := hw1.symm; subst hw1
        go_wp2_with fail
        refine (Hat.out).mono ?_; rintro e w1 ⟨rfl, hb1⟩
        have Hb1 := Lib.hid hb1
        clear hb1
        go_wp2_with fail
        refine (Hrn.out w1 Hb1.out).mono ?_; rintro e w2 ⟨er, fs2, ρ2, rfl, ho, hO2, hT2, hg2⟩
        have H2 := Lib.hid (And.intro ho (And.intro hO2 (And.intro ((StoStep.below (s := s) (d := d) (ρ := ρ) Hb1.out).trans hT2) hg2)))
        clear ho hO2 hT2 hg2
        by_cases h1 : er = 0
        · subst h1
          have hdn : ({ d with fs := fs2, down := d.down || decide ((0 : Int) = 2) } : StoD) = { d with fs := fs2 } := by cases hx : d.down <;> simp [hx]
          have H2' : Hid (StoOk w2 s { d with fs := fs2 } ρ2 ∧ StoStep w s d ρ w2 { d with fs := fs2 } ρ2) := Lib.hid (by
            obtain ⟨_, q2, q3, _⟩ := H2.out
            rw [hdn] at q2 q3
            exact ⟨q2, q3⟩)
          have c2 := (cells4 H2'.out.1.at_.hd).1.2.2.1
          obtain ⟨w3, hrun, hm3, hk3⟩ := wh_put H2'.out.1.at_.whr (by have := H.out.2.2; dsimp only; unfold maxLen; omega) id H.out.2.1 t
          rw [Hy.out.2.2] at hrun
          obtain ⟨hA3, hT3⟩ := H2'.out.1.at_.setMap hm3 hk3
          have hO3 := H2'.out.1.step hA3 hT3 H2'.out.1.ok H2'.out.1.last H2'.out.1.nf
          have H3 := Lib.hid (And.intro hO3 (H2'.out.2.trans hT3))
          dsimp only at c2 hrun
          clear hm3 hk3 hA3 hT3 hO3 hdn
          go_wp2
          go_ret
          exact ⟨0, { d with fs := fs2, whr := d.whr.put id t }, ρ2, rfl, HR.out _ _ (.inr ⟨Hy.out.1, .inr ⟨by first | exact rfl | exact trivial, .inr ⟨Hqt.out, fs2, H2.out.1, .inr ⟨rfl, rfl⟩⟩⟩⟩), H3.out.1, H3.out.2, H2.out.2.2.2.mono (by omega)⟩
        · have h1' : (er != 0) = true := by simpa using h1
          have H1 := Lib.hid h1
          clear h1
          go_wp2
          go_ret
          exact ⟨er, _, ρ2, rfl, HR.out _ _ (.inr ⟨Hy.out.1, .inr ⟨by first | exact rfl | exact trivial, .inr ⟨Hqt.out, fs2, H2.out.1, .inl ⟨H1.out, rfl⟩⟩⟩⟩), H2.out.2.1, H2.out.2.2.1, H2.out.2.2.2.mono (by omega)⟩
    · have h0' : (ae != 0) = true := by simpa using h0
      have H0 := Lib.hid h0
      clear h0
      go_enter Tryz.func23, Tryz.ntmps23
      go_wp2_with fail
      refine (Hin.out w).mono ?_; rintro e w1 ⟨rfl, hw1⟩; have hw1 := hw1.symm; subst hw1
      go_wp2_with fail
      refine (Hat.out).mono ?_; rintro e w1 ⟨rfl, hb1⟩
      have Hb1 := Lib.hid hb1
      clear hb1
      go_wp2
      go_ret
      exact ⟨ae, d, ρ, rfl, HR.out _ _ (.inr ⟨Hy.out.1, .inl ⟨H0.out, rfl, rfl⟩⟩), H.out.1.below Hb1.out, StoStep.below Hb1.out, (FsGo.refl H.out.1.ok).mono (by omega)⟩
end Go.Proofs.YtffnbkmigapmjaaGreatDoor

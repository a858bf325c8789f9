/- Printed out of the texts of wip/tpl. -/
import Derived.Test.YtffnbkmigapmjaaGreatDoorT32
import Derived.Test.YtffnbkmigapmjaaGreatDoorT38
set_option linter.unusedSimpArgs false
set_option linter.unusedVariables false
set_option maxRecDepth 100000
namespace Go.Proofs.YtffnbkmigapmjaaGreatDoor
def BoxD.nm (b : BoxD) : Nm := nameD b.q b.m.id
def BoxD.bytes (b : BoxD) : List UInt8 := b.m.record ++ bytesM b.ks
theorem BoxD.bytes_len (b : BoxD) : b.bytes.length = b.len := by unfold BoxD.bytes BoxD.len; rw [List.length_append, bytesM_length]
structure ModI (T : Nat) (M : ModD) : Prop where
 asc : M.list.Pairwise (fun a b => a.m.id < b.m.id)
 id : ∀ b ∈ M.list, 1 ≤ b.m.id ∧ b.m.id ≤ M.last
 q : ∀ b ∈ M.list, keepQ.contains b.q = true
 good : ∀ b ∈ M.list, b.m.good = true
 ks : ∀ b ∈ M.list, (∀ k ∈ b.ks, k.good = true) ∧ b.ks.length ≤ T
 n : M.list.length ≤ T
 last : 0 ≤ M.last ∧ M.last ≤ T
 lb : M.last ≤ M.bound
 bd : M.bound ≤ M.last + 16
 room : 0 ≤ M.room ∧ M.room ≤ 16777216
def ParOk (M : ModD) : Prop := ∀ b ∈ M.list, ∀ c ∈ M.list, c.m.id ≠ b.m.parent
structure Cont14 (M : ModD) (C : Cont) : Prop where
 box : ∀ b ∈ M.list, C b.nm = some b.bytes
 ids : 0 < M.bound → C (idsNameD M.bound) = some []
 no : ∀ n, (∀ b ∈ M.list, b.nm ≠ n) → (0 < M.bound → idsNameD M.bound ≠ n) → C n = none
def whM (l : List BoxD) : Wh := l.map (fun b => (b.m.id, b.q))
structure Same14 (d : StoD) (M : ModD) : Prop where
 down : d.down = false
 vw : ∃ C, Vw d.fs C M.files M.used M.room ∧ Cont14 M C
 last : d.last = M.last
 bound : d.bound = M.bound
 nf : d.nfile = if 0 < M.bound then idsNameD M.bound else []
 whr : d.whr = whM M.list
section
variable {T : Nat} {M : ModD} {d : StoD}
theorem keep_q {q : UInt8} (h : keepQ.contains q = true) : allQ.contains q = true ∧ q ≠ 116 ∧ q ≠ 99 ∧ q ≠ 0 := by
 have hm : q ∈ keepQ := by simpa using h
 have hall : (keepQ.all fun q => allQ.contains q && (q != 116) && (q != 99) && (q != 0)) = true := by decide
 have := List.all_eq_true.1 hall q hm
 simp only [Bool.and_eq_true, bne_iff_ne] at this
 exact ⟨this.1.1.1, this.1.1.2, this.1.2, this.2⟩
theorem ModI.ok (h : ModI T M) (hT : T ≤ 199) : ModOk M := ⟨by have := h.n; omega, fun b hb => by have := (h.ks b hb).2; omega, by have := h.last; omega, by have := h.last; have := h.lb; have := h.bd; omega, h.room, h.id⟩
theorem ModI.idb (h : ModI T M) (hT : T ≤ 199) {b : BoxD} (hb : b ∈ M.list) : 1 ≤ b.m.id ∧ b.m.id ≤ 999999999 := by have := h.id b hb; have := h.last; omega
theorem ModI.sto (h : ModI T M) (hT : T ≤ 199) {b : BoxD} (hb : b ∈ M.list) : StoOf b.nm b.q b.m.id := ⟨(keep_q (h.q b hb)).1, (h.idb hT hb).1, (h.idb hT hb).2, rfl⟩
theorem asc_inj : ∀ {l : List BoxD}, l.Pairwise (fun a b => a.m.id < b.m.id) → ∀ a ∈ l, ∀ b ∈ l, a.m.id = b.m.id → a = b
 | x :: l, hp, a, ha, b, hb, e => by
  obtain ⟨h1, h2⟩ := List.pairwise_cons.1 hp
  rcases List.mem_cons.1 ha with e1 | ha
  ·rcases List.mem_cons.1 hb with e2 | hb
   ·rw [e1, e2]
   ·have := h1 b hb; rw [e1] at e; omega
  ·rcases List.mem_cons.1 hb with e2 | hb
   ·have := h1 a ha; rw [e2] at e; omega
   ·exact asc_inj h2 a ha b hb e
theorem ModI.inj (h : ModI T M) (hT : T ≤ 199) {a b : BoxD} (ha : a ∈ M.list) (hb : b ∈ M.list) (e : a.nm = b.nm) : a = b :=
 asc_inj h.asc a ha b hb (StoOf.inj (e ▸ h.sto hT ha) (h.sto hT hb)).2
theorem idsNameD_inj {a b : Int} (ha : 0 ≤ a ∧ a ≤ 999999999) (hb : 0 ≤ b ∧ b ≤ 999999999) (h : idsNameD a = idsNameD b) : a = b :=
 NumOf.inj (s := idsNameD a) ⟨ha.1, ha.2, rfl⟩ ⟨hb.1, hb.2, h⟩
theorem whM_look : ∀ (l : List BoxD) (id : Int), Wh.look (whM l) id = (l.find? (fun b => b.m.id == id)).map (·.q)
 | [], _ => rfl
 | b :: l, id => by
  have ih := whM_look l id
  unfold Wh.look whM at ih ⊢
  rw [List.map_cons, List.find?_cons, List.find?_cons]
  show Option.map _ (match b.m.id == id with | true => _ | false => _) = _
  cases h : b.m.id == id with
  | true => rfl
  | false => exact ih
theorem wh_none {l : List BoxD} {id : Int} (h : ∀ b ∈ l, b.m.id ≠ id) : Wh.at (whM l) id = 0 := by
 unfold Wh.at
 rw [whM_look, List.find?_eq_none.2 (fun b hb => by simpa using h b hb)]; rfl
theorem wh_some {l : List BoxD} (hp : l.Pairwise (fun a b => a.m.id < b.m.id)) {b : BoxD} (hb : b ∈ l) : Wh.at (whM l) b.m.id = b.q := by
 unfold Wh.at
 rw [whM_look]
 cases h : l.find? (fun x => x.m.id == b.m.id) with
 | none => exact absurd (List.find?_eq_none.1 h b hb) (by simp)
 | some x =>
  have h1 := List.mem_of_find?_eq_some h
  have h2 := List.find?_some h
  rw [asc_inj hp x h1 b hb (by simpa using h2)]; rfl
theorem atL_none {id : Int} : ∀ {l : List BoxD} {i : Nat}, (∀ b ∈ l, keepQ.contains b.q = true) → atL id l i = -1 → ∀ b ∈ l, b.m.id ≠ id
 | b :: l, i, hq, h, x, hx => by
  rw [atL] at h
  by_cases hb : b.m.id = id ∧ b.q ≠ 99
  ·rw [if_pos hb] at h; omega
  ·rw [if_neg hb] at h
   rcases List.mem_cons.1 hx with rfl | hx
   ·exact fun e => hb ⟨e, (keep_q (hq _ (List.mem_cons_self ..))).2.2.1⟩
   ·exact atL_none (fun b hb => hq b (List.mem_cons_of_mem _ hb)) h x hx
theorem ModI.at_cases (h : ModI T M) (id : Int) : (M.at id = -1 ∧ (∀ b ∈ M.list, b.m.id ≠ id) ∧ Wh.at (whM M.list) id = 0) ∨ ∃ (k : Nat) (b : BoxD), M.at id = (k : Int) ∧ M.list[k]? = some b ∧ b ∈ M.list ∧ b.m.id = id ∧ Wh.at (whM M.list) id = b.q := by
 rcases M.at_range id with e | ⟨k, b, e, h1, h2, h3⟩
 ·have hn := atL_none h.q e
  exact .inl ⟨e, hn, wh_none hn⟩
 ·have hm := List.mem_of_getElem? h1
  exact .inr ⟨k, b, e, h1, hm, h2, by rw [← h2]; exact wh_some h.asc hm⟩
theorem listD_whM {l : List BoxD} (hp : l.Pairwise (fun a b => a.m.id < b.m.id)) (q : UInt8) : listD (whM l) q = (l.filter (fun b => b.q == q)).map (·.m.id) := by
 unfold listD whM
 rw [List.filter_map, List.map_map]
 show List.mergeSort (List.map (fun b : BoxD => b.m.id) (l.filter (fun b => b.q == q))) _ = _
 refine List.mergeSort_of_pairwise ?_
 rw [List.pairwise_map]
 exact (hp.filter _).imp (fun h => decide_eq_true (by omega))
theorem read_same {C : Cont} {N U : Nat} {R : Int} (hv : Vw d.fs C N U R) (hc : Cont14 M C) (hi : ModI T M) (hT : T ≤ 199) {b : BoxD} (hb : b ∈ M.list) : fsReadD d.fs b.nm = (0, b.bytes) := by
 have hs := hi.sto hT hb
 exact hv.read (rightD_nameD hs.1 hs.2.1 hs.2.2.1) (hc.box b hb)
theorem ModI.file (hi : ModI T M) (hT : T ≤ 199) {b : BoxD} (hb : b ∈ M.list) : fileD b.bytes = some ⟨b.m, b.ks, b.bytes.length⟩ := by
 have := fileD_full b.m (small_of_good (hi.good b hb)) (hi.good b hb) b.ks (hi.ks b hb).1 (by have := (hi.ks b hb).2; omega)
 unfold BoxD.bytes
 rw [this, List.length_append, bytesM_length]
theorem file_same {C : Cont} {N U : Nat} {R : Int} (hw : d.whr = whM M.list) (hv : Vw d.fs C N U R) (hc : Cont14 M C) (hi : ModI T M) (hT : T ≤ 199) {b : BoxD} (hb : b ∈ M.list) : sfileD d b.m.id = some ⟨b.m, b.ks, b.bytes.length⟩ := by
 unfold sfileD
 rw [hw, wh_some hi.asc hb, if_pos (hi.q b hb), show nameD b.q b.m.id = b.nm from rfl, read_same hv hc hi hT hb, if_pos rfl]
 exact hi.file hT hb
theorem like_same {C : Cont} {N U : Nat} {R : Int} (hw : d.whr = whM M.list) (hv : Vw d.fs C N U R) (hc : Cont14 M C) (hi : ModI T M) (hT : T ≤ 199) : Like d M := by
 refine ⟨fun q _ => by rw [hw]; exact listD_whM hi.asc q, fun b hb => ⟨⟨_, file_same hw hv hc hi hT hb⟩, by rw [hw]; exact wh_some hi.asc hb⟩, ?_⟩
 rw [hw, listD_whM hi.asc]
 refine List.map_eq_nil_iff.2 (List.filter_eq_nil_iff.2 (fun b hb => ?_))
 have := (keep_q (hi.q b hb)).2.1
 simpa using this
theorem Same14.like (h : Same14 d M) (hi : ModI T M) (hT : T ≤ 199) : Like d M := by
 obtain ⟨C, hv, hc⟩ := h.vw
 exact like_same h.whr hv hc hi hT
theorem Same14.atD (h : Same14 d M) (id : Int) : atD d id = if keepQ.contains (Wh.at (whM M.list) id) = true then (Wh.at (whM M.list) id, 0) else (0, 4) := by
 unfold Go.Proofs.YtffnbkmigapmjaaGreatDoor.atD
 rw [h.down, h.whr]; rfl
theorem ModI.nmr (hi : ModI T M) (hT : T ≤ 199) {b : BoxD} (hb : b ∈ M.list) : rightD b.nm = true := by
 have hs := hi.sto hT hb
 exact rightD_nameD hs.1 hs.2.1 hs.2.2.1
theorem Cont14.free {C : Cont} (hc : Cont14 M C) (hi : ModI T M) (hT : T ≤ 199) {q : UInt8} {n : Int} (h0 : allQ.contains q = true) (h1 : 1 ≤ n ∧ n ≤ 999999999) (hn : ∀ b ∈ M.list, b.q = q → b.m.id ≠ n) : C (nameD q n) = none := by
 refine hc.no _ (fun b hb e => ?_) (fun hb e => ?_)
 ·obtain ⟨e1, e2⟩ := StoOf.inj (s := b.nm) (hi.sto hT hb) ⟨h0, h1.1, h1.2, e⟩
  exact hn b hb e1 e2
 ·exact ids_ne_name (by have := hi.last; have := hi.bd; omega) q n e
end
theorem run_bad {S : Nat → FsD → Int → FsD → Prop} {V : Nat → FsD → Prop} {Wd : FsD → Prop} {n k : Nat} {d : FsD} {e0 : Int} (hk : k < n) (he : e0 ≠ 0) (h0 : V 0 d) (hs : ∀ i a er b, i < k → V i a → S i a er b → er = 0 ∧ V (i + 1) b) (hb : ∀ a er b, V k a → S k a er b → er = e0 ∧ Wd b) :
 ∀ er fs, Outcome S n d er fs → er = e0 ∧ Wd fs := by
 have hr : ∀ i a, Run S d i a → (i ≤ k → V i a) ∧ ¬ k < i := by
  intro i
  induction i with
  | zero => intro a h; rw [h.zero_inv]; exact ⟨fun _ => h0, by omega⟩
  | succ i ih =>
   intro a h
   obtain ⟨b, h1, h2⟩ := h.inv
   obtain ⟨q1, q2⟩ := ih b h1
   by_cases hik : i < k
   ·exact ⟨fun _ => (hs i b 0 a hik (q1 (by omega)) h2).2, by omega⟩
   ·have hik' : i = k := by omega
    subst hik'
    exact absurd (hb b 0 a (q1 (Nat.le_refl _)) h2).1.symm he
 intro er fs ho
 rcases ho with ⟨_, h⟩ | ⟨hne, i, a, hi, h1, h2⟩
 ·exact absurd hk (hr n fs h).2
 ·obtain ⟨q1, q2⟩ := hr i a h1
  by_cases hik : i < k
  ·exact absurd (hs i a er fs hik (q1 (by omega)) h2).1 hne
  ·have hik' : i = k := by omega
   subst hik'
   exact hb a er fs (q1 (Nat.le_refl _)) h2
section
variable {d : FsD} {C : Cont} {N U : Nat} {R : Int}
theorem Vw.lay_full (h : Vw d C N U R) {tmp nm : Nm} {bs : List UInt8} (ht : rightD tmp = true) (hC : C tmp = none) (hN : N < 256) (hR : R - U < (bs.length : Int)) {er : Int} {fs : FsD} (ho : Outcome (layS tmp nm bs) 6 d er fs) :
 er = 3 ∧ Vw fs (updC C tmp (some [])) (N + 1) U R := by
 let V : Nat → FsD → Prop := fun i a => match i with
  | 0 => Vw a C N U R
  | 1 => Vw a C N U R
  | _ => Vw a (updC C tmp (some [])) (N + 1) U R
 refine run_bad (V := V) (n := 6) (k := 2) (d := d) (S := layS tmp nm bs) (Wd := fun b => Vw b (updC C tmp (some [])) (N + 1) U R) (by decide) (by decide) h ?_ ?_ er fs ho
 ·intro i a er b hi hV hS
  match i, hi, hV, hS with
  | 0, _, hV, ⟨v, lv, he, hb⟩ =>
   have hV : Vw a C N U R := hV
   rw [hV.unlink_none ht hC] at he hb
   subst he; subst hb
   exact ⟨rfl, hV⟩
  | 1, _, hV, ⟨x, v, lv, he, hb⟩ =>
   have hV : Vw a C N U R := hV
   obtain ⟨q1, q2⟩ := hV.create ht hC hN x v lv
   subst he; subst hb
   exact ⟨q1, q2⟩
 ·intro a er b hV ⟨row, he, hb⟩
  have hV : Vw a (updC C tmp (some [])) (N + 1) U R := hV
  rw [hV.append_full (b := []) (bs := bs) ht (updC_same _ _ _) hR row] at he hb
  subst he; subst hb
  exact ⟨rfl, hV⟩
theorem Vw.mrk (h : Vw d C N U R) {n : Nm} {b bs : List UInt8} (hr : rightD n = true) (hn : C n = some b) (hR : (bs.length : Int) ≤ R - U) {er : Int} {fs : FsD} (ho : Outcome (mrkS n bs) 2 d er fs) : er = 0 ∧ Vw fs (updC C n (some (b ++ bs))) N (U + bs.length) R := by
 let V : Nat → FsD → Prop := fun i a => match i with
  | 0 => Vw a C N U R
  | _ => Vw a (updC C n (some (b ++ bs))) N (U + bs.length) R
 exact run_good (V := V) (n := 2) (d := d) (S := mrkS n bs) h (by
  intro i x er y hi hV hS
  match i, hi, hV, hS with
  | 0, _, hV, ⟨row, he, hy⟩ =>
   have hV : Vw x C N U R := hV
   obtain ⟨q1, q2⟩ := hV.append (bs := bs) hr hn hR row
   subst he; subst hy
   exact ⟨q1, q2⟩
  | 1, _, hV, ⟨he, hy⟩ =>
   have hV : Vw x (updC C n (some (b ++ bs))) N (U + bs.length) R := hV
   obtain ⟨q1, q2⟩ := hV.sync hr (updC_same _ _ _)
   subst he; subst hy
   exact ⟨q1, q2⟩) er fs ho
theorem Vw.mrk_full (h : Vw d C N U R) {n : Nm} {b bs : List UInt8} (hr : rightD n = true) (hn : C n = some b) (hR : R - U < (bs.length : Int)) {er : Int} {fs : FsD} (ho : Outcome (mrkS n bs) 2 d er fs) : er = 3 ∧ fs = d := by
 refine run_bad (V := fun i a => a = d) (n := 2) (k := 0) (d := d) (S := mrkS n bs) (Wd := fun b => b = d) (by decide) (by decide) rfl (fun i a er b hi => by omega) ?_ er fs ho
 intro a er y hV ⟨row, he, hy⟩
 subst hV
 rw [h.append_full (bs := bs) hr hn hR row] at he hy
 exact ⟨he, hy⟩
theorem Vw.unl (h : Vw d C N U R) {n : Nm} {b : List UInt8} (hr : rightD n = true) (hn : C n = some b) {er : Int} {fs : FsD} (ho : Outcome (unlS n) 2 d er fs) : er = 0 ∧ Vw fs (updC C n none) (N - 1) (U - b.length) R := by
 let V : Nat → FsD → Prop := fun i a => match i with
  | 0 => Vw a C N U R
  | _ => Vw a (updC C n none) (N - 1) (U - b.length) R
 exact run_good (V := V) (n := 2) (d := d) (S := unlS n) h (by
  intro i x er y hi hV hS
  match i, hi, hV, hS with
  | 0, _, hV, ⟨v, lv, he, hy⟩ =>
   have hV : Vw x C N U R := hV
   obtain ⟨q1, q2⟩ := hV.unlink hr hn v lv
   subst he; subst hy
   exact ⟨q1, q2⟩
  | 1, _, hV, ⟨ms, he, hy⟩ =>
   have hV : Vw x (updC C n none) (N - 1) (U - b.length) R := hV
   obtain ⟨q1, q2⟩ := hV.dirSync ms
   subst he; subst hy
   exact ⟨q1, q2⟩) er fs ho
end
abbrev Asc (l : List BoxD) : Prop := l.Pairwise (fun a b => a.m.id < b.m.id)
theorem wh_del_no : ∀ {l : List BoxD} {n : Int}, (∀ b ∈ l, b.m.id ≠ n) → (whM l).del n = whM l
 | [], _, _ => rfl
 | b :: l, n, h => by
  have ih := wh_del_no (l := l) (n := n) (fun x hx => h x (List.mem_cons_of_mem _ hx))
  unfold whM Wh.del at ih ⊢
  rw [List.map_cons, List.filter_cons, show (!((b.m.id, b.q).1 == n)) = true by simpa using h b (List.mem_cons_self ..), if_pos rfl, ih]
theorem wh_ins_end : ∀ {l : List BoxD} {n : Int} {q : UInt8}, (∀ b ∈ l, b.m.id < n) → Wh.ins (n, q) (whM l) = whM l ++ [(n, q)]
 | [], _, _, _ => rfl
 | b :: l, n, q, h => by
  have ih := wh_ins_end (l := l) (n := n) (q := q) (fun x hx => h x (List.mem_cons_of_mem _ hx))
  have hb := h b (List.mem_cons_self ..)
  unfold whM at ih ⊢
  rw [List.map_cons, Wh.ins, if_neg (by show ¬ n < b.m.id; omega), ih, List.cons_append]
theorem wh_put_end {l : List BoxD} {n : Int} {q : UInt8} (h : ∀ b ∈ l, b.m.id < n) : (whM l).put n q = whM l ++ [(n, q)] := by
 unfold Wh.put
 rw [wh_del_no (fun b hb => by have := h b hb; omega), wh_ins_end h]
theorem wh_del_erase : ∀ {l : List BoxD} {k : Nat} {b : BoxD}, Asc l → l[k]? = some b → (whM l).del b.m.id = whM (l.eraseIdx k)
 | a :: l, 0, b, hp, h => by
  cases h
  obtain ⟨h1, _⟩ := List.pairwise_cons.1 hp
  have := wh_del_no (l := l) (n := a.m.id) (fun x hx => by have := h1 x hx; omega)
  rw [List.eraseIdx_zero, List.tail_cons]
  unfold whM Wh.del at this ⊢
  rw [List.map_cons, List.filter_cons, show (!((a.m.id, a.q).1 == a.m.id)) = false by simp, if_neg (by simp), this]
 | a :: l, k + 1, b, hp, h => by
  obtain ⟨h1, h2⟩ := List.pairwise_cons.1 hp
  have ih := wh_del_erase (l := l) (k := k) (b := b) h2 h
  have hb := h1 b (List.mem_of_getElem? h)
  rw [List.eraseIdx_cons_succ]
  unfold whM Wh.del at ih ⊢
  rw [List.map_cons, List.filter_cons, show (!((a.m.id, a.q).1 == b.m.id)) = true by simp; omega, if_pos rfl, ih, List.map_cons]
theorem wh_ins_at : ∀ {l : List BoxD} {k : Nat} {b : BoxD} {q : UInt8}, Asc l → l[k]? = some b → Wh.ins (b.m.id, q) (whM (l.eraseIdx k)) = whM (l.set k { b with q := q })
 | a :: l, 0, b, q, hp, h => by
  cases h
  obtain ⟨h1, _⟩ := List.pairwise_cons.1 hp
  rw [List.eraseIdx_zero, List.tail_cons, List.set_cons_zero]
  cases l with
  | nil => rfl
  | cons c l =>
   have := h1 c (List.mem_cons_self ..)
   unfold whM
   rw [List.map_cons, Wh.ins, if_pos (by show a.m.id < c.m.id; omega)]; rfl
 | a :: l, k + 1, b, q, hp, h => by
  obtain ⟨h1, h2⟩ := List.pairwise_cons.1 hp
  have ih := wh_ins_at (l := l) (k := k) (b := b) (q := q) h2 h
  have hb := h1 b (List.mem_of_getElem? h)
  rw [List.eraseIdx_cons_succ, List.set_cons_succ]
  unfold whM at ih ⊢
  rw [List.map_cons, Wh.ins, if_neg (by show ¬ b.m.id < a.m.id; omega), ih, List.map_cons]
theorem wh_put_set {l : List BoxD} {k : Nat} {b : BoxD} {q : UInt8} (hp : Asc l) (h : l[k]? = some b) : (whM l).put b.m.id q = whM (l.set k { b with q := q }) := by
 unfold Wh.put
 rw [wh_del_erase hp h, wh_ins_at hp h]
theorem set_mem : ∀ {l : List BoxD} {k : Nat} {b y x : BoxD}, Asc l → l[k]? = some b → x ∈ l.set k y → x = y ∨ (x ∈ l ∧ x.m.id ≠ b.m.id)
 | a :: l, 0, b, y, x, hp, h, hx => by
  cases h
  obtain ⟨h1, _⟩ := List.pairwise_cons.1 hp
  rw [List.set_cons_zero] at hx
  rcases List.mem_cons.1 hx with e | hx
  ·exact .inl e
  ·exact .inr ⟨List.mem_cons_of_mem _ hx, by have := h1 x hx; omega⟩
 | a :: l, k + 1, b, y, x, hp, h, hx => by
  obtain ⟨h1, h2⟩ := List.pairwise_cons.1 hp
  have hb := h1 b (List.mem_of_getElem? h)
  rw [List.set_cons_succ] at hx
  rcases List.mem_cons.1 hx with e | hx
  ·exact .inr ⟨by rw [e]; exact List.mem_cons_self .., by rw [e]; omega⟩
  ·rcases set_mem h2 h hx with e | ⟨e1, e2⟩
   ·exact .inl e
   ·exact .inr ⟨List.mem_cons_of_mem _ e1, e2⟩
theorem erase_mem : ∀ {l : List BoxD} {k : Nat} {b x : BoxD}, Asc l → l[k]? = some b → x ∈ l.eraseIdx k → x ∈ l ∧ x.m.id ≠ b.m.id
 | a :: l, 0, b, x, hp, h, hx => by
  cases h
  obtain ⟨h1, _⟩ := List.pairwise_cons.1 hp
  rw [List.eraseIdx_zero, List.tail_cons] at hx
  exact ⟨List.mem_cons_of_mem _ hx, by have := h1 x hx; omega⟩
 | a :: l, k + 1, b, x, hp, h, hx => by
  obtain ⟨h1, h2⟩ := List.pairwise_cons.1 hp
  have hb := h1 b (List.mem_of_getElem? h)
  rw [List.eraseIdx_cons_succ] at hx
  rcases List.mem_cons.1 hx with e | hx
  ·exact ⟨by rw [e]; exact List.mem_cons_self .., by rw [e]; omega⟩
  ·obtain ⟨e1, e2⟩ := erase_mem h2 h hx
   exact ⟨List.mem_cons_of_mem _ e1, e2⟩
theorem mem_erase : ∀ {l : List BoxD} {k : Nat} {b x : BoxD}, l[k]? = some b → x ∈ l → x = b ∨ x ∈ l.eraseIdx k
 | a :: l, 0, b, x, h, hx => by
  cases h
  rcases List.mem_cons.1 hx with e | hx
  ·exact .inl e
  ·exact .inr hx
 | a :: l, k + 1, b, x, h, hx => by
  rw [List.eraseIdx_cons_succ]
  rcases List.mem_cons.1 hx with e | hx
  ·exact .inr (by rw [e]; exact List.mem_cons_self ..)
  ·rcases mem_erase (l := l) (k := k) h hx with e | e
   ·exact .inl e
   ·exact .inr (List.mem_cons_of_mem _ e)
theorem mem_set' : ∀ {l : List BoxD} {k : Nat} {b y x : BoxD}, l[k]? = some b → x ∈ l → x = b ∨ x ∈ l.set k y
 | a :: l, 0, b, y, x, h, hx => by
  cases h
  rcases List.mem_cons.1 hx with e | hx
  ·exact .inl e
  ·exact .inr (List.mem_cons_of_mem _ hx)
 | a :: l, k + 1, b, y, x, h, hx => by
  rw [List.set_cons_succ]
  rcases List.mem_cons.1 hx with e | hx
  ·exact .inr (by rw [e]; exact List.mem_cons_self ..)
  ·rcases mem_set' (l := l) (k := k) (y := y) h hx with e | e
   ·exact .inl e
   ·exact .inr (List.mem_cons_of_mem _ e)
theorem set_self_mem : ∀ {l : List BoxD} {k : Nat} {b y : BoxD}, l[k]? = some b → y ∈ l.set k y
 | a :: l, 0, b, y, h => List.mem_cons_self ..
 | a :: l, k + 1, b, y, h => List.mem_cons_of_mem _ (set_self_mem (l := l) (k := k) (b := b) h)
theorem asc_set : ∀ {l : List BoxD} {k : Nat} {b y : BoxD}, Asc l → l[k]? = some b → y.m.id = b.m.id → Asc (l.set k y)
 | a :: l, 0, b, y, hp, h, e => by
  cases h
  obtain ⟨h1, h2⟩ := List.pairwise_cons.1 hp
  exact List.pairwise_cons.2 ⟨fun x hx => by have := h1 x hx; omega, h2⟩
 | a :: l, k + 1, b, y, hp, h, e => by
  obtain ⟨h1, h2⟩ := List.pairwise_cons.1 hp
  refine List.pairwise_cons.2 ⟨fun x hx => ?_, asc_set h2 h e⟩
  rcases set_mem h2 h hx with e1 | ⟨e1, _⟩
  ·rw [e1, e]; exact h1 b (List.mem_of_getElem? h)
  ·exact h1 x e1
theorem used_set : ∀ {l : List BoxD} {k : Nat} {b y : BoxD}, l[k]? = some b → usedTo (l.set k y) + b.len = usedTo l + y.len
 | a :: l, 0, b, y, h => by
  cases h
  unfold usedTo
  rw [List.set_cons_zero, List.map_cons, List.map_cons, List.sum_cons, List.sum_cons]; omega
 | a :: l, k + 1, b, y, h => by
  have ih := used_set (l := l) (k := k) (b := b) (y := y) h
  unfold usedTo at ih ⊢
  rw [List.set_cons_succ, List.map_cons, List.map_cons, List.sum_cons, List.sum_cons]; omega
theorem used_erase : ∀ {l : List BoxD} {k : Nat} {b : BoxD}, l[k]? = some b → usedTo (l.eraseIdx k) + b.len = usedTo l
 | a :: l, 0, b, h => by
  cases h
  unfold usedTo
  rw [List.eraseIdx_zero, List.tail_cons, List.map_cons, List.sum_cons]; omega
 | a :: l, k + 1, b, h => by
  have ih := used_erase (l := l) (k := k) (b := b) h
  unfold usedTo at ih ⊢
  rw [List.eraseIdx_cons_succ, List.map_cons, List.map_cons, List.sum_cons, List.sum_cons]; omega
section
variable {T : Nat} {M : ModD} {d d' : StoD} {er id : Int} {m : MailD}
theorem ModI.mono {T' : Nat} (h : ModI T M) (hT : T ≤ T') : ModI T' M := ⟨h.asc, h.id, h.q, h.good, fun b hb => ⟨(h.ks b hb).1, by have := (h.ks b hb).2; omega⟩, by have := h.n; omega, by have := h.last; omega, h.lb, h.bd, h.room⟩
theorem ModI.add (h : ModI T M) (hg : goodM m = true) (hp : m.parent ≤ M.last) (hT : T ≤ 199) : ModI (T + 1) (M.add m).2.2 := by
 have hl := h.last
 have hlb := h.lb
 have hbd := h.bd
 have hnx : ∀ l, (∀ b ∈ l, b ∈ M.list ∨ b = ⟨{ m with id := M.last + 1 }, 105, []⟩) → Asc l → l.length ≤ M.list.length + 1 → ModI (T + 1) { M.next with list := l } := fun l hm ha hn => by
  refine ⟨ha, ?_, ?_, ?_, ?_, by have := h.n; show l.length ≤ T + 1; omega, by show 0 ≤ M.last + 1 ∧ M.last + 1 ≤ ((T + 1 : Nat) : Int); omega, ?_, ?_, h.room⟩
  ·intro b hb
   show 1 ≤ b.m.id ∧ b.m.id ≤ M.last + 1
   rcases hm b hb with hb | rfl
   ·have := h.id b hb; omega
   ·show 1 ≤ M.last + 1 ∧ M.last + 1 ≤ M.last + 1; omega
  ·intro b hb
   rcases hm b hb with hb | rfl
   ·exact h.q b hb
   ·rfl
  ·intro b hb
   rcases hm b hb with hb | rfl
   ·exact h.good b hb
   ·exact good_at hg (by omega) (by omega)
  ·intro b hb
   rcases hm b hb with hb | rfl
   ·exact ⟨(h.ks b hb).1, by have := (h.ks b hb).2; omega⟩
   ·exact ⟨fun k hk => (by cases hk), Nat.zero_le _⟩
  ·show M.last + 1 ≤ if M.bound ≤ M.last then M.last + 16 else M.bound
   split <;> omega
  ·show (if M.bound ≤ M.last then M.last + 16 else M.bound) ≤ M.last + 1 + 16
   split <;> omega
 unfold ModD.add
 split
 ·exact hnx M.list (fun b hb => .inl hb) h.asc (by omega)
 ·refine hnx _ (fun b hb => ?_) ?_ ?_
  ·rcases List.mem_append.1 hb with hb | hb
   ·exact .inl hb
   ·exact .inr (List.mem_singleton.1 hb)
  ·refine List.pairwise_append.2 ⟨h.asc, List.pairwise_singleton _ _, fun a ha b hb => ?_⟩
   rw [List.mem_singleton.1 hb]
   have := (h.id a ha).2
   show a.m.id < M.last + 1
   omega
  ·rw [List.length_append, List.length_singleton]; omega
theorem next_same (h : Same14 d M) (hi : ModI T M) (hT : T ≤ 199) (hn : NextR d er id d') : er = 0 ∧ id = M.last + 1 ∧ Same14 d' M.next := by
 obtain ⟨C, hv, hc⟩ := h.vw
 have hl := hi.last
 have hlb := hi.lb
 have hbd := hi.bd
 have hfl : M.files ≤ 200 := by have := hi.n; unfold ModD.files; split <;> omega
 have hfd := hv.up.down
 rcases hn with ⟨h1, _⟩ | ⟨_, h1, _⟩ | ⟨_, _, h1, e1, d1, hm, h2⟩ | ⟨_, _, h1, rfl, rfl, rfl⟩
 ·rw [hfd] at h1; cases h1
 ·rw [h.last] at h1; omega
 ·rw [h.bound, h.last] at h1
  have hmb : moreB d = M.last + 16 := by unfold moreB; rw [h.last]; omega
  have hnew : C (idsNameD (moreB d)) = none := by
   rw [hmb]
   refine hc.no _ (fun b hb e => ids_ne_name (by omega) b.q b.m.id e.symm) (fun hb e => ?_)
   have := idsNameD_inj (by omega) (by omega) e
   omega
  have hnl : M.next.bound = M.last + 16 := by show (if M.bound ≤ M.last then M.last + 16 else M.bound) = _; rw [if_pos h1]
  obtain ⟨s1, s2, s3, s4, s5, s6⟩ := hm.same
  have hfin : ∀ C2, e1 = 0 → Vw d1.fs C2 M.next.files M.used M.room → Cont14 M.next C2 → d1.bound = moreB d → d1.nfile = idsNameD (moreB d) → er = 0 ∧ id = M.last + 1 ∧ Same14 d' M.next := by
   intro C2 he hv2 hc2 hb2 hn2
   rcases h2 with ⟨h3, _⟩ | ⟨_, rfl, rfl, rfl⟩
   ·exact absurd he h3
   ·refine ⟨rfl, by rw [h.last], ⟨by show d1.down = false; rw [s6]; exact h.down, ⟨C2, hv2, hc2⟩, by show d.last + 1 = M.last + 1; rw [h.last], by show d1.bound = _; rw [hb2, hmb, hnl], ?_, by show d1.whr = _; rw [s5]; exact h.whr⟩⟩
    show d1.nfile = if 0 < M.next.bound then idsNameD M.next.bound else []
    rw [hn2, hmb, hnl, if_pos (by omega)]
  by_cases hb0 : 0 < M.bound
  ·have hnf : d.nfile = idsNameD M.bound := by rw [h.nf, if_pos hb0]
   have hne : idsNameD (moreB d) ≠ idsNameD M.bound := fun e => by
    rw [hmb] at e
    have := idsNameD_inj (by omega) (by omega) e
    omega
   obtain ⟨q1, q2, q3, q4⟩ := hm.vw1 hv (by omega) (by rw [hmb]; omega) hnew (b0 := []) (by rw [hnf]; exact hc.ids hb0) (by rw [hnf]; exact rightD_ids (by omega))
   have hfe : M.next.files = M.files := by unfold ModD.files; rw [hnl, if_pos (by omega), if_pos hb0]; rfl
   refine hfin _ q1 (by rw [hfe]; exact q2) ⟨fun b hb => ?_, fun _ => ?_, fun n n1 n2 => ?_⟩ q3 q4
   ·have x1 : idsNameD M.bound ≠ b.nm := ids_ne_name (by omega) b.q b.m.id
    have x2 : idsNameD (moreB d) ≠ b.nm := by rw [hmb]; exact ids_ne_name (by omega) b.q b.m.id
    rw [hnf, updC_other _ _ x1, updC_other _ _ x2]
    exact hc.box b hb
   ·rw [hnl, ← hmb, hnf, updC_other _ _ (fun e => hne e.symm), updC_same]
   ·rw [hnl, ← hmb] at n2
    have n2' := n2 (by rw [hmb]; omega)
    by_cases hx : idsNameD M.bound = n
    ·rw [hnf, hx, updC_same]
    ·rw [hnf, updC_other _ _ hx, updC_other _ _ n2']
     exact hc.no n n1 (fun _ => hx)
  ·have hnf : d.nfile = [] := by rw [h.nf, if_neg hb0]
   obtain ⟨q1, q2, q3, q4⟩ := hm.vw0 hv (by omega) (by rw [hmb]; omega) hnew hnf
   have hfe : M.next.files = M.files + 1 := by unfold ModD.files; rw [hnl, if_pos (by omega), if_neg hb0]; rfl
   refine hfin _ q1 (by rw [hfe]; exact q2) ⟨fun b hb => ?_, fun _ => ?_, fun n n1 n2 => ?_⟩ q3 q4
   ·have x2 : idsNameD (moreB d) ≠ b.nm := by rw [hmb]; exact ids_ne_name (by omega) b.q b.m.id
    rw [updC_other _ _ x2]
    exact hc.box b hb
   ·rw [hnl, ← hmb, updC_same]
   ·rw [hnl, ← hmb] at n2
    have n2' := n2 (by rw [hmb]; omega)
    rw [updC_other _ _ n2']
    exact hc.no n n1 (fun hb => absurd hb hb0)
 ·rw [h.bound, h.last] at h1
  have hnx : M.next.bound = M.bound := by show (if M.bound ≤ M.last then M.last + 16 else M.bound) = _; rw [if_neg (by omega)]
  refine ⟨rfl, by rw [h.last], ⟨h.down, ⟨C, ?_, ⟨hc.box, ?_, ?_⟩⟩, by show d.last + 1 = M.last + 1; rw [h.last], by show d.bound = _; rw [h.bound, hnx], ?_, h.whr⟩⟩
  ·have hfe : M.next.files = M.files := by unfold ModD.files; rw [hnx]; rfl
   rw [hfe]; exact hv
  ·rw [hnx]; exact hc.ids
  ·rw [hnx]; exact hc.no
  ·show d.nfile = _
   rw [hnx]; exact h.nf
theorem add_same (h : Same14 d M) (hi : ModI T M) (hT : T ≤ 198) (hg : goodM m = true) (hp : m.parent ≤ M.last) (ha : AddR d m er id d') : er = (M.add m).2.1 ∧ id = (M.add m).1 ∧ Same14 d' (M.add m).2.2 := by
 have hl := hi.last
 obtain ⟨e1, id1, d1, hn, ha⟩ := ha
 obtain ⟨rfl, rfl, h1⟩ := next_same h hi (by omega) hn
 have hi1 : ModI (T + 1) M.next := by
  refine ⟨hi.asc, fun b hb => ?_, hi.q, hi.good, fun b hb => ⟨(hi.ks b hb).1, by have := (hi.ks b hb).2; omega⟩, by have := hi.n; show M.list.length ≤ T + 1; omega, by show 0 ≤ M.last + 1 ∧ M.last + 1 ≤ ((T + 1 : Nat) : Int); omega, ?_, ?_, hi.room⟩
  ·have := hi.id b hb
   show 1 ≤ b.m.id ∧ b.m.id ≤ M.last + 1
   omega
  ·have := hi.lb
   show M.last + 1 ≤ if M.bound ≤ M.last then M.last + 16 else M.bound
   split <;> omega
  ·have := hi.bd
   show (if M.bound ≤ M.last then M.last + 16 else M.bound) ≤ M.last + 1 + 16
   split <;> omega
 rcases ha with ⟨h2, _⟩ | ⟨_, e2, fs2, ho, h3⟩
 ·exact absurd rfl h2
 ·obtain ⟨C, hv, hc⟩ := h1.vw
  have hgd : MailD.good { m with id := M.last + 1 } = true := good_at hg (by omega) (by omega)
  have hen : encD ({ m with id := M.last + 1 } : MailD) = ({ m with id := M.last + 1 } : MailD).record := by unfold encD; rw [if_pos hgd]
  rw [hen] at ho
  have hid : 1 ≤ M.last + 1 ∧ M.last + 1 ≤ 999999999 := by omega
  have hnoid : ∀ b ∈ M.next.list, b.m.id ≠ M.last + 1 := fun b hb => by have := (hi.id b hb).2; omega
  have ht : C (nameD 116 (M.last + 1)) = none := hc.free hi1 (by omega) (by decide) hid (fun b hb _ => hnoid b hb)
  have hi0 : C (nameD 105 (M.last + 1)) = none := hc.free hi1 (by omega) (by decide) hid (fun b hb _ => hnoid b hb)
  have hrt := rightD_nameD (q := 116) (n := M.last + 1) (by decide) hid.1 hid.2
  have hri := rightD_nameD (q := 105) (n := M.last + 1) (by decide) hid.1 hid.2
  have hne : nameD 116 (M.last + 1) ≠ nameD 105 (M.last + 1) := nameD_ne (by decide) (by decide) hid.1 hid.2 (by decide)
  have hfl : M.next.files ≤ 202 := by have := hi.n; unfold ModD.files; have : M.next.list = M.list := rfl; rw [this]; split <;> omega
  have hus : M.next.used = M.used := rfl
  unfold ModD.add
  obtain ⟨R, hR⟩ : ∃ R, MailD.record { m with id := M.last + 1 } = R := ⟨_, rfl⟩
  rw [hR] at ho ⊢
  by_cases hfull : M.room - (M.used : Int) < (R.length : Int)
  ·rw [if_pos hfull]
   obtain ⟨rfl, hv2⟩ := hv.lay_full hrt ht (by omega) (by rw [hus]; exact hfull) ho
   rcases h3 with ⟨h4, _⟩ | ⟨_, h4, _⟩ | ⟨_, rfl, rfl, v, lv, rfl⟩
   ·cases h4
   ·exact absurd rfl h4
   ·obtain ⟨q1, q2⟩ := hv2.unlink (b := []) hrt (updC_same _ _ _) v lv
    refine ⟨rfl, rfl, ⟨?_, ⟨_, q2, ⟨fun b hb => ?_, fun hb => ?_, fun n n1 n2 => ?_⟩⟩, h1.last, h1.bound, h1.nf, h1.whr⟩⟩
    ·show (d1.down || decide _) = false
     rw [h1.down, q1]; rfl
    ·have hn1 : nameD 116 (M.last + 1) ≠ b.nm := fun e => by have := hc.box b hb; rw [← e, ht] at this; cases this
     rw [updC_other _ _ hn1, updC_other _ _ hn1]; exact hc.box b hb
    ·have hn1 : nameD 116 (M.last + 1) ≠ idsNameD M.next.bound := fun e => by have := hc.ids hb; rw [← e, ht] at this; cases this
     rw [updC_other _ _ hn1, updC_other _ _ hn1]; exact hc.ids hb
    ·by_cases hx : nameD 116 (M.last + 1) = n
     ·rw [hx, updC_same]
     ·rw [updC_other _ _ hx, updC_other _ _ hx]; exact hc.no n n1 n2
  ·rw [if_neg hfull]
   obtain ⟨rfl, hv2⟩ := hv.lay hrt hri hne ht (by omega) (by rw [hus]; show (R.length : Int) ≤ M.room - (M.used : Int); omega) ho
   rw [hi0] at hv2
   rcases h3 with ⟨_, rfl, rfl, rfl⟩ | ⟨h4, _⟩ | ⟨h4, _⟩
   ·have hbn : (⟨{ m with id := M.last + 1 }, 105, []⟩ : BoxD).nm = nameD 105 (M.last + 1) := rfl
    refine ⟨rfl, rfl, ⟨h1.down, ⟨updC C (nameD 105 (M.last + 1)) (some R), ?_, ⟨fun b hb => ?_, fun hb => ?_, fun n n1 n2 => ?_⟩⟩, h1.last, h1.bound, h1.nf, ?_⟩⟩
    ·have e1 : ({ M.next with list := M.list ++ [⟨{ m with id := M.last + 1 }, 105, []⟩] } : ModD).files = M.next.files + 1 := by
      unfold ModD.files
      show (M.list ++ [_]).length + (if 0 < M.next.bound then 1 else 0) = M.list.length + (if 0 < M.next.bound then 1 else 0) + 1
      rw [List.length_append, List.length_singleton]; omega
     have e2 : ({ M.next with list := M.list ++ [⟨{ m with id := M.last + 1 }, 105, []⟩] } : ModD).used = M.next.used + R.length - 0 := by
      show usedTo (M.list ++ [_]) = usedTo M.list + _ - 0
      rw [usedTo_snoc]
      show _ + (MailD.record { m with id := M.last + 1 }).length + 28 * 0 = _
      rw [hR]; omega
     rw [e1, e2]
     exact hv2
    ·rcases List.mem_append.1 hb with hb | hb
     ·have hn1 : nameD 105 (M.last + 1) ≠ b.nm := fun e => by have := hc.box b hb; rw [← e, hi0] at this; cases this
      rw [updC_other _ _ hn1]; exact hc.box b hb
     ·rw [List.mem_singleton.1 hb, hbn, updC_same]
      show some R = some (MailD.record { m with id := M.last + 1 } ++ bytesM [])
      rw [hR, show bytesM [] = [] from rfl, List.append_nil]
    ·have hn1 : nameD 105 (M.last + 1) ≠ idsNameD M.next.bound := fun e => by have := hc.ids hb; rw [← e, hi0] at this; cases this
     show updC C _ _ (idsNameD M.next.bound) = _
     rw [updC_other _ _ hn1]; exact hc.ids hb
    ·have hx : nameD 105 (M.last + 1) ≠ n := fun e => n1 _ (List.mem_append_right _ (List.mem_singleton.2 rfl)) (by rw [hbn]; exact e)
     rw [updC_other _ _ hx]
     exact hc.no n (fun b hb => n1 b (List.mem_append_left _ hb)) n2
    ·show d1.whr.put (M.last + 1) 105 = whM (M.list ++ [_])
     rw [h1.whr]
     show (whM M.list).put (M.last + 1) 105 = _
     rw [wh_put_end (fun b hb => by have := (hi.id b hb).2; omega)]
     unfold whM
     rw [List.map_append]; rfl
   ·exact absurd rfl h4
   ·cases h4
end
end Go.Proofs.YtffnbkmigapmjaaGreatDoor

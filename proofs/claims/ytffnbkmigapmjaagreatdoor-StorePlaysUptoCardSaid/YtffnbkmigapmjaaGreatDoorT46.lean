/-
  Mark, Move, Drop, Bounce of a store that is as the model has it (plain).
  A crash of a disk, as data; the walk of fs.Fuse.
  How many bytes of each file are sure (plain); a disk whose all is sure; what a crash leaves of it.
  Opening a disk of one file: what the store is then (plain).
-/
import Derived.Test.YtffnbkmigapmjaaGreatDoorT17
import Derived.Test.YtffnbkmigapmjaaGreatDoorT35
import Derived.Test.YtffnbkmigapmjaaGreatDoorT44
import Derived.Test.YtffnbkmigapmjaaGreatDoorT45
set_option linter.unusedSimpArgs false
set_option linter.unusedVariables false
set_option maxRecDepth 100000
namespace Go.Proofs.YtffnbkmigapmjaaGreatDoor
theorem list_set_same {α : Type} : ∀ {l : List α} {k : Nat} {b : α}, l[k]? = some b → l.set k b = l
 | a :: l, 0, b, h => by cases h; rfl
 | a :: l, k + 1, b, h => by rw [List.set_cons_succ, list_set_same (l := l) (k := k) h]
theorem bytesM_snoc' (ks : List MarkD) (k : MarkD) (a : List UInt8) : a ++ bytesM ks ++ k.bytes = a ++ bytesM (ks ++ [k]) := by
 unfold bytesM; rw [List.flatMap_append, List.append_assoc, List.flatMap_cons, List.flatMap_nil, List.append_nil]
section
variable {T : Nat} {M : ModD} {d d' : StoD} {er id : Int} {m : MailD}
theorem ModI.setBox (hi : ModI T M) {k : Nat} {b y : BoxD} (hb : M.list[k]? = some b) (hm : y.m = b.m) (hq : keepQ.contains y.q = true) (hks : (∀ k ∈ y.ks, k.good = true) ∧ y.ks.length ≤ T + 1) : ModI (T + 1) { M with list := M.list.set k y } := by
 have hbm := List.mem_of_getElem? hb
 have hx : ∀ x ∈ M.list.set k y, x = y ∨ x ∈ M.list := fun x hx => (set_mem hi.asc hb hx).imp_right (·.1)
 refine ⟨asc_set hi.asc hb (by rw [hm]), fun x h => ?_, fun x h => ?_, fun x h => ?_, fun x h => ?_, by show (M.list.set k y).length ≤ T + 1; rw [List.length_set]; have := hi.n; omega, by have := hi.last; show 0 ≤ M.last ∧ M.last ≤ ((T + 1 : Nat) : Int); omega, hi.lb, hi.bd, hi.room⟩
 ·rcases hx x h with rfl | h
  ·rw [hm]; exact hi.id b hbm
  ·exact hi.id x h
 ·rcases hx x h with rfl | h
  ·exact hq
  ·exact hi.q x h
 ·rcases hx x h with rfl | h
  ·rw [hm]; exact hi.good b hbm
  ·exact hi.good x h
 ·rcases hx x h with rfl | h
  ·exact hks
  ·exact ⟨(hi.ks x h).1, by have := (hi.ks x h).2; omega⟩
theorem ParOk.setBox (hp : ParOk M) (hi : ModI T M) {k : Nat} {b y : BoxD} (hb : M.list[k]? = some b) (hm : y.m = b.m) : ParOk { M with list := M.list.set k y } := by
 have hbm := List.mem_of_getElem? hb
 have hx : ∀ x ∈ M.list.set k y, ∃ z ∈ M.list, x.m = z.m := fun x hx => by
  rcases set_mem hi.asc hb hx with rfl | ⟨h, _⟩
  ·exact ⟨b, hbm, hm⟩
  ·exact ⟨x, h, rfl⟩
 intro x h z h'
 obtain ⟨x', h1, e1⟩ := hx x h
 obtain ⟨z', h2, e2⟩ := hx z h'
 rw [e1, e2]
 exact hp x' h1 z' h2
theorem files_set (k : Nat) (y : BoxD) : ({ M with list := M.list.set k y } : ModD).files = M.files := by
 unfold ModD.files
 show (M.list.set k y).length + _ = _
 rw [List.length_set]
theorem mark_same {k : MarkD} (h : Same14 d M) (hi : ModI T M) (hT : T ≤ 198) (hm : MarkR d id k er d') :
 er = (M.mark id k).1 ∧ Same14 d' (M.mark id k).2 ∧ ModI (T + 1) (M.mark id k).2 ∧ (ParOk M → ParOk (M.mark id k).2) := by
 have hi1 := hi.mono (T' := T + 1) (by omega)
 have ha := h.atD id
 unfold ModD.mark
 rcases hm with ⟨h1, rfl, rfl⟩ | ⟨h1, hm⟩
 ·rw [if_neg (by rw [h1]; decide)]
  exact ⟨rfl, h, hi1, _root_.id⟩
 ·rw [if_pos h1]
  rcases hi.at_cases id with ⟨e, _, ew⟩ | ⟨j, b, e, hb, hbm, hid, ew⟩
  ·rw [ew, if_neg (by decide)] at ha
   rw [ha] at hm
   rw [e, if_pos (by decide)]
   rcases hm with ⟨_, rfl, rfl⟩ | ⟨h2, _⟩
   ·exact ⟨rfl, h, hi1, _root_.id⟩
   ·cases h2
  ·rw [ew, if_pos (hi.q b hbm)] at ha
   rw [ha] at hm
   rw [e, if_neg (by omega)]
   rcases hm with ⟨h2, _⟩ | ⟨_, fs2, ho, rfl⟩
   ·exact absurd rfl h2
   ·obtain ⟨C, hv, hc⟩ := h.vw
    have hkl := bytes_length k
    have hnm : nameD b.q id = b.nm := by rw [← hid]; rfl
    have hr := hi.nmr (by omega) hbm
    have hcb := hc.box b hbm
    have ho : Outcome (mrkS (nameD b.q id) k.bytes) 2 d.fs er fs2 := ho
    rw [hnm] at ho
    by_cases hfull : M.room - (M.used : Int) < 28
    ·rw [if_pos hfull]
     obtain ⟨rfl, rfl⟩ := hv.mrk_full hr hcb (by omega) ho
     refine ⟨rfl, ⟨?_, ⟨C, hv, hc⟩, h.last, h.bound, h.nf, h.whr⟩, hi1, _root_.id⟩
     show (d.down || decide ((3 : Int) = 2)) = false
     rw [h.down]; rfl
    ·rw [if_neg hfull]
     obtain ⟨rfl, hv2⟩ := hv.mrk hr hcb (by omega) ho
     have hu : M.upd id (fun b => { b with ks := b.ks ++ [k] }) = { M with list := M.list.set j { b with ks := b.ks ++ [k] } } := by
      unfold ModD.upd
      rw [e, Int.toNat_natCast, modify_at hb]
     rw [hu]
     refine ⟨rfl, ⟨?_, ⟨updC C b.nm (some (b.bytes ++ k.bytes)), ?_, ⟨fun x hx => ?_, fun hb0 => ?_, fun n n1 n2 => ?_⟩⟩, h.last, h.bound, h.nf, ?_⟩, ?_, fun hp => hp.setBox hi hb rfl⟩
     ·show (d.down || decide ((0 : Int) = 2)) = false
      rw [h.down]; rfl
     ·rw [files_set]
      have hus : ({ M with list := M.list.set j { b with ks := b.ks ++ [k] } } : ModD).used = M.used + k.bytes.length := by
       have := used_set (y := { b with ks := b.ks ++ [k] }) hb
       have hl : ({ b with ks := b.ks ++ [k] } : BoxD).len = b.len + 28 := by
        show b.m.record.length + 28 * (b.ks ++ [k]).length = b.m.record.length + 28 * b.ks.length + 28
        rw [List.length_append, List.length_singleton]; omega
       rw [hl] at this
       show usedTo (M.list.set j { b with ks := b.ks ++ [k] }) = usedTo M.list + k.bytes.length
       rw [hkl]; omega
      rw [hus]
      exact hv2
     ·rcases set_mem hi.asc hb hx with rfl | ⟨hx, hne⟩
      ·show updC C b.nm _ b.nm = _
       rw [updC_same]
       unfold BoxD.bytes
       rw [bytesM_snoc']
      ·rw [updC_other _ _ (fun e => hne (by rw [hi.inj (by omega) hbm hx e]))]
       exact hc.box x hx
     ·have hn1 : b.nm ≠ idsNameD M.bound := fun e => by have := hc.ids hb0; rw [← e, hcb] at this; unfold BoxD.bytes at this; have h5 := congrArg (fun o => (o.map List.length).getD 0) this; simp only [Option.map_some, Option.getD_some, List.length_append, List.length_nil, record_length] at h5; omega
      show updC C _ _ (idsNameD M.bound) = _
      rw [updC_other _ _ hn1]; exact hc.ids hb0
     ·have hx : b.nm ≠ n := n1 { b with ks := b.ks ++ [k] } (set_self_mem hb)
      rw [updC_other _ _ hx]
      refine hc.no n (fun x hx1 => ?_) n2
      rcases mem_set' (y := { b with ks := b.ks ++ [k] }) hb hx1 with rfl | hx1
      ·exact hx
      ·exact n1 x hx1
     ·show d.whr = whM (M.list.set j _)
      rw [h.whr]
      unfold whM
      rw [List.map_set]
      show _ = (M.list.map (fun b => (b.m.id, b.q))).set j (b.m.id, b.q)
      exact (list_set_same (by rw [List.getElem?_map, hb]; rfl)).symm
     ·refine hi.setBox hb rfl (hi.q b hbm) ⟨fun x hx => ?_, ?_⟩
      ·rcases List.mem_append.1 hx with hx | hx
       ·exact (hi.ks b hbm).1 x hx
       ·rw [List.mem_singleton.1 hx]; exact h1
      ·show (b.ks ++ [k]).length ≤ T + 1
       rw [List.length_append, List.length_singleton]
       have := (hi.ks b hbm).2
       omega
theorem move_same {q : UInt8} (h : Same14 d M) (hi : ModI T M) (hT : T ≤ 198) (hm : MoveR d id q er d') :
 er = (M.move id q).1 ∧ Same14 d' (M.move id q).2 ∧ ModI (T + 1) (M.move id q).2 ∧ (ParOk M → ParOk (M.move id q).2) := by
 have hi1 := hi.mono (T' := T + 1) (by omega)
 have ha := h.atD id
 have hwk : workK.contains q = keepQ.contains q := rfl
 unfold ModD.move
 rw [hwk]
 rcases hm with ⟨h1, rfl, rfl⟩ | ⟨h1, hm⟩
 ·rw [if_neg (by rw [h1]; decide)]
  exact ⟨rfl, h, hi1, _root_.id⟩
 ·rw [if_pos h1]
  rcases hi.at_cases id with ⟨e, _, ew⟩ | ⟨j, b, e, hb, hbm, hid, ew⟩
  ·rw [ew, if_neg (by decide)] at ha
   rw [ha] at hm
   rw [e, if_pos (by decide)]
   rcases hm with ⟨_, rfl, rfl⟩ | ⟨h2, _⟩
   ·exact ⟨rfl, h, hi1, _root_.id⟩
   ·cases h2
  ·rw [ew, if_pos (hi.q b hbm)] at ha
   rw [ha] at hm
   rw [e, if_neg (by omega)]
   have hu : M.upd id (fun b => { b with q := q }) = { M with list := M.list.set j { b with q := q } } := by
    unfold ModD.upd
    rw [e, Int.toNat_natCast, modify_at hb]
   rw [hu]
   have hi2 : ModI (T + 1) { M with list := M.list.set j { b with q := q } } := hi.setBox hb rfl h1 ⟨(hi.ks b hbm).1, by have := (hi.ks b hbm).2; show b.ks.length ≤ T + 1; omega⟩
   rcases hm with ⟨h2, _⟩ | ⟨_, ⟨hq, rfl, rfl⟩ | ⟨hq, fs2, ho, hd⟩⟩
   ·exact absurd rfl h2
   ·have hq : b.q = q := hq
    have he : ({ M with list := M.list.set j { b with q := q } } : ModD) = M := by
     have : ({ b with q := q } : BoxD) = b := by rw [← hq]
     rw [this, list_set_same hb]
    rw [he] at hi2 ⊢
    exact ⟨rfl, h, hi2, _root_.id⟩
   ·have hq : b.q ≠ q := hq
    obtain ⟨C, hv, hc⟩ := h.vw
    have hnm : nameD b.q id = b.nm := by rw [← hid]; rfl
    have hb1 := hi.idb (by omega) hbm
    have hnm2 : nameD q id = nameD q b.m.id := by rw [hid]
    have ho : Outcome (renS (nameD b.q id) (nameD q id)) 2 d.fs er fs2 := ho
    rw [hnm, hnm2] at ho
    have hqa := keep_q h1
    have hr := hi.nmr (by omega) hbm
    have hr2 := rightD_nameD hqa.1 hb1.1 hb1.2
    have hne : b.nm ≠ nameD q b.m.id := nameD_ne (keep_q (hi.q b hbm)).1 hqa.1 hb1.1 hb1.2 hq
    have hcb := hc.box b hbm
    have hfree : C (nameD q b.m.id) = none := hc.free hi (by omega) hqa.1 hb1 (fun x hx hxq hxi => hq (by rw [← hxq, asc_inj hi.asc x hx b hbm hxi]))
    obtain ⟨rfl, hv2⟩ := hv.renS hr hr2 hne hcb ho
    rw [hfree] at hv2
    rcases hd with ⟨h3, _⟩ | ⟨_, rfl⟩
    ·exact absurd rfl h3
    ·refine ⟨rfl, ⟨h.down, ⟨updC (updC C (nameD q b.m.id) (some b.bytes)) b.nm none, ?_, ⟨fun x hx => ?_, fun hb0 => ?_, fun n n1 n2 => ?_⟩⟩, h.last, h.bound, h.nf, ?_⟩, hi2, fun hp => hp.setBox hi hb rfl⟩
     ·rw [files_set]
      have hus : ({ M with list := M.list.set j { b with q := q } } : ModD).used = M.used - 0 := by
       have := used_set (y := { b with q := q }) hb
       have hl : ({ b with q := q } : BoxD).len = b.len := rfl
       rw [hl] at this
       show usedTo (M.list.set j { b with q := q }) = usedTo M.list - 0
       omega
      rw [hus]
      exact hv2
     ·rcases set_mem hi.asc hb hx with rfl | ⟨hx, hxi⟩
      ·show updC (updC C (nameD q b.m.id) _) b.nm none (nameD q b.m.id) = _
       rw [updC_other _ _ hne, updC_same]; rfl
      ·have e1 : b.nm ≠ x.nm := fun e => hxi (by rw [hi.inj (by omega) hbm hx e])
       have e2 : nameD q b.m.id ≠ x.nm := fun e => by have := hc.box x hx; rw [← e, hfree] at this; cases this
       rw [updC_other _ _ e1, updC_other _ _ e2]
       exact hc.box x hx
     ·have e1 : b.nm ≠ idsNameD M.bound := fun e => ids_ne_name (by have := hi.last; have := hi.bd; have := hi.lb; omega) b.q b.m.id e.symm
      have e2 : nameD q b.m.id ≠ idsNameD M.bound := fun e => ids_ne_name (by have := hi.last; have := hi.bd; have := hi.lb; omega) q b.m.id e.symm
      show updC _ _ _ (idsNameD M.bound) = _
      rw [updC_other _ _ e1, updC_other _ _ e2]
      exact hc.ids hb0
     ·have e2 : nameD q b.m.id ≠ n := n1 { b with q := q } (set_self_mem hb)
      by_cases e1 : b.nm = n
      ·rw [e1, updC_same]
      ·rw [updC_other _ _ e1, updC_other _ _ e2]
       refine hc.no n (fun x hx1 => ?_) n2
       rcases mem_set' (y := { b with q := q }) hb hx1 with rfl | hx1
       ·exact e1
       ·exact n1 x hx1
     ·show d.whr.put id q = _
      rw [h.whr, ← hid]
      exact wh_put_set hi.asc hb
theorem drop_same (h : Same14 d M) (hi : ModI T M) (hT : T ≤ 198) (hm : DropR d id er d') :
 er = (M.drop id).1 ∧ Same14 d' (M.drop id).2 ∧ ModI T (M.drop id).2 ∧ (ParOk M → ParOk (M.drop id).2) := by
 have ha := h.atD id
 unfold ModD.drop
 rcases hi.at_cases id with ⟨e, _, ew⟩ | ⟨j, b, e, hb, hbm, hid, ew⟩
 ·rw [ew, if_neg (by decide)] at ha
  unfold DropR at hm
  rw [ha] at hm
  rw [e, if_pos (by decide)]
  rcases hm with ⟨_, rfl, rfl⟩ | ⟨h2, _⟩
  ·exact ⟨rfl, h, hi, _root_.id⟩
  ·cases h2
 ·rw [ew, if_pos (hi.q b hbm)] at ha
  unfold DropR at hm
  rw [ha] at hm
  rw [e, if_neg (by omega), Int.toNat_natCast]
  rcases hm with ⟨h2, _⟩ | ⟨_, fs2, ho, hd⟩
  ·exact absurd rfl h2
  ·obtain ⟨C, hv, hc⟩ := h.vw
   have hnm : nameD b.q id = b.nm := by rw [← hid]; rfl
   have ho : Outcome (unlS (nameD b.q id)) 2 d.fs er fs2 := ho
   rw [hnm] at ho
   have hr := hi.nmr (by omega) hbm
   have hcb := hc.box b hbm
   obtain ⟨rfl, hv2⟩ := hv.unl hr hcb ho
   have hem : ∀ x ∈ M.list.eraseIdx j, x ∈ M.list ∧ x.m.id ≠ b.m.id := fun x hx => erase_mem hi.asc hb hx
   rcases hd with ⟨h3, _⟩ | ⟨_, rfl⟩
   ·exact absurd rfl h3
   ·refine ⟨rfl, ⟨h.down, ⟨updC C b.nm none, ?_, ⟨fun x hx => ?_, fun hb0 => ?_, fun n n1 n2 => ?_⟩⟩, h.last, h.bound, h.nf, ?_⟩, ⟨hi.asc.sublist (List.eraseIdx_sublist _ _), fun x hx => hi.id x (hem x hx).1, fun x hx => hi.q x (hem x hx).1, fun x hx => hi.good x (hem x hx).1, fun x hx => hi.ks x (hem x hx).1, Nat.le_trans (List.Sublist.length_le (List.eraseIdx_sublist _ _)) hi.n, hi.last, hi.lb, hi.bd, hi.room⟩, fun hp x hx y hy => hp x (hem x hx).1 y (hem y hy).1⟩
    ·have hj : j < M.list.length := (List.getElem?_eq_some_iff.1 hb).1
     have e1 : ({ M with list := M.list.eraseIdx j } : ModD).files = M.files - 1 := by
      unfold ModD.files
      show (M.list.eraseIdx j).length + (if 0 < M.bound then 1 else 0) = M.list.length + (if 0 < M.bound then 1 else 0) - 1
      rw [List.length_eraseIdx, if_pos hj]; omega
     have e2 : ({ M with list := M.list.eraseIdx j } : ModD).used = M.used - b.bytes.length := by
      have := used_erase hb
      show usedTo (M.list.eraseIdx j) = usedTo M.list - b.bytes.length
      rw [BoxD.bytes_len]; omega
     rw [e1, e2]
     exact hv2
    ·obtain ⟨hx, hxi⟩ := hem x hx
     rw [updC_other _ _ (fun e => hxi (by rw [hi.inj (by omega) hbm hx e]))]
     exact hc.box x hx
    ·have e1 : b.nm ≠ idsNameD M.bound := fun e => ids_ne_name (by have := hi.last; have := hi.bd; have := hi.lb; omega) b.q b.m.id e.symm
     show updC _ _ _ (idsNameD M.bound) = _
     rw [updC_other _ _ e1]
     exact hc.ids hb0
    ·by_cases e1 : b.nm = n
     ·rw [e1, updC_same]
     ·rw [updC_other _ _ e1]
      refine hc.no n (fun x hx1 => ?_) n2
      rcases mem_erase hb hx1 with rfl | hx1
      ·exact e1
      ·exact n1 x hx1
    ·show d.whr.del id = _
     rw [h.whr, ← hid]
     exact wh_del_erase hi.asc hb
end
end Go.Proofs.YtffnbkmigapmjaaGreatDoor
set_option maxRecDepth 100000
namespace Go.Proofs.YtffnbkmigapmjaaGreatDoor
open Go.RowKit Go.Maps
def sureTo (b : Nat) (c : FileC) : Nat := c.sure + min b (c.bytes.length - c.sure)
structure Cut1 (b : Nat) (c c' : FileC) : Prop where
 bytes : c'.bytes = c.bytes.take (sureTo b c)
 sure : c'.sure = sureTo b c
theorem sureTo_le {b : Nat} {c : FileC} (h : c.sure ≤ c.bytes.length) : sureTo b c ≤ c.bytes.length := by unfold sureTo; omega
theorem Cut1.len {b : Nat} {c c' : FileC} (h : Cut1 b c c') (hs : c.sure ≤ c.bytes.length) : c'.bytes.length = sureTo b c := by
 rw [h.bytes, List.length_take]; have := sureTo_le (b := b) hs; omega
theorem Cut1.again {b : Nat} {c c' c'' : FileC} (h : Cut1 b c c') (hs : c.sure ≤ c.bytes.length) (h' : Cut1 b c' c'') : Cut1 b c c'' := by
 have hl := h.len hs
 have e : sureTo b c' = sureTo b c := by
  have : sureTo b c' = c'.sure + min b (c'.bytes.length - c'.sure) := rfl
  rw [this, hl, h.sure]; omega
 refine ⟨?_, ?_⟩
 ·rw [h'.bytes, e, h.bytes, List.take_take, Nat.min_self]
 ·rw [h'.sure, e]
def CutF (b : Nat) (F G : Nat → Option FileC) (P : Nat → Prop) : Prop :=
 ∀ x, (F x = none → G x = none) ∧ ∀ c, F x = some c → ∃ c', G x = some c' ∧ (Cut1 b c c' ∨ (c' = c ∧ ¬ P x))
theorem CutF.start {b : Nat} {F : Nat → Option FileC} {P : Nat → Prop} (h : ∀ x, ¬ P x) : CutF b F F P := fun x => ⟨id, fun c hc => ⟨c, hc, .inr ⟨rfl, h x⟩⟩⟩
theorem CutF.step {b : Nat} {F G : Nat → Option FileC} {P Q : Nat → Prop} {x : Nat} {c c' : FileC} (hs : ∀ c, F x = some c → c.sure ≤ c.bytes.length) (h : CutF b F G P) (hx : G x = some c) (hc : Cut1 b c c') (hq : ∀ y, Q y → P y ∨ y = x) :
 CutF b F (fun k => if k = x then some c' else G k) Q := by
 intro y
 by_cases e : y = x
 ·subst e
  refine ⟨fun h0 => ?_, fun c0 h0 => ⟨c', if_pos rfl, .inl ?_⟩⟩
  ·have := (h y).1 h0; rw [hx] at this; cases this
  ·obtain ⟨c1, h1, h2⟩ := (h y).2 c0 h0
   rw [hx] at h1; cases h1
   rcases h2 with h2 | ⟨h2, _⟩
   ·exact h2.again (hs _ h0) hc
   ·rw [← h2]; exact hc
 ·refine ⟨fun h0 => (if_neg e).trans ((h y).1 h0), fun c0 h0 => ?_⟩
  obtain ⟨c1, h1, h2⟩ := (h y).2 c0 h0
  refine ⟨c1, (if_neg e).trans h1, ?_⟩
  rcases h2 with h2 | ⟨h2, h3⟩
  ·exact .inl h2
  ·exact .inr ⟨h2, fun q => (hq y q).elim h3 e⟩
end Go.Proofs.YtffnbkmigapmjaaGreatDoor
set_option maxRecDepth 100000
namespace Go.Proofs.YtffnbkmigapmjaaGreatDoor
section
variable {d : FsD} {C : Cont} {N U : Nat} {R : Int}
end
section
variable {α : Type} {S : α → StoD → Int → StoD → Prop}
theorem outL_none {d d' : StoD} {er : Int} {l : List α} (h0 : ∀ x ∈ l, ∀ a er b, S x a er b → er = 0 ∧ b = a) (h : OutL S l d er d') : er = 0 ∧ d' = d := by
 have hr : ∀ {l1 : List α} {d1 : StoD}, RunL S d l1 d1 → (∀ x ∈ l1, x ∈ l) → d1 = d := by
  intro l1 d1 h1
  induction h1 with
  | nil => exact fun _ => rfl
  | snoc h2 h3 ih => exact fun hm => by rw [(h0 _ (hm _ (List.mem_append_right _ (List.mem_singleton.2 rfl))) _ _ _ h3).2]; exact ih (fun x hx => hm x (List.mem_append_left _ hx))
 rcases h with ⟨rfl, h⟩ | ⟨hne, j, x, dj, h1, h2, h3⟩
 ·exact ⟨rfl, hr h (fun _ hx => hx)⟩
 ·exact absurd (h0 x (List.mem_of_getElem? h1) _ _ _ h3).1 hne
end
end Go.Proofs.YtffnbkmigapmjaaGreatDoor
set_option maxRecDepth 100000
namespace Go.Proofs.YtffnbkmigapmjaaGreatDoor
theorem recS_inv {nm : Nm} {q : UInt8} {id er : Int} {d d' : StoD} (hn : StoOf nm q id) (h : RecS nm d er d') :
 (keepQ.contains q = false ∧ er = 0 ∧ d' = { d with whr := d.whr.put id q }) ∨ (keepQ.contains q = true ∧ MendR { d with whr := d.whr.put id q } q id er d') := by
 rcases h with ⟨h0, _⟩ | ⟨q', m, hm, h⟩
 ·exact absurd hn (h0 q id)
 ·obtain ⟨rfl, rfl⟩ := StoOf.inj hn hm
  exact h
end Go.Proofs.YtffnbkmigapmjaaGreatDoor

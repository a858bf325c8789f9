/- Printed out of the texts of wip/tpl. -/
import Derived.Test.YtffnbkmigapmjaaGreatDoorT15
import Derived.Test.YtffnbkmigapmjaaGreatDoorT30
import Derived.Test.YtffnbkmigapmjaaGreatDoorT32
import Derived.Test.YtffnbkmigapmjaaGreatDoorT38
import Derived.Test.YtffnbkmigapmjaaGreatDoorT39
set_option linter.unusedSimpArgs false
set_option linter.unusedVariables false
set_option maxRecDepth 100000
namespace Go.Proofs.YtffnbkmigapmjaaGreatDoor
theorem list_set_same {α : Type} : ∀ {l : List α} {k : Nat} {b : α}, l[k]? = some b → l.set k b = l
 | a :: l, 0, b, h => by cases h; rfl
 | a :: l, k + 1, b, h => by rw [List.set_cons_succ, list_set_same (l := l) (k := k) h]
theorem bytesM_snoc' (ks : List MarkD) (k : MarkD) (a : List UInt8) : a ++ bytesM ks ++ k.bytes = a ++ bytesM (ks ++ [k]) := by
 unfold bytesM; rw [List.flatMap_append, List.append_assoc, List.flatMap_cons, List.flatMap_nil, List.append_nil]
section
variable {T : Nat} {M : ModD} {d d' : StoD} {er id : Int} {m : MailD}
theorem ModI.setBox (hi : ModI T M) {k : Nat} {b y : BoxD} (hb : M.list[k]? = some b) (hm : y.m = b.m) (hq : keepQ.contains y.q = true) (hks : (∀ k ∈ y.ks, k.good = true) ∧ y.ks.length ≤ T + 1) : ModI (T + 1) { M with list := M.list.set k y } := by
 have hbm := List.mem_of_getElem? hb
 have hx : ∀ x ∈ M.list.set k y, x = y ∨ x ∈ M.list := fun x hx => (set_mem hi.asc hb hx).imp_right (·.1)
 refine ⟨asc_set hi.asc hb (by rw [hm]), fun x h => ?_, fun x h => ?_, fun x h => ?_, fun x h => ?_, by show (M.list.set k y).length ≤ T + 1; rw [List.length_set]; have := hi.n; omega, by have := hi.last; show 0 ≤ M.last ∧ M.last ≤ ((T + 1 : Nat) : Int); omega, hi.lb, hi.bd, hi.room⟩
 ·rcases hx x h with rfl | h
  ·rw [hm]; exact hi.id b hbm
  ·exact hi.id x h
 ·rcases hx x h with rfl | h
  ·exact hq
  ·exact hi.q x h
 ·rcases hx x h with rfl | h
  ·rw [hm]; exact hi.good b hbm
  ·exact hi.good x h
 ·rcases hx x h with rfl | h
  ·exact hks
  ·exact ⟨(hi.ks x h).1, by have := (hi.ks x h).2; omega⟩
theorem ParOk.setBox (hp : ParOk M) (hi : ModI T M) {k : Nat} {b y : BoxD} (hb : M.list[k]? = some b) (hm : y.m = b.m) : ParOk { M with list := M.list.set k y } := by
 have hbm := List.mem_of_getElem? hb
 have hx : ∀ x ∈ M.list.set k y, ∃ z ∈ M.list, x.m = z.m := fun x hx => by
  rcases set_mem hi.asc hb hx with rfl | ⟨h, _⟩
  ·exact ⟨b, hbm, hm⟩
  ·exact ⟨x, h, rfl⟩
 intro x h z h'
 obtain ⟨x', h1, e1⟩ := hx x h
 obtain ⟨z', h2, e2⟩ := hx z h'
 rw [e1, e2]
 exact hp x' h1 z' h2
theorem files_set (k : Nat) (y : BoxD) : ({ M with list := M.list.set k y } : ModD).files = M.files := by
 unfold ModD.files
 show (M.list.set k y).length + _ = _
 rw [List.length_set]
theorem mark_same {k : MarkD} (h : Same14 d M) (hi : ModI T M) (hT : T ≤ 198) (hm : MarkR d id k er d') :
 er = (M.mark id k).1 ∧ Same14 d' (M.mark id k).2 ∧ ModI (T + 1) (M.mark id k).2 ∧ (ParOk M → ParOk (M.mark id k).2) := by
 have hi1 := hi.mono (T' := T + 1) (by omega)
 have ha := h.atD id
 unfold ModD.mark
 rcases hm with ⟨h1, rfl, rfl⟩ | ⟨h1, hm⟩
 ·rw [if_neg (by rw [h1]; decide)]
  exact ⟨rfl, h, hi1, _root_.id⟩
 ·rw [if_pos h1]
  rcases hi.at_cases id with ⟨e, _, ew⟩ | ⟨j, b, e, hb, hbm, hid, ew⟩
  ·rw [ew, if_neg (by decide)] at ha
   rw [ha] at hm
   rw [e, if_pos (by decide)]
   rcases hm with ⟨_, rfl, rfl⟩ | ⟨h2, _⟩
   ·exact ⟨rfl, h, hi1, _root_.id⟩
   ·cases h2
  ·rw [ew, if_pos (hi.q b hbm)] at ha
   rw [ha] at hm
   rw [e, if_neg (by omega)]
   rcases hm with ⟨h2, _⟩ | ⟨_, fs2, ho, rfl⟩
   ·exact absurd rfl h2
   ·obtain ⟨C, hv, hc⟩ := h.vw
    have hkl := bytes_length k
    have hnm : nameD b.q id = b.nm := by rw [← hid]; rfl
    have hr := hi.nmr (by omega) hbm
    have hcb := hc.box b hbm
    have ho : Outcome (mrkS (nameD b.q id) k.bytes) 2 d.fs er fs2 := ho
    rw [hnm] at ho
    by_cases hfull : M.room - (M.used : Int) < 28
    ·rw [if_pos hfull]
     obtain ⟨rfl, rfl⟩ := hv.mrk_full hr hcb (by omega) ho
     refine ⟨rfl, ⟨?_, ⟨C, hv, hc⟩, h.last, h.bound, h.nf, h.whr⟩, hi1, _root_.id⟩
     show (d.down || decide ((3 : Int) = 2)) = false
     rw [h.down]; rfl
    ·rw [if_neg hfull]
     obtain ⟨rfl, hv2⟩ := hv.mrk hr hcb (by omega) ho
     have hu : M.upd id (fun b => { b with ks := b.ks ++ [k] }) = { M with list := M.list.set j { b with ks := b.ks ++ [k] } } := by
      unfold ModD.upd
      rw [e, Int.toNat_natCast, modify_at hb]
     rw [hu]
     refine ⟨rfl, ⟨?_, ⟨updC C b.nm (some (b.bytes ++ k.bytes)), ?_, ⟨fun x hx => ?_, fun hb0 => ?_, fun n n1 n2 => ?_⟩⟩, h.last, h.bound, h.nf, ?_⟩, ?_, fun hp => hp.setBox hi hb rfl⟩
     ·show (d.down || decide ((0 : Int) = 2)) = false
      rw [h.down]; rfl
     ·rw [files_set]
      have hus : ({ M with list := M.list.set j { b with ks := b.ks ++ [k] } } : ModD).used = M.used + k.bytes.length := by
       have := used_set (y := { b with ks := b.ks ++ [k] }) hb
       have hl : ({ b with ks := b.ks ++ [k] } : BoxD).len = b.len + 28 := by
        show b.m.record.length + 28 * (b.ks ++ [k]).length = b.m.record.length + 28 * b.ks.length + 28
        rw [List.length_append, List.length_singleton]; omega
       rw [hl] at this
       show usedTo (M.list.set j { b with ks := b.ks ++ [k] }) = usedTo M.list + k.bytes.length
       rw [hkl]; omega
      rw [hus]
      exact hv2
     ·rcases set_mem hi.asc hb hx with rfl | ⟨hx, hne⟩
      ·show updC C b.nm _ b.nm = _
       rw [updC_same]
       unfold BoxD.bytes
       rw [bytesM_snoc']
      ·rw [updC_other _ _ (fun e => hne (by rw [hi.inj (by omega) hbm hx e]))]
       exact hc.box x hx
     ·have hn1 : b.nm ≠ idsNameD M.bound := fun e => by have := hc.ids hb0; rw [← e, hcb] at this; unfold BoxD.bytes at this; have h5 := congrArg (fun o => (o.map List.length).getD 0) this; simp only [Option.map_some, Option.getD_some, List.length_append, List.length_nil, record_length] at h5; omega
      show updC C _ _ (idsNameD M.bound) = _
      rw [updC_other _ _ hn1]; exact hc.ids hb0
     ·have hx : b.nm ≠ n := n1 { b with ks := b.ks ++ [k] } (set_self_mem hb)
      rw [updC_other _ _ hx]
      refine hc.no n (fun x hx1 => ?_) n2
      rcases mem_set' (y := { b with ks := b.ks ++ [k] }) hb hx1 with rfl | hx1
      ·exact hx
      ·exact n1 x hx1
     ·show d.whr = whM (M.list.set j _)
      rw [h.whr]
      unfold whM
      rw [List.map_set]
      show _ = (M.list.map (fun b => (b.m.id, b.q))).set j (b.m.id, b.q)
      exact (list_set_same (by rw [List.getElem?_map, hb]; rfl)).symm
     ·refine hi.setBox hb rfl (hi.q b hbm) ⟨fun x hx => ?_, ?_⟩
      ·rcases List.mem_append.1 hx with hx | hx
       ·exact (hi.ks b hbm).1 x hx
       ·rw [List.mem_singleton.1 hx]; exact h1
      ·show (b.ks ++ [k]).length ≤ T + 1
       rw [List.length_append, List.length_singleton]
       have := (hi.ks b hbm).2
       omega
theorem move_same {q : UInt8} (h : Same14 d M) (hi : ModI T M) (hT : T ≤ 198) (hm : MoveR d id q er d') :
 er = (M.move id q).1 ∧ Same14 d' (M.move id q).2 ∧ ModI (T + 1) (M.move id q).2 ∧ (ParOk M → ParOk (M.move id q).2) := by
 have hi1 := hi.mono (T' := T + 1) (by omega)
 have ha := h.atD id
 have hwk : workK.contains q = keepQ.contains q := rfl
 unfold ModD.move
 rw [hwk]
 rcases hm with ⟨h1, rfl, rfl⟩ | ⟨h1, hm⟩
 ·rw [if_neg (by rw [h1]; decide)]
  exact ⟨rfl, h, hi1, _root_.id⟩
 ·rw [if_pos h1]
  rcases hi.at_cases id with ⟨e, _, ew⟩ | ⟨j, b, e, hb, hbm, hid, ew⟩
  ·rw [ew, if_neg (by decide)] at ha
   rw [ha] at hm
   rw [e, if_pos (by decide)]
   rcases hm with ⟨_, rfl, rfl⟩ | ⟨h2, _⟩
   ·exact ⟨rfl, h, hi1, _root_.id⟩
   ·cases h2
  ·rw [ew, if_pos (hi.q b hbm)] at ha
   rw [ha] at hm
   rw [e, if_neg (by omega)]
   have hu : M.upd id (fun b => { b with q := q }) = { M with list := M.list.set j { b with q := q } } := by
    unfold ModD.upd
    rw [e, Int.toNat_natCast, modify_at hb]
   rw [hu]
   have hi2 : ModI (T + 1) { M with list := M.list.set j { b with q := q } } := hi.setBox hb rfl h1 ⟨(hi.ks b hbm).1, by have := (hi.ks b hbm).2; show b.ks.length ≤ T + 1; omega⟩
   rcases hm with ⟨h2, _⟩ | ⟨_, ⟨hq, rfl, rfl⟩ | ⟨hq, fs2, ho, hd⟩⟩
   ·exact absurd rfl h2
   ·have hq : b.q = q := hq
    have he : ({ M with list := M.list.set j { b with q := q } } : ModD) = M := by
     have : ({ b with q := q } : BoxD) = b := by rw [← hq]
     rw [this, list_set_same hb]
    rw [he] at hi2 ⊢
    exact ⟨rfl, h, hi2, _root_.id⟩
   ·have hq : b.q ≠ q := hq
    obtain ⟨C, hv, hc⟩ := h.vw
    have hnm : nameD b.q id = b.nm := by rw [← hid]; rfl
    have hb1 := hi.idb (by omega) hbm
    have hnm2 : nameD q id = nameD q b.m.id := by rw [hid]
    have ho : Outcome (renS (nameD b.q id) (nameD q id)) 2 d.fs er fs2 := ho
    rw [hnm, hnm2] at ho
    have hqa := keep_q h1
    have hr := hi.nmr (by omega) hbm
    have hr2 := rightD_nameD hqa.1 hb1.1 hb1.2
    have hne : b.nm ≠ nameD q b.m.id := nameD_ne (keep_q (hi.q b hbm)).1 hqa.1 hb1.1 hb1.2 hq
    have hcb := hc.box b hbm
    have hfree : C (nameD q b.m.id) = none := hc.free hi (by omega) hqa.1 hb1 (fun x hx hxq hxi => hq (by rw [← hxq, asc_inj hi.asc x hx b hbm hxi]))
    obtain ⟨rfl, hv2⟩ := hv.renS hr hr2 hne hcb ho
    rw [hfree] at hv2
    rcases hd with ⟨h3, _⟩ | ⟨_, rfl⟩
    ·exact absurd rfl h3
    ·refine ⟨rfl, ⟨h.down, ⟨updC (updC C (nameD q b.m.id) (some b.bytes)) b.nm none, ?_, ⟨fun x hx => ?_, fun hb0 => ?_, fun n n1 n2 => ?_⟩⟩, h.last, h.bound, h.nf, ?_⟩, hi2, fun hp => hp.setBox hi hb rfl⟩
     ·rw [files_set]
      have hus : ({ M with list := M.list.set j { b with q := q } } : ModD).used = M.used - 0 := by
       have := used_set (y := { b with q := q }) hb
       have hl : ({ b with q := q } : BoxD).len = b.len := rfl
       rw [hl] at this
       show usedTo (M.list.set j { b with q := q }) = usedTo M.list - 0
       omega
      rw [hus]
      exact hv2
     ·rcases set_mem hi.asc hb hx with rfl | ⟨hx, hxi⟩
      ·show updC (updC C (nameD q b.m.id) _) b.nm none (nameD q b.m.id) = _
       rw [updC_other _ _ hne, updC_same]; rfl
      ·have e1 : b.nm ≠ x.nm := fun e => hxi (by rw [hi.inj (by omega) hbm hx e])
       have e2 : nameD q b.m.id ≠ x.nm := fun e => by have := hc.box x hx; rw [← e, hfree] at this; cases this
       rw [updC_other _ _ e1, updC_other _ _ e2]
       exact hc.box x hx
     ·have e1 : b.nm ≠ idsNameD M.bound := fun e => ids_ne_name (by have := hi.last; have := hi.bd; have := hi.lb; omega) b.q b.m.id e.symm
      have e2 : nameD q b.m.id ≠ idsNameD M.bound := fun e => ids_ne_name (by have := hi.last; have := hi.bd; have := hi.lb; omega) q b.m.id e.symm
      show updC _ _ _ (idsNameD M.bound) = _
      rw [updC_other _ _ e1, updC_other _ _ e2]
      exact hc.ids hb0
     ·have e2 : nameD q b.m.id ≠ n := n1 { b with q := q } (set_self_mem hb)
      by_cases e1 : b.nm = n
      ·rw [e1, updC_same]
      ·rw [updC_other _ _ e1, updC_other _ _ e2]
       refine hc.no n (fun x hx1 => ?_) n2
       rcases mem_set' (y := { b with q := q }) hb hx1 with rfl | hx1
       ·exact e1
       ·exact n1 x hx1
     ·show d.whr.put id q = _
      rw [h.whr, ← hid]
      exact wh_put_set hi.asc hb
theorem drop_same (h : Same14 d M) (hi : ModI T M) (hT : T ≤ 198) (hm : DropR d id er d') :
 er = (M.drop id).1 ∧ Same14 d' (M.drop id).2 ∧ ModI T (M.drop id).2 ∧ (ParOk M → ParOk (M.drop id).2) := by
 have ha := h.atD id
 unfold ModD.drop
 rcases hi.at_cases id with ⟨e, _, ew⟩ | ⟨j, b, e, hb, hbm, hid, ew⟩
 ·rw [ew, if_neg (by decide)] at ha
  unfold DropR at hm
  rw [ha] at hm
  rw [e, if_pos (by decide)]
  rcases hm with ⟨_, rfl, rfl⟩ | ⟨h2, _⟩
  ·exact ⟨rfl, h, hi, _root_.id⟩
  ·cases h2
 ·rw [ew, if_pos (hi.q b hbm)] at ha
  unfold DropR at hm
  rw [ha] at hm
  rw [e, if_neg (by omega), Int.toNat_natCast]
  rcases hm with ⟨h2, _⟩ | ⟨_, fs2, ho, hd⟩
  ·exact absurd rfl h2
  ·obtain ⟨C, hv, hc⟩ := h.vw
   have hnm : nameD b.q id = b.nm := by rw [← hid]; rfl
   have ho : Outcome (unlS (nameD b.q id)) 2 d.fs er fs2 := ho
   rw [hnm] at ho
   have hr := hi.nmr (by omega) hbm
   have hcb := hc.box b hbm
   obtain ⟨rfl, hv2⟩ := hv.unl hr hcb ho
   have hem : ∀ x ∈ M.list.eraseIdx j, x ∈ M.list ∧ x.m.id ≠ b.m.id := fun x hx => erase_mem hi.asc hb hx
   rcases hd with ⟨h3, _⟩ | ⟨_, rfl⟩
   ·exact absurd rfl h3
   ·refine ⟨rfl, ⟨h.down, ⟨updC C b.nm none, ?_, ⟨fun x hx => ?_, fun hb0 => ?_, fun n n1 n2 => ?_⟩⟩, h.last, h.bound, h.nf, ?_⟩, ⟨hi.asc.sublist (List.eraseIdx_sublist _ _), fun x hx => hi.id x (hem x hx).1, fun x hx => hi.q x (hem x hx).1, fun x hx => hi.good x (hem x hx).1, fun x hx => hi.ks x (hem x hx).1, Nat.le_trans (List.Sublist.length_le (List.eraseIdx_sublist _ _)) hi.n, hi.last, hi.lb, hi.bd, hi.room⟩, fun hp x hx y hy => hp x (hem x hx).1 y (hem y hy).1⟩
    ·have hj : j < M.list.length := (List.getElem?_eq_some_iff.1 hb).1
     have e1 : ({ M with list := M.list.eraseIdx j } : ModD).files = M.files - 1 := by
      unfold ModD.files
      show (M.list.eraseIdx j).length + (if 0 < M.bound then 1 else 0) = M.list.length + (if 0 < M.bound then 1 else 0) - 1
      rw [List.length_eraseIdx, if_pos hj]; omega
     have e2 : ({ M with list := M.list.eraseIdx j } : ModD).used = M.used - b.bytes.length := by
      have := used_erase hb
      show usedTo (M.list.eraseIdx j) = usedTo M.list - b.bytes.length
      rw [BoxD.bytes_len]; omega
     rw [e1, e2]
     exact hv2
    ·obtain ⟨hx, hxi⟩ := hem x hx
     rw [updC_other _ _ (fun e => hxi (by rw [hi.inj (by omega) hbm hx e]))]
     exact hc.box x hx
    ·have e1 : b.nm ≠ idsNameD M.bound := fun e => ids_ne_name (by have := hi.last; have := hi.bd; have := hi.lb; omega) b.q b.m.id e.symm
     show updC _ _ _ (idsNameD M.bound) = _
     rw [updC_other _ _ e1]
     exact hc.ids hb0
    ·by_cases e1 : b.nm = n
     ·rw [e1, updC_same]
     ·rw [updC_other _ _ e1]
      refine hc.no n (fun x hx1 => ?_) n2
      rcases mem_erase hb hx1 with rfl | hx1
      ·exact e1
      ·exact n1 x hx1
    ·show d.whr.del id = _
     rw [h.whr, ← hid]
     exact wh_del_erase hi.asc hb
end
open Go.RowKit Go.Maps
def sureTo (b : Nat) (c : FileC) : Nat := c.sure + min b (c.bytes.length - c.sure)
structure Cut1 (b : Nat) (c c' : FileC) : Prop where
 bytes : c'.bytes = c.bytes.take (sureTo b c)
 sure : c'.sure = sureTo b c
theorem sureTo_le {b : Nat} {c : FileC} (h : c.sure ≤ c.bytes.length) : sureTo b c ≤ c.bytes.length := by unfold sureTo; omega
theorem Cut1.len {b : Nat} {c c' : FileC} (h : Cut1 b c c') (hs : c.sure ≤ c.bytes.length) : c'.bytes.length = sureTo b c := by
 rw [h.bytes, List.length_take]; have := sureTo_le (b := b) hs; omega
theorem Cut1.again {b : Nat} {c c' c'' : FileC} (h : Cut1 b c c') (hs : c.sure ≤ c.bytes.length) (h' : Cut1 b c' c'') : Cut1 b c c'' := by
 have hl := h.len hs
 have e : sureTo b c' = sureTo b c := by
  have : sureTo b c' = c'.sure + min b (c'.bytes.length - c'.sure) := rfl
  rw [this, hl, h.sure]; omega
 refine ⟨?_, ?_⟩
 ·rw [h'.bytes, e, h.bytes, List.take_take, Nat.min_self]
 ·rw [h'.sure, e]
def CutF (b : Nat) (F G : Nat → Option FileC) (P : Nat → Prop) : Prop :=
 ∀ x, (F x = none → G x = none) ∧ ∀ c, F x = some c → ∃ c', G x = some c' ∧ (Cut1 b c c' ∨ (c' = c ∧ ¬ P x))
theorem CutF.start {b : Nat} {F : Nat → Option FileC} {P : Nat → Prop} (h : ∀ x, ¬ P x) : CutF b F F P := fun x => ⟨id, fun c hc => ⟨c, hc, .inr ⟨rfl, h x⟩⟩⟩
theorem CutF.step {b : Nat} {F G : Nat → Option FileC} {P Q : Nat → Prop} {x : Nat} {c c' : FileC} (hs : ∀ c, F x = some c → c.sure ≤ c.bytes.length) (h : CutF b F G P) (hx : G x = some c) (hc : Cut1 b c c') (hq : ∀ y, Q y → P y ∨ y = x) :
 CutF b F (fun k => if k = x then some c' else G k) Q := by
 intro y
 by_cases e : y = x
 ·subst e
  refine ⟨fun h0 => ?_, fun c0 h0 => ⟨c', if_pos rfl, .inl ?_⟩⟩
  ·have := (h y).1 h0; rw [hx] at this; cases this
  ·obtain ⟨c1, h1, h2⟩ := (h y).2 c0 h0
   rw [hx] at h1; cases h1
   rcases h2 with h2 | ⟨h2, _⟩
   ·exact h2.again (hs _ h0) hc
   ·rw [← h2]; exact hc
 ·refine ⟨fun h0 => (if_neg e).trans ((h y).1 h0), fun c0 h0 => ?_⟩
  obtain ⟨c1, h1, h2⟩ := (h y).2 c0 h0
  refine ⟨c1, (if_neg e).trans h1, ?_⟩
  rcases h2 with h2 | ⟨h2, h3⟩
  ·exact .inl h2
  ·exact .inr ⟨h2, fun q => (hq y q).elim h3 e⟩
section
variable {d : FsD} {C : Cont} {N U : Nat} {R : Int}
theorem Vw.used2 (h : Vw d C N U R) {a b : Nm} {x y : List UInt8} (hab : a ≠ b) (hN : N = 2) (ha : C a = some x) (hb : C b = some y) : U = x.length + y.length := by
 subst hN
 obtain ⟨xa, ca, h1, h2, rfl⟩ := h.look_some ha
 obtain ⟨xb, cb, h3, h4, rfl⟩ := h.look_some hb
 have p1 := del_perm h.up.key h1
 have h5 : (d.now.del a).look b = some xb := by rw [look_del, if_neg hab, h3]
 have p2 := del_perm (keyOk_del h.up.key a) h5
 have l1 := p1.length_eq
 have l2 := p2.length_eq
 rw [List.length_cons] at l1 l2
 rw [h.n] at l1
 have h6 : (d.now.del a).del b = [] := List.length_eq_zero_iff.1 (by omega)
 have h7 : lenOf d xa = ca.bytes.length := by unfold lenOf; rw [h2]
 have h8 : lenOf d xb = cb.bytes.length := by unfold lenOf; rw [h4]
 rw [← h.used, usedD_eq, sumOf_perm p1, sumOf_cons, sumOf_perm p2, sumOf_cons, h6]
 show lenOf d xa + (lenOf d xb + 0) = _
 omega
end
section
variable {α : Type} {S : α → StoD → Int → StoD → Prop}
end
section
variable {T : Nat} {M : ModD} {d d' : StoD} {er id : Int} {m : MailD}
theorem good_parent {b : BoxD} (hi : ModI T M) (hb : b ∈ M.list) : b.m.parent ≤ b.m.id - 1 := ((good_iff _).1 (hi.good b hb)).2.1.2
theorem add_list (M : ModD) (m : MailD) : ((M.add m).2.1 ≠ 0 ∧ (M.add m).2.2.list = M.list) ∨ ((M.add m).2.1 = 0 ∧ (M.add m).2.2.list = M.list ++ [⟨{ m with id := M.last + 1 }, 105, []⟩]) := by
 unfold ModD.add
 split
 ·exact .inl ⟨by show (3 : Int) ≠ 0; decide, rfl⟩
 ·exact .inr ⟨rfl, rfl⟩
theorem ParOk.list {M M' : ModD} (h : ParOk M) (e : M'.list = M.list) : ParOk M' := by unfold ParOk; rw [e]; exact h
theorem commit_same (h : Same14 d M) (hi : ModI T M) (hp : ParOk M) (hT : T ≤ 197) (hr : CommitR d m er id d') :
 er = (M.commit m).2.1 ∧ id = (M.commit m).1 ∧ Same14 d' (M.commit m).2.2 ∧ ModI (T + 1) (M.commit m).2.2 ∧ ParOk (M.commit m).2.2 := by
 have hl := hi.last
 unfold ModD.commit
 rcases hr with ⟨h1, rfl, rfl, rfl⟩ | ⟨_, _, h1, _⟩ | ⟨h1, h2, _, ha⟩
 ·rw [if_neg (fun e => by
   rcases h1 with h1 | h1
   ·have : goodM m = false := h1
    rw [e.1] at this; cases this
   ·exact h1 e.2)]
  exact ⟨rfl, rfl, h, hi.mono (by omega), hp⟩
 ·rw [h.down] at h1; cases h1
 ·have hg : goodM m = true := h1
  rw [if_pos ⟨hg, h2⟩]
  obtain ⟨q1, q2, q3⟩ := add_same h hi (by omega) hg (by omega) ha
  refine ⟨q1, q2, q3, hi.add hg (by omega) (by omega), ?_⟩
  rcases add_list M m with ⟨_, e⟩ | ⟨_, e⟩
  ·exact hp.list e
  ·unfold ParOk
   rw [e]
   intro x hx z hz
   rcases List.mem_append.1 hx with hx | hx
   ·have hxp := good_parent hi hx
    have hxl := (hi.id x hx).2
    rcases List.mem_append.1 hz with hz | hz
    ·exact hp x hx z hz
    ·rw [List.mem_singleton.1 hz]
     show M.last + 1 ≠ _
     omega
   ·rw [List.mem_singleton.1 hx]
    show z.m.id ≠ m.parent
    rw [h2]
    rcases List.mem_append.1 hz with hz | hz
    ·have := (hi.id z hz).1; omega
    ·rw [List.mem_singleton.1 hz]
     show M.last + 1 ≠ 0
     omega
theorem work_keep {q : UInt8} (h : keepQ.contains q = true) : workQ.contains q = true ↔ q ≠ 104 := by
 have hm : q ∈ keepQ := by simpa using h
 have hall : (keepQ.all fun q => workQ.contains q == (q != 104)) = true := by decide
 have := List.all_eq_true.1 hall q hm
 rw [beq_iff_eq] at this
 rw [this, bne_iff_ne]
theorem bounce_same (h : Same14 d M) (hi : ModI T M) (hp : ParOk M) (hT : T ≤ 196) (hr : BounceR d m er id d') :
 er = (M.bounce m).2.1 ∧ id = (M.bounce m).1 ∧ Same14 d' (M.bounce m).2.2 ∧ ModI (T + 1) (M.bounce m).2.2 ∧ ParOk (M.bounce m).2.2 := by
 have hl := hi.last
 have hgn : goodNew m = goodM m := rfl
 unfold ModD.bounce
 unfold BounceR at hr
 rw [h.whr, hgn] at hr
 rcases hi.at_cases m.parent with ⟨e, _, ew⟩ | ⟨j, b, e, hb, hbm, hid, ew⟩
 ·rw [ew] at hr
  rw [if_neg (fun f => f.2.1 (by rw [e]; decide))]
  rcases hr with ⟨_, rfl, rfl, rfl⟩ | ⟨_, h2, _⟩
  ·exact ⟨rfl, rfl, h, hi.mono (by omega), hp⟩
  ·exact absurd h2 (by decide)
 ·rw [ew] at hr
  have hqa : M.qAt m.parent = b.q := by unfold ModD.qAt; rw [e, Int.toNat_natCast, hb]; rfl
  have hwk := work_keep (hi.q b hbm)
  rw [hqa]
  rcases hr with ⟨h1, rfl, rfl, rfl⟩ | ⟨h1, h2, ⟨h3, _⟩ | ⟨_, e1, id1, d1, ha, h4⟩⟩
  ·rw [if_neg (fun f => by
    rcases h1 with h1 | h1
    ·rw [f.1] at h1; cases h1
    ·rw [hwk.2 f.2.2] at h1; cases h1)]
   exact ⟨rfl, rfl, h, hi.mono (by omega), hp⟩
  ·rw [h.down] at h3; cases h3
  ·rw [if_pos ⟨h1, by rw [e]; omega, hwk.1 h2⟩]
   have hpl : m.parent ≤ M.last := by rw [← hid]; exact (hi.id b hbm).2
   obtain ⟨q1, q2, q3⟩ := add_same h hi (by omega) h1 hpl ha
   have hi1 := hi.add h1 hpl (by omega)
   rcases add_list M m with ⟨hne, el⟩ | ⟨he0, el⟩
   ·rw [if_neg hne]
    rcases h4 with ⟨_, rfl, rfl, rfl⟩ | ⟨h5, _⟩
    ·exact ⟨q1, rfl, q3, hi1, hp.list el⟩
    ·exact absurd (q1.symm.trans h5) hne
   ·rw [if_pos he0]
    rcases h4 with ⟨h5, _⟩ | ⟨_, rfl, hd⟩
    ·exact absurd (q1.trans he0) h5
    ·obtain ⟨r1, r2, r3, _⟩ := drop_same q3 hi1 (by omega) hd
     have hb1 : (M.add m).2.2.list[j]? = some b := by
      rw [el, List.getElem?_append_left (List.getElem?_eq_some_iff.1 hb).1]; exact hb
     have hat1 : (M.add m).2.2.at m.parent = (j : Int) ∧ (M.add m).2.2.drop m.parent = (0, { (M.add m).2.2 with list := (M.add m).2.2.list.eraseIdx j }) := by
      rcases hi1.at_cases m.parent with ⟨_, hn, _⟩ | ⟨j', b', e', hb', hbm', hid', _⟩
      ·exact absurd hid (hn b (List.mem_of_getElem? hb1))
      ·have hjj : j' = j := by
        have hbb := asc_inj hi1.asc b' hbm' b (List.mem_of_getElem? hb1) (hid'.trans hid.symm)
        subst hbb
        have hnd : (M.add m).2.2.list.Nodup := hi1.asc.imp (fun {a c} hac e => by rw [e] at hac; omega)
        obtain ⟨l1, g1⟩ := List.getElem?_eq_some_iff.1 hb'
        obtain ⟨l2, g2⟩ := List.getElem?_eq_some_iff.1 hb1
        exact (List.getElem_inj hnd).1 (g1.trans g2.symm)
       subst hjj
       exact ⟨e', by unfold ModD.drop; rw [e', if_neg (by omega), Int.toNat_natCast]⟩
     rw [hat1.2] at r1 r2 r3
     rw [hat1.2]
     refine ⟨r1, q2, r2, r3, ?_⟩
     have hem : ∀ x ∈ (M.add m).2.2.list.eraseIdx j, x ∈ M.list ++ [⟨{ m with id := M.last + 1 }, 105, []⟩] ∧ x.m.id ≠ b.m.id := fun x hx => by
      have := erase_mem hi1.asc hb1 hx
      rw [el] at this; exact this
     intro x hx z hz
     obtain ⟨x1, _⟩ := hem x hx
     obtain ⟨z1, z2⟩ := hem z hz
     rcases List.mem_append.1 x1 with x1 | x1
     ·have hxp := good_parent hi x1
      have hxl := (hi.id x x1).2
      rcases List.mem_append.1 z1 with z1 | z1
      ·exact hp x x1 z z1
      ·rw [List.mem_singleton.1 z1]
       show M.last + 1 ≠ _
       omega
     ·rw [List.mem_singleton.1 x1]
      show z.m.id ≠ m.parent
      rw [← hid]; exact z2
theorem run_same (h : Same14 d M) (hi : ModI T M) (hp : ParOk M) (hT : T ≤ 196) {o : OpV} (hr : DoR d o er id d') :
 er = (M.run o).2.1 ∧ id = (M.run o).1 ∧ Same14 d' (M.run o).2.2 ∧ ModI (T + 1) (M.run o).2.2 ∧ ParOk (M.run o).2.2 := by
 unfold ModD.run
 rcases hr with ⟨k, hr⟩ | ⟨k, hr⟩ | ⟨k, rfl, hr⟩ | ⟨k, rfl, hr⟩ | ⟨k, rfl, hr⟩ | ⟨⟨k1, k2, k3, k4, k5⟩, rfl, rfl, rfl⟩
 ·rw [if_pos k]
  exact commit_same h hi hp (by omega) hr
 ·rw [if_neg (by omega), if_pos k]
  exact bounce_same h hi hp hT hr
 ·rw [if_neg (by omega), if_neg (by omega), if_pos k]
  obtain ⟨q1, q2, q3, q4⟩ := mark_same h hi (by omega) hr
  exact ⟨q1, rfl, q2, q3, q4 hp⟩
 ·rw [if_neg (by omega), if_neg (by omega), if_neg (by omega), if_pos k]
  obtain ⟨q1, q2, q3, q4⟩ := move_same h hi (by omega) hr
  exact ⟨q1, rfl, q2, q3, q4 hp⟩
 ·rw [if_neg (by omega), if_neg (by omega), if_neg (by omega), if_neg (by omega), if_pos k]
  obtain ⟨q1, q2, q3, q4⟩ := drop_same h hi (by omega) hr
  exact ⟨q1, rfl, q2, q3.mono (by omega), q4 hp⟩
 ·rw [if_neg k1, if_neg k2, if_neg k3, if_neg k4, if_neg k5]
  exact ⟨rfl, rfl, h, hi.mono (by omega), hp⟩
end
theorem FsStep.bel {w w' : World} {ρ ρ' : Rho} {B : Nat} (h : FsStep w ρ w' ρ') (hρ : ∀ k, ρ.has k → B ≤ k) (hB : B ≤ w.heap.size) : Below B w w' ∧ (∀ k, ρ'.has k → B ≤ k) :=
 ⟨h.keeps.below hρ hB, fun k e => by
  rcases h.grow k e with e | e
  ·exact hρ k e
  ·omega⟩
theorem StoStep.belB {w w' : World} {s B : Nat} {d d' : StoD} {ρ ρ' : Rho} (h : StoStep w s d ρ w' d' ρ') (hρ : ∀ k, stoOwn s d ρ k → B ≤ k) (hB : B ≤ w.heap.size) : Below B w w' := h.keeps.below hρ hB
theorem StoOk.other {w w' : World} {s : Nat} {d : StoD} {ρ : Rho} {F : Nat → Prop} (h : StoOk w s d ρ) (hk : Keeps F w w') (hd : ∀ k, F k → ¬ stoOwn s d ρ k) (hN : ∀ k, F k → NG ≤ k) : StoOk w' s d ρ :=
 have hg := GB.keeps hk hN
 ⟨h.at_.keeps hk hd, h.ok, h.g.gb hg, h.mx.gb hg, h.own, h.last, h.nf⟩
theorem AddR.fb {d d' : StoD} {m : MailD} {er id : Int} (h : AddR d m er id d') : d'.fb = d.fb := by
 obtain ⟨e1, id1, d1, hn, ⟨_, _, _, rfl⟩ | ⟨_, e2, fs2, _, ⟨_, _, _, rfl⟩ | ⟨_, _, _, _, rfl⟩ | ⟨_, _, _, v, lv, rfl⟩⟩⟩ := h <;> exact hn.same.1
theorem DropR.fb {d d' : StoD} {er id : Int} (h : DropR d id er d') : d'.fb = d.fb := by
 rcases h with ⟨_, _, rfl⟩ | ⟨_, fs2, _, ⟨_, rfl⟩ | ⟨_, rfl⟩⟩ <;> rfl
theorem DoR.fb {d d' : StoD} {o : OpV} {er id : Int} (h : DoR d o er id d') : d'.fb = d.fb := by
 rcases h with ⟨_, h⟩ | ⟨_, h⟩ | ⟨_, _, h⟩ | ⟨_, _, h⟩ | ⟨_, _, h⟩ | ⟨_, _, _, rfl⟩
 ·rcases h with ⟨_, _, _, rfl⟩ | ⟨_, _, _, _, _, rfl⟩ | ⟨_, _, _, h⟩
  ·rfl
  ·rfl
  ·exact h.fb
 ·rcases h with ⟨_, _, _, rfl⟩ | ⟨_, _, ⟨_, _, _, rfl⟩ | ⟨_, e1, id1, d1, h, ⟨_, _, _, rfl⟩ | ⟨_, _, h2⟩⟩⟩
  ·rfl
  ·rfl
  ·exact h.fb
  ·exact h2.fb.trans h.fb
 ·rcases h with ⟨_, _, rfl⟩ | ⟨_, ⟨_, _, rfl⟩ | ⟨_, fs2, _, rfl⟩⟩ <;> rfl
 ·rcases h with ⟨_, _, rfl⟩ | ⟨_, ⟨_, _, rfl⟩ | ⟨_, ⟨_, _, rfl⟩ | ⟨_, fs2, _, ⟨_, rfl⟩ | ⟨_, rfl⟩⟩⟩⟩ <;> rfl
 ·exact h.fb
 ·rfl
structure Pair (w0 w : World) (B s f mb T : Nat) (d : StoD) (ρ : Rho) (M : ModD) (lv : Value) (bs : List BoxV) (σ : Nat → Prop) : Prop where
 same : Same14 d M
 mi : ModI T M
 par : ParOk M
 sto : StoOk w s d ρ
 fb : d.fb = f
 mdl : MdlAt w mb M lv bs σ
 so : ∀ k, stoOwn s d ρ k → B ≤ k
 mo : ∀ k, σ k → B ≤ k
 dis : ∀ k, stoOwn s d ρ k → ¬ σ k
 loose : d.fs.loose.length ≤ 20 * T
 bel : Below B w0 w
 size : B ≤ w.heap.size
section
variable {w0 w w' : World} {B s f mb T : Nat} {d : StoD} {ρ : Rho} {M : ModD} {lv : Value} {bs : List BoxV} {σ : Nat → Prop}
theorem Pair.below (h : Pair w0 w B s f mb T d ρ M lv bs σ) (hb : Below w.heap.size w w') : Pair w0 w' B s f mb T d ρ M lv bs σ :=
 ⟨h.same, h.mi, h.par, h.sto.below hb, h.fb, h.mdl.below hb, h.so, h.mo, h.dis, h.loose, h.bel.trans (hb.mono h.size), Nat.le_trans h.size hb.size⟩
theorem Pair.both (h : Pair w0 w B s f mb T d ρ M lv bs σ) (hT : T ≤ 190) (hNB : NG ≤ B) {o : OpV} {e : Ending} {w1 : World} {er id : Int} {d1 : StoD} {ρ1 : Rho} (h1 : DoDone w s d ρ o e w1 er id d1 ρ1) :
 er = (M.run o).2.1 ∧ id = (M.run o).1 ∧ MdlAt w1 mb M lv bs σ ∧ B ≤ w1.heap.size ∧ ∀ lv2 bs2 (σ2 : Nat → Prop) (w2 : World), MdlAt w2 mb (M.run o).2.2 lv2 bs2 σ2 → MdlStep w1 σ w2 σ2 → Pair w0 w2 B s f mb (T + 1) d1 ρ1 (M.run o).2.2 lv2 bs2 σ2 := by
 obtain ⟨q1, q2, q3, q4, q5⟩ := run_same h.same h.mi h.par (by omega) h1.out
 have hs1 : ∀ k, stoOwn s d1 ρ1 k → B ≤ k := fun k hk => by
  rcases h1.step.grow k hk with e | e
  ·exact h.so k e
  ·have := h.size; omega
 have hsz1 := Nat.le_trans h.size h1.step.keeps.size
 have hb1 := h.bel.trans (h1.step.belB h.so h.size)
 have hd1 : ∀ k, stoOwn s d1 ρ1 k → ¬ σ k := fun k hk hσ => by
  rcases h1.step.grow k hk with e | e
  ·exact h.dis k e hσ
  ·have := h.mdl.lt k hσ; omega
 refine ⟨q1, q2, h.mdl.keeps h1.step.keeps (fun k hk e => h.dis k e hk), hsz1, fun lv2 bs2 σ2 w2 hA hT2 => ?_⟩
 refine ⟨q3, q4, q5, h1.at_.other hT2.keeps (fun k e f => hd1 k f e) (fun k e => Nat.le_trans hNB (h.mo k e)), h1.out.fb.trans h.fb, hA, hs1, fun k e => ?_, fun k hk e => ?_, by have := h1.go.2; have := h.loose; omega, hb1.trans (hT2.keeps.below h.mo hsz1), Nat.le_trans hsz1 hT2.keeps.size⟩
 ·rcases hT2.grow k e with e | e
  ·exact h.mo k e
  ·omega
 ·rcases hT2.grow k e with e | e
  ·exact hd1 k hk e
  ·have := stoOwn_lt h1.at_.at_ hk; omega
theorem Same14.nm (h : Same14 d M) (hi : ModI T M) (hT : T ≤ 199) : NmOk d.fs := fun p hp => by
 obtain ⟨C, hv, hc⟩ := h.vw
 by_cases hx : ∃ b ∈ M.list, b.nm = p.1
 ·obtain ⟨b, hb, e⟩ := hx
  rw [← e]
  have := nameD_len b.q b.m.id
  show (nameD b.q b.m.id).length ≤ 1000
  omega
 ·by_cases hy : 0 < M.bound ∧ idsNameD M.bound = p.1
  ·rw [← hy.2, idsNameD_len14 (by have := hi.last; have := hi.lb; have := hi.bd; omega)]; decide
  ·have h2 := hv.look_none (hc.no p.1 (fun b hb e => hx ⟨b, hb, e⟩) (fun h0 e => hy ⟨h0, e⟩))
   rw [look_of_mem hv.up.key (show (p.1, p.2) ∈ d.fs.now from hp)] at h2; cases h2
theorem same_start {B r fb ib mb : Nat} (hr : r ≤ 16777216) : Same14 ⟨newD B r, fb, ib, mb, 0, 0, [], [], false⟩ ⟨[], 0, 0, r⟩ ∧ ModI 0 ⟨[], 0, 0, r⟩ ∧ ParOk ⟨[], 0, 0, r⟩ :=
 ⟨⟨rfl, ⟨_, vw_new B r (by omega), ⟨fun b hb => (by cases hb), fun h => absurd h (by show ¬ (0 : Int) < 0; decide), fun n _ _ => rfl⟩⟩, rfl, rfl, rfl, rfl⟩, ⟨List.Pairwise.nil, fun b hb => (by cases hb), fun b hb => (by cases hb), fun b hb => (by cases hb), fun b hb => (by cases hb), Nat.le_refl _, ⟨Int.le_refl _, Int.le_refl _⟩, Int.le_refl _, by show (0 : Int) ≤ 0 + 16; decide, by show 0 ≤ (r : Int) ∧ (r : Int) ≤ 16777216; omega⟩, fun b hb => (by cases hb)⟩
end
structure OpArg0 (w : World) (o : OpV) : Prop where
 r : RdS w (.slice o.ar o.m.rcpts.length o.cr) o.m.rcpts
 b : RdB w (.slice o.ab o.m.body.length o.cb) o.m.body
 nr : NilOk (.slice o.ar o.m.rcpts.length o.cr)
 nb : NilOk (.slice o.ab o.m.body.length o.cb)
 ln : o.m.lens
 id : -9223372036854775808 ≤ o.id ∧ o.id ≤ 9223372036854775807
 pa : -9223372036854775808 ≤ o.m.parent ∧ o.m.parent ≤ 9223372036854775807
theorem OpArg0.light {w : World} {o : OpV} (h : OpArg0 w o) (hl : o.light = true) : OpArg w o w.heap.size := by
 unfold OpV.light at hl
 simp only [Bool.and_eq_true, decide_eq_true_eq] at hl
 exact ⟨h.r, h.b, h.nr, h.nb, fun k e => e.elim (h.r.liveLt k) (h.b.liveLt k), h.ln, ⟨by omega, by omega⟩, h.id, h.pa⟩
theorem lightB_iff {l : List OpV} (h : lightB l = true) : l.length ≤ 60 ∧ ∀ o ∈ l, o.light = true := by
 unfold lightB at h
 rw [Bool.and_eq_true, decide_eq_true_eq, List.all_eq_true] at h
 exact h
end Go.Proofs.YtffnbkmigapmjaaGreatDoor

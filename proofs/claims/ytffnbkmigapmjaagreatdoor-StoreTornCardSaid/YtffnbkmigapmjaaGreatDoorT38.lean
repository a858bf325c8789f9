/-
  How many bytes of each file are sure (plain); a disk whose all is sure; what a crash leaves of it.
  The walk of store.Open: of whatever lies on the disk.
  What opening a disk of one file comes to (plain).
  Opening a disk of one file: what the store is then (plain).
-/
import Derived.Test.YtffnbkmigapmjaaGreatDoorT26
import Derived.Test.YtffnbkmigapmjaaGreatDoorT37
set_option linter.unusedSimpArgs false
set_option linter.unusedVariables false
set_option maxRecDepth 100000
namespace Go.Proofs.YtffnbkmigapmjaaGreatDoor
abbrev Sur := Nm → Option Nat
def surD (d : FsD) : Sur := fun n => (d.now.look n).bind (fun x => (d.file x).map (·.sure))
section
variable {d : FsD} {C : Cont} {N U : Nat} {R : Int}
theorem surD_set {x : Nat} {c c' : FileC} (h : Up d) {n : Nm} (hx : d.now.look n = some x) (hc : d.file x = some c) (m : Nm) : surD (d.setFile x c') m = if n = m then some c'.sure else surD d m := by
  have hfile : ∀ k, (d.setFile x c').file k = if k = x then some c' else d.file k := fun _ => rfl
  have hper := del_perm h.key hx
  have hne : ∀ p ∈ d.now.del n, p.2 ≠ x := fun p hp e => (List.pairwise_cons.1 (injOk_perm hper h.inj)).1 p hp e.symm
  show (d.now.look m).bind (fun y => ((d.setFile x c').file y).map (·.sure)) = _
  by_cases hm : n = m
  · rw [if_pos hm, ← hm, hx]
    show ((d.setFile x c').file x).map (·.sure) = _
    rw [hfile, if_pos rfl]; rfl
  · rw [if_neg hm]
    unfold surD
    cases hy : d.now.look m with
    | none => rfl
    | some y =>
      show ((d.setFile x c').file y).map (·.sure) = (d.file y).map (·.sure)
      have hmem : (m, y) ∈ d.now.del n := List.mem_filter.2 ⟨look_mem hy, by simpa using fun e => hm e.symm⟩
      rw [hfile, if_neg (hne _ hmem)]
theorem Vw.create_s (h : Vw d C N U R) {n : Nm} (hr : rightD n = true) (hn : C n = none) (hN : N < 256) (x : FreshOf d) (v lv : Value) (m : Nm) : surD (createD d n x.x v lv).2 m = if n = m then some 0 else surD d m := by
  have hl := h.look_none hn
  have he : createD d n x.x v lv = (0, { (powerD (d.setFile x.x file0)).2 with now := d.now.put n x.x, lv := lv, loose := d.loose ++ [(.create n x.x, v)] }) := by
    unfold createD
    rw [if_pos (h.ready (by simp [hr])), hl, if_neg (by simp), if_neg (by rw [h.n]; omega)]
    unfold changeD
    rw [if_neg (by show ¬ d.fuse = 0; rw [h.up.fuse]; decide)]
    rfl
  have hp : powerD (d.setFile x.x file0) = (0, d.setFile x.x file0) := by
    unfold powerD
    rw [if_neg (by show ¬ d.fuse = 0; rw [h.up.fuse]; decide), if_neg (by show ¬ 0 < d.fuse; rw [h.up.fuse]; decide)]
  rw [he, hp]
  have hne : ∀ p ∈ d.now, p.2 ≠ x.x := fun p hp e => by
    have := h.up.fil p hp
    rw [e, x.free] at this; cases this
  have hfile : ∀ k, (d.setFile x.x file0).file k = if k = x.x then some file0 else d.file k := fun _ => rfl
  show ((d.now.put n x.x).look m).bind (fun y => ((d.setFile x.x file0).file y).map (·.sure)) = _
  rw [look_put]
  by_cases hm : n = m
  · rw [if_pos hm, if_pos hm]
    show ((d.setFile x.x file0).file x.x).map (·.sure) = _
    rw [hfile, if_pos rfl]; rfl
  · rw [if_neg hm, if_neg hm]
    unfold surD
    cases hy : d.now.look m with
    | none => rfl
    | some y =>
      show ((d.setFile x.x file0).file y).map (·.sure) = (d.file y).map (·.sure)
      rw [hfile, if_neg (hne _ (look_mem hy))]
theorem surD_look {n : Nm} {x : Nat} {c : FileC} (hx : d.now.look n = some x) (hc : d.file x = some c) : surD d n = some c.sure := by
  unfold surD; rw [hx]; show (d.file x).map (·.sure) = _; rw [hc]; rfl
theorem Vw.append_s (h : Vw d C N U R) {n : Nm} {b bs : List UInt8} (hr : rightD n = true) (hn : C n = some b) (hR : (bs.length : Int) ≤ R - U) (row : Value) (m : Nm) : surD (appendD d n bs row).2 m = surD d m := by
  obtain ⟨x, c, hx, hc, rfl⟩ := h.look_some hn
  have he : appendD d n bs row = (0, d.setFile x ⟨c.bytes ++ bs, c.sure, row⟩) := by
    unfold appendD
    rw [h.found_some (by simp [hr]) hx, if_pos rfl, if_neg (by rw [h.room, h.used]; omega), up_power h.up, if_pos rfl]
    unfold FsD.upd
    simp only [hx, hc]
  rw [he, surD_set h.up hx hc]
  by_cases hm : n = m
  · rw [if_pos hm, ← hm, surD_look hx hc]
  · rw [if_neg hm]
theorem Vw.sync_s (h : Vw d C N U R) {n : Nm} {b : List UInt8} (hr : rightD n = true) (hn : C n = some b) (m : Nm) : surD (syncD d n).2 m = if n = m then some b.length else surD d m := by
  obtain ⟨x, c, hx, hc, rfl⟩ := h.look_some hn
  have he : syncD d n = (0, d.setFile x { c with sure := c.bytes.length }) := by
    unfold syncD
    rw [h.found_some (by simp [hr]) hx, if_pos rfl, up_power h.up, if_pos rfl]
    unfold FsD.upd
    simp only [hx, hc]
  rw [he, surD_set h.up hx hc]
theorem Vw.rename_s (h : Vw d C N U R) {a b : Nm} {z : List UInt8} (ha : rightD a = true) (hb : rightD b = true) (hab : a ≠ b) (hz : C a = some z) (v lv : Value) (m : Nm) :
    surD (renameD d a b v lv).2 m = if a = m then none else if b = m then surD d a else surD d m := by
  obtain ⟨x, c, hx, hc, rfl⟩ := h.look_some hz
  have he : renameD d a b v lv = (0, { d with now := (d.now.put b x).del a, lv := lv, loose := d.loose ++ [(.rename a b, v)] }) := by
    unfold renameD
    rw [h.found_some (by simp [ha, hb]) hx, if_pos rfl, if_neg hab, changeD_up h.up]
    show ((0 : Int), { d with now := (match d.now.look a with | some x => (d.now.put b x).del a | none => d.now), lv := lv, loose := d.loose ++ [(Chg.rename a b, v)] }) = _
    rw [hx]
  rw [he]
  show (((d.now.put b x).del a).look m).bind (fun y => (d.file y).map (·.sure)) = _
  rw [look_del, look_put]
  by_cases hm : a = m
  · rw [if_pos hm, if_pos hm]; rfl
  · rw [if_neg hm, if_neg hm]
    by_cases hm2 : b = m
    · rw [if_pos hm2, if_pos hm2, surD_look hx hc]
      show (d.file x).map (·.sure) = _
      rw [hc]; rfl
    · rw [if_neg hm2, if_neg hm2]; rfl
theorem Vw.dirSync_s (h : Vw d C N U R) (ms : Nat) : (∀ m, surD (dirSyncD d ms).2 m = surD d m) ∧ (dirSyncD d ms).2.loose = [] ∧ (dirSyncD d ms).2.sure = (dirSyncD d ms).2.now := by
  have he : dirSyncD d ms = (0, d.synced ms) := by
    unfold dirSyncD
    rw [if_pos (h.ready rfl), up_power h.up, if_pos rfl]
  rw [he]
  exact ⟨fun _ => rfl, rfl, rfl⟩
/-- A file laid anew: all of it is sure. -/
theorem Vw.lay_s (h : Vw d C N U R) {tmp nm : Nm} {bs : List UInt8} (ht : rightD tmp = true) (hn : rightD nm = true) (hne : tmp ≠ nm) (hC : C tmp = none) (hN : N < 256) (hR : (bs.length : Int) ≤ R - U) {er : Int} {fs : FsD} (ho : Outcome (layS tmp nm bs) 6 d er fs) :
    (∀ m, m ≠ tmp → surD fs m = if nm = m then some bs.length else surD d m) ∧ fs.loose = [] ∧ fs.sure = fs.now := by
  let C1 : Cont := updC C tmp (some [])
  let C2 : Cont := updC C1 tmp (some ([] ++ bs))
  let C3 : Cont := updC (updC C2 nm (some bs)) tmp none
  have e2 : C2 tmp = some bs := updC_same _ _ _
  let V : Nat → FsD → Prop := fun i a => match i with
    | 0 => Vw a C N U R ∧ ∀ m, surD a m = surD d m
    | 1 => Vw a C N U R ∧ ∀ m, surD a m = surD d m
    | 2 => Vw a C1 (N + 1) U R ∧ ∀ m, m ≠ tmp → surD a m = surD d m
    | 3 => Vw a C2 (N + 1) (U + bs.length) R ∧ ∀ m, m ≠ tmp → surD a m = surD d m
    | 4 => Vw a C2 (N + 1) (U + bs.length) R ∧ ∀ m, surD a m = if tmp = m then some bs.length else surD d m
    | 5 => Vw a C3 (if (C2 nm).isSome then N + 1 - 1 else N + 1) (U + bs.length - ((C2 nm).getD []).length) R ∧ ∀ m, m ≠ tmp → surD a m = if nm = m then some bs.length else surD d m
    | _ => (∀ m, m ≠ tmp → surD a m = if nm = m then some bs.length else surD d m) ∧ a.loose = [] ∧ a.sure = a.now
  exact (run_good (V := V) (n := 6) (d := d) (S := layS tmp nm bs) ⟨h, fun _ => rfl⟩ (by
    intro i a er b hi hV hS
    match i, hi, hV, hS with
    | 0, _, hV, ⟨v, lv, he, hb⟩ =>
      obtain ⟨hV, gS⟩ : Vw a C N U R ∧ _ := hV
      rw [hV.unlink_none ht hC] at he hb
      subst he; subst hb
      exact ⟨rfl, hV, gS⟩
    | 1, _, hV, ⟨x, v, lv, he, hb⟩ =>
      obtain ⟨hV, gS⟩ : Vw a C N U R ∧ ∀ m, surD a m = surD d m := hV
      obtain ⟨q1, q2⟩ := hV.create ht hC hN x v lv
      have q3 := hV.create_s ht hC hN x v lv
      subst he; subst hb
      exact ⟨q1, q2, fun m hm => by rw [q3, if_neg (fun e => hm e.symm), gS]⟩
    | 2, _, hV, ⟨row, he, hb⟩ =>
      obtain ⟨hV, gS⟩ : Vw a C1 (N + 1) U R ∧ ∀ m, m ≠ tmp → surD a m = surD d m := hV
      obtain ⟨q1, q2⟩ := hV.append (b := []) (bs := bs) ht (updC_same _ _ _) hR row
      have q3 := hV.append_s (b := []) (bs := bs) ht (updC_same _ _ _) hR row
      subst he; subst hb
      exact ⟨q1, q2, fun m hm => by rw [q3, gS m hm]⟩
    | 3, _, hV, ⟨he, hb⟩ =>
      obtain ⟨hV, gS⟩ : Vw a C2 (N + 1) (U + bs.length) R ∧ ∀ m, m ≠ tmp → surD a m = surD d m := hV
      obtain ⟨q1, q2⟩ := hV.sync ht e2
      have q3 := hV.sync_s ht e2
      subst he; subst hb
      refine ⟨q1, q2, fun m => ?_⟩
      rw [q3]
      by_cases hm : tmp = m
      · rw [if_pos hm, if_pos hm]
      · rw [if_neg hm, if_neg hm, gS m (fun e => hm e.symm)]
    | 4, _, hV, ⟨v, lv, he, hb⟩ =>
      obtain ⟨hV, gS⟩ : Vw a C2 (N + 1) (U + bs.length) R ∧ ∀ m, surD a m = if tmp = m then some bs.length else surD d m := hV
      obtain ⟨q1, q2⟩ := hV.rename ht hn hne e2 v lv
      have q3 := hV.rename_s ht hn hne e2 v lv
      subst he; subst hb
      refine ⟨q1, q2, fun m hm => ?_⟩
      rw [q3, if_neg (fun e => hm e.symm)]
      by_cases e : nm = m
      · rw [if_pos e, if_pos e, gS, if_pos rfl]
      · rw [if_neg e, if_neg e, gS, if_neg (fun e => hm e.symm)]
    | 5, _, hV, ⟨ms, he, hb⟩ =>
      obtain ⟨hV, gS⟩ : Vw a C3 (if (C2 nm).isSome then N + 1 - 1 else N + 1) (U + bs.length - ((C2 nm).getD []).length) R ∧ ∀ m, m ≠ tmp → surD a m = if nm = m then some bs.length else surD d m := hV
      obtain ⟨q1, q2⟩ := hV.dirSync ms
      obtain ⟨q3, q4, q5⟩ := hV.dirSync_s ms
      subst he; subst hb
      exact ⟨q1, fun m hm => by rw [q3, gS m hm], q4, q5⟩) er fs ho).2
theorem Vw.used2 (h : Vw d C N U R) {a b : Nm} {x y : List UInt8} (hab : a ≠ b) (hN : N = 2) (ha : C a = some x) (hb : C b = some y) : U = x.length + y.length := by
  subst hN
  obtain ⟨xa, ca, h1, h2, rfl⟩ := h.look_some ha
  obtain ⟨xb, cb, h3, h4, rfl⟩ := h.look_some hb
  have p1 := del_perm h.up.key h1
  have h5 : (d.now.del a).look b = some xb := by rw [look_del, if_neg hab, h3]
  have p2 := del_perm (keyOk_del h.up.key a) h5
  have l1 := p1.length_eq
  have l2 := p2.length_eq
  rw [List.length_cons] at l1 l2
  rw [h.n] at l1
  have h6 : (d.now.del a).del b = [] := List.length_eq_zero_iff.1 (by omega)
  have h7 : lenOf d xa = ca.bytes.length := by unfold lenOf; rw [h2]
  have h8 : lenOf d xb = cb.bytes.length := by unfold lenOf; rw [h4]
  rw [← h.used, usedD_eq, sumOf_perm p1, sumOf_cons, sumOf_perm p2, sumOf_cons, h6]
  show lenOf d xa + (lenOf d xb + 0) = _
  omega
end
/-- What a crash leaves of a disk whose directory is sure. -/
theorem crash0 {d d' : FsD} {b : Nat} (hk : KeyOk d.now) (hi : InjOk d.now) (hf : ∀ p ∈ d.now, (d.file p.2).isSome = true) (hn : d.now.length ≤ 256) (hr : 0 ≤ d.room ∧ d.room ≤ 16777216) (hs : d.sure = d.now) (h : CrashR d 0 b d') :
    Up d' ∧ d'.now = d.now ∧ d'.room = d.room ∧ ∀ n, cont d' n = (d.now.look n).bind (fun x => (d.file x).map (fun c => c.bytes.take (sureTo b c))) := by
  have e : d'.now = d.now := by rw [h.now, playD_zero, hs]
  have hfil : ∀ n x, (n, x) ∈ d.now → ∃ c c', d.file x = some c ∧ d'.file x = some c' ∧ Cut1 b c c' := by
    intro n x hx
    obtain ⟨c, hc⟩ := Option.isSome_iff_exists.1 (hf _ hx)
    obtain ⟨c', h1, h2⟩ := (h.file x).2 c hc
    rcases h2 with h2 | ⟨_, h2⟩
    · exact ⟨c, c', hc, h1, h2⟩
    · exact absurd ⟨n, by rw [playD_zero, hs]; exact hx⟩ h2
  refine ⟨⟨⟨by rw [h.fuse]; decide, by rw [h.fuse]; decide, by rw [e]; exact hn, by rw [h.room]; exact hr.1, by rw [h.room]; exact hr.2⟩, by rw [e]; exact hk, by rw [e]; exact hi, ?_, h.fuse, h.down⟩, e, h.room, ?_⟩
  · intro p hp
    rw [e] at hp
    obtain ⟨c, c', _, h2, _⟩ := hfil p.1 p.2 hp
    rw [h2]; rfl
  · intro n
    unfold cont
    rw [e]
    cases hy : d.now.look n with
    | none => rfl
    | some x =>
      obtain ⟨c, c', h1, h2, h3⟩ := hfil n x (look_mem hy)
      show (d'.file x).map (·.bytes) = (d.file x).map _
      rw [h1, h2, Option.map_some, Option.map_some, h3.bytes]
section
variable {α : Type} {S : α → StoD → Int → StoD → Prop}
theorem runL_skip {P : α → Prop} {x0 : α} {d : StoD} (h0 : ∀ x, P x → x ≠ x0 → ∀ a er b, S x a er b → er = 0 ∧ b = a) {l : List α} {d' : StoD} (h : RunL S d l d') : (∀ x ∈ l, P x) → l.Nodup → (x0 ∉ l → d' = d) ∧ (x0 ∈ l → S x0 d 0 d') := by
  induction h with
  | nil => exact fun _ _ => ⟨fun _ => rfl, fun h => by cases h⟩
  | @snoc pre x d1 d2 h1 h2 ih =>
    intro hP hnd
    obtain ⟨n1, n2, n3⟩ := List.nodup_append.1 hnd
    obtain ⟨i1, i2⟩ := ih (fun y hy => hP y (List.mem_append_left _ hy)) n1
    have hPx : P x := hP x (List.mem_append_right _ (List.mem_singleton.2 rfl))
    refine ⟨fun hx => ?_, fun hx => ?_⟩
    · have hp : x0 ∉ pre := fun e => hx (List.mem_append_left _ e)
      have hxx : x ≠ x0 := fun e => hx (List.mem_append_right _ (by rw [e]; exact List.mem_singleton.2 rfl))
      rw [(h0 x hPx hxx _ _ _ h2).2, i1 hp]
    · by_cases hxx : x = x0
      · subst hxx
        have hp : x ∉ pre := fun e => n3 _ e x (List.mem_singleton.2 rfl) rfl
        rw [← i1 hp]; exact h2
      · have hp : x0 ∈ pre := by
          rcases List.mem_append.1 hx with e | e
          · exact e
          · exact absurd (List.mem_singleton.1 e).symm hxx
        rw [(h0 x hPx hxx _ _ _ h2).2]
        exact i2 hp
theorem outL_skip {x0 : α} {d d' : StoD} {er : Int} {l : List α} (h0 : ∀ x, x ∈ l → x ≠ x0 → ∀ a er b, S x a er b → er = 0 ∧ b = a) (hnd : l.Nodup) (hx : x0 ∈ l) (h : OutL S l d er d') : S x0 d er d' := by
  rcases h with ⟨rfl, h⟩ | ⟨hne, j, x, dj, h1, h2, h3⟩
  · exact (runL_skip (P := fun x => x ∈ l) h0 h (fun _ h => h) hnd).2 hx
  · by_cases hxx : x = x0
    · subst hxx
      have hnx : x ∉ l.take j := by
        intro e
        obtain ⟨i, hi, he⟩ := List.getElem_of_mem e
        rw [List.length_take] at hi
        rw [List.getElem_take] at he
        obtain ⟨hj, hje⟩ := List.getElem?_eq_some_iff.1 h1
        have := (List.getElem_inj hnd).1 (he.trans hje.symm)
        omega
      rw [← (runL_skip (P := fun x => x ∈ l) h0 h2 (fun _ h => List.mem_of_mem_take h) (hnd.sublist (List.take_sublist _ _))).1 hnx]
      exact h3
    · exact absurd (h0 x (List.mem_of_getElem? h1) hxx _ _ _ h3).1 hne
theorem outL_none {d d' : StoD} {er : Int} {l : List α} (h0 : ∀ x ∈ l, ∀ a er b, S x a er b → er = 0 ∧ b = a) (h : OutL S l d er d') : er = 0 ∧ d' = d := by
  have hr : ∀ {l1 : List α} {d1 : StoD}, RunL S d l1 d1 → (∀ x ∈ l1, x ∈ l) → d1 = d := by
    intro l1 d1 h1
    induction h1 with
    | nil => exact fun _ => rfl
    | snoc h2 h3 ih => exact fun hm => by rw [(h0 _ (hm _ (List.mem_append_right _ (List.mem_singleton.2 rfl))) _ _ _ h3).2]; exact ih (fun x hx => hm x (List.mem_append_left _ hx))
  rcases h with ⟨rfl, h⟩ | ⟨hne, j, x, dj, h1, h2, h3⟩
  · exact ⟨rfl, hr h (fun _ hx => hx)⟩
  · exact absurd (h0 x (List.mem_of_getElem? h1) _ _ _ h3).1 hne
end
end Go.Proofs.YtffnbkmigapmjaaGreatDoor

set_option linter.unusedSimpArgs false
set_option linter.unusedVariables false
set_option maxRecDepth 100000
namespace Go.Proofs.YtffnbkmigapmjaaGreatDoor
open Go.RowKit Go.Maps
theorem lastNum_mem {l : List (Int × Nm)} : lastNum l = (0, []) ∨ lastNum l ∈ l := by
  unfold lastNum
  cases h : l.getLast? with
  | none => exact .inl rfl
  | some x => exact .inr (List.mem_of_getLast? h)
theorem numL_mem {ss : List Nm} {p : Int × Nm} (h : p ∈ numL ss) : p.2 ∈ ss ∧ NumOf p.2 p.1 := by
  unfold numL at h
  obtain ⟨s, hs, he⟩ := List.mem_filterMap.1 h
  obtain ⟨n, hn, rfl⟩ := Option.map_eq_some_iff.1 he
  exact ⟨hs, (numbD_iff s n).1 hn⟩
def openD (fs : FsD) (f ib mb : Nat) (ss : List Nm) : StoD := ⟨fs, f, ib, mb, (lastNum (numL ss)).1, (lastNum (numL ss)).1, (lastNum (numL ss)).2, [], false⟩
structure OpenDone (w : World) (f : Nat) (fs : FsD) (ρ : Rho) (e : Ending) (w' : World) (er : Int) (s : Nat) (d : StoD) (ρ' : Rho) : Prop where
  ret : (er = 0 ∧ e = .returned (.tuple #[.pointer (some ⟨s, 0, none⟩), .int .i64 0])) ∨ (er ≠ 0 ∧ e = .returned (.tuple #[.pointer none, .int .i64 er]))
  out : ∃ ib mb ss, sortedNm fs ss ∧ RecoverR (openD fs f ib mb ss) er d
  at_ : StoOk w' s d ρ'
  fb : d.fb = f
  step : FsStep w ρ w' ρ'
  new : ∀ k, k = s ∨ k = d.ib ∨ k = d.mb → w.heap.size ≤ k
  go : FsGo fs d.fs 100000
theorem MendR.blk {d d' : StoD} {q : UInt8} {id er : Int} (h : MendR d q id er d') : d'.fb = d.fb ∧ d'.ib = d.ib ∧ d'.mb = d.mb ∧ d'.last = d.last ∧ d'.bound = d.bound ∧ d'.nfile = d.nfile := by
  rcases h with ⟨_, _, rfl⟩ | ⟨_, ⟨_, fs2, _, rfl⟩ | ⟨f, _, _, ⟨_, fs2, _, rfl⟩ | ⟨_, _, rfl⟩⟩⟩ <;> exact ⟨rfl, rfl, rfl, rfl, rfl, rfl⟩
def Blk (d d' : StoD) : Prop := d'.fb = d.fb ∧ d'.ib = d.ib ∧ d'.mb = d.mb ∧ d'.last = d.last ∧ d'.bound = d.bound ∧ d'.nfile = d.nfile
theorem Blk.refl (d : StoD) : Blk d d := ⟨rfl, rfl, rfl, rfl, rfl, rfl⟩
theorem Blk.trans {a b c : StoD} (h : Blk a b) (g : Blk b c) : Blk a c := by
  obtain ⟨a1, a2, a3, a4, a5, a6⟩ := h
  obtain ⟨b1, b2, b3, b4, b5, b6⟩ := g
  exact ⟨b1.trans a1, b2.trans a2, b3.trans a3, b4.trans a4, b5.trans a5, b6.trans a6⟩
theorem RunL.blk {α : Type} {S : α → StoD → Int → StoD → Prop} (hS : ∀ x d er d', S x d er d' → Blk d d') {d0 d : StoD} {l : List α} (h : RunL S d0 l d) : Blk d0 d := by
  induction h with
  | nil => exact Blk.refl _
  | snoc _ h2 ih => exact ih.trans (hS _ _ _ _ h2)
theorem OutL.blk {α : Type} {S : α → StoD → Int → StoD → Prop} (hS : ∀ x d er d', S x d er d' → Blk d d') {d0 d : StoD} {l : List α} {er : Int} (h : OutL S l d0 er d) : Blk d0 d := by
  rcases h with ⟨_, h⟩ | ⟨_, j, x, dj, _, h1, h2⟩
  · exact h.blk hS
  · exact (h1.blk hS).trans (hS _ _ _ _ h2)
theorem TmpS.blk {n : Nm} {d d' : StoD} {er : Int} (h : TmpS n d er d') : Blk d d' := by
  rcases h with ⟨_, _, rfl⟩ | ⟨_, v, lv, _, rfl⟩ <;> exact ⟨rfl, rfl, rfl, rfl, rfl, rfl⟩
theorem RecS.blk {n : Nm} {d d' : StoD} {er : Int} (h : RecS n d er d') : Blk d d' := by
  rcases h with ⟨_, _, rfl⟩ | ⟨q, m, _, ⟨_, _, rfl⟩ | ⟨_, h⟩⟩
  · exact Blk.refl _
  · exact ⟨rfl, rfl, rfl, rfl, rfl, rfl⟩
  · exact h.blk
theorem ParS.blk {n : Int} {d d' : StoD} {er : Int} (h : ParS n d er d') : Blk d d' := by
  rcases h with ⟨_, _, rfl⟩ | ⟨_, _, fs2, _, ⟨_, rfl⟩ | ⟨_, rfl⟩⟩ <;> exact ⟨rfl, rfl, rfl, rfl, rfl, rfl⟩
theorem RecoverR.blk {d d' : StoD} {er : Int} (h : RecoverR d er d') : Blk d d' := by
  obtain ⟨ss1, e1, d1, _, h1, ⟨_, _, rfl⟩ | ⟨_, ss2, e2, d2, _, h2, ⟨_, _, rfl⟩ | ⟨_, h3⟩⟩⟩ := h
  · exact h1.blk (fun _ _ _ _ h => h.blk)
  · exact (h1.blk (fun _ _ _ _ h => h.blk)).trans (h2.blk (fun _ _ _ _ h => h.blk))
  · exact ((h1.blk (fun _ _ _ _ h => h.blk)).trans (h2.blk (fun _ _ _ _ h => h.blk))).trans (h3.blk (fun _ _ _ _ h => h.blk))
set_option maxHeartbeats 8000000 in
theorem open_calls (f : Nat) (fs : FsD) (ρ : Rho) (w : World) (h : FsAt w f fs ρ) (hok : FsOk fs) (hdn : fs.down = false) (hnm : NmOk fs) (hll : fs.loose.length ≤ 500000) (hρ : ∀ k, ρ.has k → NG ≤ k) (hg : GOk w) (hmax : MaxOk w) :
    Calls Tryz.prog 17 #[.pointer (some ⟨f, 0, none⟩)] w fun e w' => ∃ er s d ρ', OpenDone w f fs ρ e w' er s d ρ' := by
  have hmm := @run_makeMap Tryz.prog
  have hio := idsOpen_calls f fs ρ w h hdn hok.n hnm hg
  have hrho : ∀ k, w.heap.size ≤ k → ρ k = none := fun k hk => by
    cases hr : ρ k with
    | none => rfl
    | some r => have := h.rest.lt k (by rw [hr]; rfl); omega
  have Hio := Lib.hid hio
  have Hrho := Lib.hid hrho
  have H := Lib.hid (And.intro h (And.intro hok (And.intro hdn (And.intro hnm (And.intro hll (And.intro hρ (And.intro hg hmax)))))))
  clear hio hrho h hok hdn hnm hll hρ hg hmax
  go_enter Tryz.func17, Tryz.ntmps17
  go_wp2_with fail
  refine (Hio.out).mono ?_; rintro e w1 ⟨ib, ss, rfl, hnms, hhd, hnew, hb1⟩
  have hlast : (0 ≤ (lastNum (numL ss)).1 ∧ (lastNum (numL ss)).1 ≤ 999999999) ∧ (lastNum (numL ss)).2.length ≤ 1000 := by
    rcases lastNum_mem (l := numL ss) with e | e
    · rw [e]; exact ⟨⟨Int.le_refl _, by decide⟩, Nat.zero_le _⟩
    · obtain ⟨h1, h2⟩ := numL_mem e
      exact ⟨⟨h2.1, h2.2.1⟩, perm_nm hnms H.out.2.2.2.1 h1⟩
  have Hod : Hid (∀ mb, openD fs f ib mb ss = ⟨fs, f, ib, mb, (lastNum (numL ss)).1, (lastNum (numL ss)).1, (lastNum (numL ss)).2, [], false⟩) := Lib.hid (fun _ => rfl)
  obtain ⟨la, hla⟩ : ∃ la, (lastNum (numL ss)).1 = la := ⟨_, rfl⟩
  obtain ⟨nf, hnf⟩ : ∃ nf, (lastNum (numL ss)).2 = nf := ⟨_, rfl⟩
  rw [hla, hnf] at hhd hlast Hod
  clear hla hnf
  obtain ⟨W2, hW2⟩ : ∃ W2, w1.alloc (.map #[] 0) = W2 := ⟨_, rfl⟩
  obtain ⟨W3, hW3⟩ : ∃ W3, W2.alloc (.cells #[.pointer (some ⟨f, 0, none⟩), .pointer (some ⟨ib, 0, none⟩), .map (some w1.heap.size), .bool false] 112) = W3 := ⟨_, rfl⟩
  have z2 : W2.heap.size = w1.heap.size + 1 := by rw [← hW2]; simp
  have b2 : Below w1.heap.size w1 W2 := by rw [← hW2]; exact (Below.refl _ _).alloc (Nat.le_refl _) _
  have b3 : Below W2.heap.size W2 W3 := by rw [← hW3]; exact (Below.refl _ _).alloc (Nat.le_refl _) _
  have b13 := b2.trans (b3.mono b2.size)
  have bw3 := hb1.trans (b13.mono hb1.size)
  have m2 : WhAt W2 w1.heap.size [] := by rw [← hW2]; exact World.ownsMap_made w1 Tryz.prog 3 (plainElem Tryz.prog 5)
  have m3 : WhAt W3 w1.heap.size [] := whMap_keeps (F := fun _ => False) m2 (Keeps.ofBelow b3) id
  have hs3 : W3.heap[w1.heap.size + 1]? = some (.cells #[.pointer (some ⟨f, 0, none⟩), .pointer (some ⟨ib, 0, none⟩), .map (some w1.heap.size), .bool false] 112 (0, 0)) := by rw [← hW3]; exact heap_new_at _ z2.symm
  have hids := (b13.block _ (Array.getElem?_eq_some_iff.1 hhd).1).trans hhd
  have hs1 := hb1.size
  have hA : StoAt W3 (w1.heap.size + 1) ⟨fs, f, ib, w1.heap.size, la, la, nf, [], false⟩ ρ := ⟨H.out.1.below bw3, hs3, hids, m3, Hrho.out _ (by omega), Hrho.out _ hnew, Hrho.out _ hs1⟩
  have hown : ∀ k, stoOwn (w1.heap.size + 1) (⟨fs, f, ib, w1.heap.size, la, la, nf, [], false⟩ : StoD) ρ k → ρ.has k ∨ w.heap.size ≤ k := fun k e => by
    rcases e with e | e | e | e
    · exact .inl e
    · exact .inr (by omega)
    · exact .inr (by have : k = ib := e; omega)
    · exact .inr (by have : k = w1.heap.size := e; omega)
  have hO : StoOk W3 (w1.heap.size + 1) ⟨fs, f, ib, w1.heap.size, la, la, nf, [], false⟩ ρ := ⟨hA, H.out.2.1, H.out.2.2.2.2.2.2.1.below bw3, H.out.2.2.2.2.2.2.2.below bw3, fun k e => by
    rcases hown k e with e | e
    · exact H.out.2.2.2.2.2.1 k e
    · have := H.out.2.2.2.2.2.2.1.size; omega, hlast.1, hlast.2⟩
  have hrc := recover_calls (w1.heap.size + 1) _ ρ W3 hO (by have := H.out.2.2.2.2.1; dsimp only; omega) (by dsimp only; exact Nat.zero_le _) (fun p hp => by cases hp) H.out.2.2.1 H.out.2.2.2.1
  have Hrc := Lib.hid hrc
  have HA := Lib.hid (And.intro hO (And.intro hnew (And.intro hs1 (And.intro bw3 (And.intro hown hnms)))))
  clear hrc hO hA hids hs3 m2 m3 bw3 b13 b3 b2 hhd hnms hb1 hown hlast
  subst hW3
  subst hW2
  go_wp2_with fail
  refine (Hrc.out).mono ?_; rintro e w4 ⟨er, d, ρ4, rfl, ho, hO4, hT4, hg4⟩
  have hbk := ho.blk
  obtain ⟨q1, q2, q3, q4, q5, q6⟩ := HA.out
  have hfin : ∀ e, ((er = 0 ∧ e = .returned (.tuple #[.pointer (some ⟨w1.heap.size + 1, 0, none⟩), .int .i64 0])) ∨ (er ≠ 0 ∧ e = .returned (.tuple #[.pointer none, .int .i64 er]))) → OpenDone w f fs ρ e w4 er (w1.heap.size + 1) d ρ4 := by
    intro e hret
    refine ⟨hret, ⟨ib, w1.heap.size, ss, q6, by rw [Hod.out]; exact ho⟩, hO4, hbk.1, ⟨(Keeps.ofBelow (F := ρ.has) q4).go hT4.keeps q5, fun k hk => ?_⟩, fun k hk => ?_, hg4⟩
    · rcases hT4.grow k (.inl hk) with e | e
      · exact q5 k e
      · exact .inr (Nat.le_trans q4.size e)
    · rcases hk with e | e | e
      · omega
      · rw [e, hbk.2.1]; exact q2
      · rw [e, hbk.2.2.1]; exact q3
  have Hfin := Lib.hid hfin
  clear hfin ho hO4 hT4 hg4 hbk q1 q2 q3 q4 q5 q6
  by_cases h0 : er = 0
  · subst h0
    go_wp2
    go_ret2
    exact ⟨0, _, d, ρ4, Hfin.out _ (.inl ⟨by first | exact rfl | exact trivial, rfl⟩)⟩
  · have h0' : (er != 0) = true := by simpa using h0
    have H0 := Lib.hid h0
    clear h0
    go_wp2
    go_ret2
    exact ⟨er, _, d, ρ4, Hfin.out _ (.inr ⟨H0.out, rfl⟩)⟩
end Go.Proofs.YtffnbkmigapmjaaGreatDoor

set_option linter.unusedSimpArgs false
set_option linter.unusedVariables false
set_option maxRecDepth 100000
namespace Go.Proofs.YtffnbkmigapmjaaGreatDoor
section
variable {α : Type} {S : α → StoD → Int → StoD → Prop} {d d' : StoD} {er : Int} {x : α}
theorem outL_nil (h : OutL S [] d er d') : er = 0 ∧ d' = d := by
  rcases h with ⟨h0, h1⟩ | ⟨_, j, y, dj, h1, _⟩
  · refine ⟨h0, ?_⟩
    generalize hl : ([] : List α) = l at h1
    cases h1 with
    | nil => rfl
    | snoc _ _ => exact absurd hl.symm (by simp)
  · cases h1
theorem runL_one (h : RunL S d [x] d') : S x d 0 d' := by
  generalize hl : [x] = l at h
  cases h with
  | nil => cases hl
  | @snoc pre y dj _ h1 h2 =>
    have hp : pre = [] ∧ y = x := by
      have h3 : pre ++ [y] = [] ++ [x] := hl.symm
      have := List.append_inj' h3 rfl
      exact ⟨this.1, by simpa using this.2⟩
    obtain ⟨rfl, rfl⟩ := hp
    have : dj = d := (outL_nil (S := S) (er := 0) (.inl ⟨rfl, h1⟩)).2
    rw [← this]; exact h2
theorem outL_one (h : OutL S [x] d er d') : S x d er d' := by
  rcases h with ⟨rfl, h1⟩ | ⟨_, j, y, dj, h1, h2, h3⟩
  · exact runL_one h1
  · match j, h1, h2 with
    | 0, h1, h2 =>
      cases h1
      have : dj = d := (outL_nil (S := S) (er := 0) (.inl ⟨rfl, h2⟩)).2
      rw [← this]; exact h3
    | j + 1, h1, _ => cases h1
end
section
variable {fs : FsD} {C : Cont} {N U : Nat} {R : Int}
theorem Vw.renS (h : Vw fs C N U R) {a b : Nm} {z : List UInt8} (ha : rightD a = true) (hb : rightD b = true) (hab : a ≠ b) (hz : C a = some z) {er : Int} {fs' : FsD} (ho : Outcome (Go.Proofs.YtffnbkmigapmjaaGreatDoor.renS a b) 2 fs er fs') :
    er = 0 ∧ Vw fs' (updC (updC C b (some z)) a none) (if (C b).isSome then N - 1 else N) (U - ((C b).getD []).length) R := by
  let V : Nat → FsD → Prop := fun i x => match i with
    | 0 => Vw x C N U R
    | _ => Vw x (updC (updC C b (some z)) a none) (if (C b).isSome then N - 1 else N) (U - ((C b).getD []).length) R
  exact run_good (V := V) (n := 2) (d := fs) (S := Go.Proofs.YtffnbkmigapmjaaGreatDoor.renS a b) h (by
    intro i x er y hi hV hS
    match i, hi, hV, hS with
    | 0, _, hV, ⟨v, lv, he, hy⟩ =>
      have hV : Vw x C N U R := hV
      obtain ⟨q1, q2⟩ := hV.rename ha hb hab hz v lv
      subst he; subst hy
      exact ⟨q1, q2⟩
    | 1, _, hV, ⟨ms, he, hy⟩ =>
      have hV : Vw x (updC (updC C b (some z)) a none) (if (C b).isSome then N - 1 else N) (U - ((C b).getD []).length) R := hV
      obtain ⟨q1, q2⟩ := hV.dirSync ms
      subst he; subst hy
      exact ⟨q1, q2⟩) er fs' ho
end
theorem at_one (id p : Int) (q : UInt8) : Wh.at [(id, q)] p = if id = p then q else 0 := by
  unfold Wh.at Wh.look
  rw [List.find?_cons]
  by_cases h : id = p
  · rw [show ((id, q).1 == p) = true by simpa using h, if_pos h]; rfl
  · rw [show ((id, q).1 == p) = false by simpa using h, if_neg h]; rfl
theorem listD_one (id : Int) (q r : UInt8) : listD [(id, q)] r = if q = r then [id] else [] := by
  unfold listD
  rw [List.filter_cons]
  by_cases h : q = r
  · rw [show ((id, q).2 == r) = true by simpa using h, if_pos rfl, if_pos h]; simp
  · rw [show ((id, q).2 == r) = false by simpa using h, if_neg (by simp), if_neg h]; simp
theorem nameD_ne {q r : UInt8} {id : Int} (hq : allQ.contains q = true) (hr : allQ.contains r = true) (h1 : 1 ≤ id) (h2 : id ≤ 999999999) (h : q ≠ r) : nameD q id ≠ nameD r id := fun e => by
  rw [nameD_of hq h1 h2, nameD_of hr h1 h2] at e
  injection e with e _
  exact h e
end Go.Proofs.YtffnbkmigapmjaaGreatDoor

set_option linter.unusedSimpArgs false
set_option linter.unusedVariables false
set_option maxRecDepth 100000
namespace Go.Proofs.YtffnbkmigapmjaaGreatDoor
theorem recS_inv {nm : Nm} {q : UInt8} {id er : Int} {d d' : StoD} (hn : StoOf nm q id) (h : RecS nm d er d') :
    (keepQ.contains q = false ∧ er = 0 ∧ d' = { d with whr := d.whr.put id q }) ∨ (keepQ.contains q = true ∧ MendR { d with whr := d.whr.put id q } q id er d') := by
  rcases h with ⟨h0, _⟩ | ⟨q', m, hm, h⟩
  · exact absurd hn (h0 q id)
  · obtain ⟨rfl, rfl⟩ := StoOf.inj hn hm
    exact h
theorem par_one {d : StoD} {id er : Int} {q : UInt8} {d' : StoD} (hid : 1 ≤ id) (hw : d.whr = [(id, q)]) (hk : keepQ.contains q = true) (hp : ((sfileD d id).getD FileD.zero).mail.parent ≠ id) (h : OutL ParS (parL d) d er d') : er = 0 ∧ d' = d := by
  have hl : parL d = [] ∨ parL d = [id] := by
    unfold parL
    rw [hw]
    simp only [List.flatMap_cons, List.flatMap_nil, listD_one, List.append_nil]
    have hm : q ∈ keepQ := by simpa using hk
    have : q = 105 ∨ q = 97 ∨ q = 100 ∨ q = 104 := by simpa [keepQ] using hm
    rcases this with rfl | rfl | rfl | rfl
    · right; simp
    · right; simp
    · right; simp
    · left; simp
  rcases hl with hl | hl
  · rw [hl] at h; exact outL_nil h
  · rw [hl] at h
    rcases outL_one h with ⟨_, h1, h2⟩ | ⟨_, h1, _⟩
    · exact ⟨h1, h2⟩
    · rw [hw, at_one, if_neg (fun e => hp e.symm)] at h1
      exact absurd h1 (by decide)
end Go.Proofs.YtffnbkmigapmjaaGreatDoor

/-
  A disk that is well: a file is laid anew; a number more (plain).
  A crash of a disk, as data; the walk of fs.Fuse.
  The walks of store.Where, ready, good.
  The walks of env.sum and pillarboxref01.Bytes.
  A mail's record, as plain bytes; a Writer step by step.
-/
import Derived.Test.YtffnbkmigapmjaaGreatDoorT7
import Derived.Test.YtffnbkmigapmjaaGreatDoorT8
import Derived.Test.YtffnbkmigapmjaaGreatDoorT14
import Derived.Test.YtffnbkmigapmjaaGreatDoorT16
import Derived.Test.YtffnbkmigapmjaaGreatDoorT24
import Derived.Test.YtffnbkmigapmjaaGreatDoorT25
set_option linter.unusedSimpArgs false
set_option linter.unusedVariables false
set_option maxRecDepth 100000
namespace Go.Proofs.YtffnbkmigapmjaaGreatDoor
theorem nameCh_digit {s : List UInt8} {a v : Nat} (h : Lib.decFrom a s = some v) : s.all nameCh = true := by
  rw [List.all_eq_true]
  intro c hc
  obtain ⟨i, hi, rfl⟩ := List.getElem_of_mem hc
  obtain ⟨d, hd⟩ := Lib.digit_of_decFrom _ _ _ h i s[i] (List.getElem?_eq_getElem hi)
  obtain ⟨h1, h2, _⟩ := Lib.digitVal_eq hd
  have h1' : 48 ≤ s[i].toNat := h1
  have h2' : s[i].toNat ≤ 57 := h2
  unfold nameCh
  exact decide_eq_true ⟨by omega, by omega, by omega⟩
theorem rightD_app {a : Nm} {n : Nat} (ha : a.all nameCh = true) (h0 : a ≠ []) (hl : a.length ≤ 71) (hn : n ≤ 999999999) : rightD (a ++ numD n) = true := by
  unfold rightD
  rw [List.all_append, ha, nameCh_digit (decFrom_numD n), Bool.and_true, Bool.true_and, Bool.and_eq_true]
  have := numD_length hn
  exact ⟨decide_eq_true (by simp [h0]), decide_eq_true (by rw [List.length_append]; omega)⟩
theorem rightD_nameD {q : UInt8} {n : Int} (h0 : allQ.contains q = true) (h1 : 1 ≤ n) (h2 : n ≤ 999999999) : rightD (nameD q n) = true := by
  rw [nameD_of h0 h1 h2]
  refine rightD_app ?_ (by simp) (by simp) (by omega)
  have hq : nameCh q = true := by
    have hm : q ∈ allQ := by simpa using h0
    have hall : allQ.all nameCh = true := by decide
    exact List.all_eq_true.1 hall q hm
  rw [List.all_cons, hq]; decide
theorem rightD_ids {n : Int} (h : 0 ≤ n ∧ n ≤ 999999999) : rightD (idsNameD n) = true := by
  rw [idsNameD_of h]
  exact rightD_app (by decide) (by decide) (by decide) (by omega)
theorem run_good {S : Nat → FsD → Int → FsD → Prop} {V : Nat → FsD → Prop} {n : Nat} {d : FsD} (h0 : V 0 d) (hs : ∀ i a er b, i < n → V i a → S i a er b → er = 0 ∧ V (i + 1) b) :
    ∀ er fs, Outcome S n d er fs → er = 0 ∧ V n fs := by
  have hr : ∀ i a, i ≤ n → Run S d i a → V i a := by
    intro i
    induction i with
    | zero => intro a _ h; rw [h.zero_inv]; exact h0
    | succ i ih =>
      intro a hi h
      obtain ⟨b, h1, h2⟩ := h.inv
      exact (hs i b 0 a (by omega) (ih b (by omega) h1) h2).2
  intro er fs ho
  rcases ho with ⟨rfl, h⟩ | ⟨hne, i, a, hi, h1, h2⟩
  · exact ⟨rfl, hr n fs (Nat.le_refl _) h⟩
  · exact absurd (hs i a er fs hi (hr i a (by omega) h1) h2).1 hne
section
variable {d : FsD} {C : Cont} {N U : Nat} {R : Int}
theorem Vw.lay (h : Vw d C N U R) {tmp nm : Nm} {bs : List UInt8} (ht : rightD tmp = true) (hn : rightD nm = true) (hne : tmp ≠ nm) (hC : C tmp = none) (hN : N < 256) (hR : (bs.length : Int) ≤ R - U) {er : Int} {fs : FsD} (ho : Outcome (layS tmp nm bs) 6 d er fs) :
    er = 0 ∧ Vw fs (updC C nm (some bs)) (if (C nm).isSome then N else N + 1) (U + bs.length - ((C nm).getD []).length) R := by
  let C1 : Cont := updC C tmp (some [])
  let C2 : Cont := updC C1 tmp (some ([] ++ bs))
  let C3 : Cont := updC (updC C2 nm (some bs)) tmp none
  have e2 : C2 tmp = some bs := updC_same _ _ _
  have e2n : C2 nm = C nm := by rw [show C2 nm = C1 nm from updC_other _ _ hne]; exact updC_other _ _ hne
  let V : Nat → FsD → Prop := fun i a => match i with
    | 0 => Vw a C N U R
    | 1 => Vw a C N U R
    | 2 => Vw a C1 (N + 1) U R
    | 3 => Vw a C2 (N + 1) (U + bs.length) R
    | 4 => Vw a C2 (N + 1) (U + bs.length) R
    | _ => Vw a C3 (if (C2 nm).isSome then N + 1 - 1 else N + 1) (U + bs.length - ((C2 nm).getD []).length) R
  obtain ⟨r1, r2⟩ := run_good (V := V) (n := 6) (d := d) (S := layS tmp nm bs) h (by
    intro i a er b hi hV hS
    match i, hi, hV, hS with
    | 0, _, hV, ⟨v, lv, he, hb⟩ =>
      have hV : Vw a C N U R := hV
      rw [hV.unlink_none ht hC] at he hb
      subst he; subst hb
      exact ⟨rfl, hV⟩
    | 1, _, hV, ⟨x, v, lv, he, hb⟩ =>
      have hV : Vw a C N U R := hV
      obtain ⟨q1, q2⟩ := hV.create ht hC hN x v lv
      subst he; subst hb
      exact ⟨q1, q2⟩
    | 2, _, hV, ⟨row, he, hb⟩ =>
      have hV : Vw a C1 (N + 1) U R := hV
      obtain ⟨q1, q2⟩ := hV.append (b := []) (bs := bs) ht (updC_same _ _ _) hR row
      subst he; subst hb
      exact ⟨q1, q2⟩
    | 3, _, hV, ⟨he, hb⟩ =>
      have hV : Vw a C2 (N + 1) (U + bs.length) R := hV
      obtain ⟨q1, q2⟩ := hV.sync ht e2
      subst he; subst hb
      exact ⟨q1, q2⟩
    | 4, _, hV, ⟨v, lv, he, hb⟩ =>
      have hV : Vw a C2 (N + 1) (U + bs.length) R := hV
      obtain ⟨q1, q2⟩ := hV.rename ht hn hne e2 v lv
      subst he; subst hb
      exact ⟨q1, q2⟩
    | 5, _, hV, ⟨ms, he, hb⟩ =>
      have hV : Vw a C3 (if (C2 nm).isSome then N + 1 - 1 else N + 1) (U + bs.length - ((C2 nm).getD []).length) R := hV
      obtain ⟨q1, q2⟩ := hV.dirSync ms
      subst he; subst hb
      exact ⟨q1, q2⟩) er fs ho
  have r2 : Vw fs C3 (if (C2 nm).isSome then N + 1 - 1 else N + 1) (U + bs.length - ((C2 nm).getD []).length) R := r2
  rw [e2n] at r2
  refine ⟨r1, ?_⟩
  have hN1 : N + 1 - 1 = N := by omega
  rw [hN1] at r2
  refine r2.congr (fun m => ?_)
  by_cases h1 : tmp = m
  · rw [← h1]
    show updC (updC C2 nm (some bs)) tmp none tmp = updC C nm (some bs) tmp
    rw [updC_same, updC_other _ _ (fun e => hne e.symm), hC]
  · show updC (updC C2 nm (some bs)) tmp none m = updC C nm (some bs) m
    rw [updC_other _ _ h1]
    by_cases h2 : nm = m
    · rw [← h2, updC_same, updC_same]
    · rw [updC_other _ _ h2, updC_other _ _ h2]
      show updC C1 tmp _ m = _
      rw [updC_other _ _ h1]
      exact updC_other _ _ h1
end
section
variable {d d' : StoD} {C : Cont} {N U : Nat} {R er : Int}
theorem MoreR.vw0 (h : MoreR d er d') (hv : Vw d.fs C N U R) (hN : N < 256) (hb : 0 ≤ moreB d ∧ moreB d ≤ 999999999) (hnew : C (idsNameD (moreB d)) = none) (hnf : d.nfile = []) :
    er = 0 ∧ Vw d'.fs (updC C (idsNameD (moreB d)) (some [])) (N + 1) U R ∧ d'.bound = moreB d ∧ d'.nfile = idsNameD (moreB d) := by
  obtain ⟨x, v, lv, h⟩ := h
  obtain ⟨q1, q2⟩ := hv.create (rightD_ids hb) hnew hN x v lv
  rcases h with ⟨h1, _⟩ | ⟨_, f1, ms, f2, e2, h1, h2, h3⟩
  · exact absurd q1 h1
  · rw [← h1] at q2
    obtain ⟨q3, q4⟩ := q2.dirSync ms
    have e2' : e2 = (dirSyncD f1 ms).1 := congrArg Prod.fst h2
    have f2' : f2 = (dirSyncD f1 ms).2 := congrArg Prod.snd h2
    rw [← e2'] at q3
    rw [← f2'] at q4
    rcases h3 with ⟨h4, _⟩ | ⟨_, _, h5, h6⟩ | ⟨_, h5, _⟩
    · exact absurd q3 h4
    · subst h6; exact ⟨h5, q4, rfl, rfl⟩
    · exact absurd hnf h5
end
end Go.Proofs.YtffnbkmigapmjaaGreatDoor

set_option linter.unusedSimpArgs false
set_option linter.unusedVariables false
set_option maxRecDepth 100000
namespace Go.Proofs.YtffnbkmigapmjaaGreatDoor
open Go.RowKit Go.Maps
/-- How many of a file's bytes are sure behind a crash that keeps b of those that were not. -/
def sureTo (b : Nat) (c : FileC) : Nat := c.sure + min b (c.bytes.length - c.sure)
structure Cut1 (b : Nat) (c c' : FileC) : Prop where
  bytes : c'.bytes = c.bytes.take (sureTo b c)
  sure : c'.sure = sureTo b c
theorem sureTo_le {b : Nat} {c : FileC} (h : c.sure ≤ c.bytes.length) : sureTo b c ≤ c.bytes.length := by unfold sureTo; omega
theorem Cut1.len {b : Nat} {c c' : FileC} (h : Cut1 b c c') (hs : c.sure ≤ c.bytes.length) : c'.bytes.length = sureTo b c := by
  rw [h.bytes, List.length_take]; have := sureTo_le (b := b) hs; omega
theorem Cut1.again {b : Nat} {c c' c'' : FileC} (h : Cut1 b c c') (hs : c.sure ≤ c.bytes.length) (h' : Cut1 b c' c'') : Cut1 b c c'' := by
  have hl := h.len hs
  have e : sureTo b c' = sureTo b c := by
    have : sureTo b c' = c'.sure + min b (c'.bytes.length - c'.sure) := rfl
    rw [this, hl, h.sure]; omega
  refine ⟨?_, ?_⟩
  · rw [h'.bytes, e, h.bytes, List.take_take, Nat.min_self]
  · rw [h'.sure, e]
/-- The files behind a crash, of which some are cut already. -/
def CutF (b : Nat) (F G : Nat → Option FileC) (P : Nat → Prop) : Prop :=
  ∀ x, (F x = none → G x = none) ∧ ∀ c, F x = some c → ∃ c', G x = some c' ∧ (Cut1 b c c' ∨ (c' = c ∧ ¬ P x))
theorem CutF.start {b : Nat} {F : Nat → Option FileC} {P : Nat → Prop} (h : ∀ x, ¬ P x) : CutF b F F P := fun x => ⟨id, fun c hc => ⟨c, hc, .inr ⟨rfl, h x⟩⟩⟩
theorem CutF.step {b : Nat} {F G : Nat → Option FileC} {P Q : Nat → Prop} {x : Nat} {c c' : FileC} (hs : ∀ c, F x = some c → c.sure ≤ c.bytes.length) (h : CutF b F G P) (hx : G x = some c) (hc : Cut1 b c c') (hq : ∀ y, Q y → P y ∨ y = x) :
    CutF b F (fun k => if k = x then some c' else G k) Q := by
  intro y
  by_cases e : y = x
  · subst e
    refine ⟨fun h0 => ?_, fun c0 h0 => ⟨c', if_pos rfl, .inl ?_⟩⟩
    · have := (h y).1 h0; rw [hx] at this; cases this
    · obtain ⟨c1, h1, h2⟩ := (h y).2 c0 h0
      rw [hx] at h1; cases h1
      rcases h2 with h2 | ⟨h2, _⟩
      · exact h2.again (hs _ h0) hc
      · rw [← h2]; exact hc
  · refine ⟨fun h0 => (if_neg e).trans ((h y).1 h0), fun c0 h0 => ?_⟩
    obtain ⟨c1, h1, h2⟩ := (h y).2 c0 h0
    refine ⟨c1, (if_neg e).trans h1, ?_⟩
    rcases h2 with h2 | ⟨h2, h3⟩
    · exact .inl h2
    · exact .inr ⟨h2, fun q => (hq y q).elim h3 e⟩
/-- Which files of a directory a walk over it has seen. -/
def seenF (l : Dir) (left : Lit → Bool) (x : Nat) : Prop := ∃ n, (n, x) ∈ l ∧ left (.string n) = false
theorem seenF_start {l : Dir} : ∀ x, ¬ seenF l (Maps.has (dirD l)) x := by
  rintro x ⟨n, h1, h2⟩
  rw [dirD_has] at h2
  unfold Dir.look at h2
  rw [Option.isSome_map, ← Bool.not_eq_true, List.find?_isSome] at h2
  exact h2 ⟨_, h1, by simp⟩
theorem seenF_step {l : Dir} {left : Lit → Bool} {n : Nm} {x : Nat} (hk : l.Pairwise (fun p q => p.1 ≠ q.1)) (hl : (n, x) ∈ l) : ∀ y, seenF l (fun z => left z && !z.sameKey (.string n)) y → seenF l left y ∨ y = x := by
  rintro y ⟨m, h1, h2⟩
  cases hm : left (.string m) with
  | false => exact .inl ⟨m, h1, hm⟩
  | true =>
    have h2 : (left (.string m) && !(Lit.string m).sameKey (.string n)) = false := h2
    rw [hm, same_str] at h2
    have e : m = n := by simpa using h2
    subst e
    refine .inr ?_
    have : ∀ {l : Dir}, l.Pairwise (fun p q => p.1 ≠ q.1) → ((m, x) : Nm × Nat) ∈ l → (m, y) ∈ l → y = x := by
      intro l
      induction l with
      | nil => intro _ h; cases h
      | cons p r ih =>
        intro hp h3 h4
        obtain ⟨h5, h6⟩ := List.pairwise_cons.1 hp
        rcases List.mem_cons.1 h3 with e3 | h3
        · rcases List.mem_cons.1 h4 with e4 | h4
          · rw [← e3] at e4; cases e4; rfl
          · exact absurd (by rw [← e3]) (h5 _ h4)
        · rcases List.mem_cons.1 h4 with e4 | h4
          · exact absurd (by rw [← e4]) (h5 _ h3)
          · exact ih h6 h3 h4
    exact this hk hl h1
/-- The directory behind some of the changes that were not sure. -/
def playD (d : FsD) (k : Nat) : Dir := (d.loose.take k).foldl (fun l p => p.1.on l) d.sure
theorem playD_zero (d : FsD) : playD d 0 = d.sure := rfl
theorem playD_succ {d : FsD} {k : Nat} {p : Chg × Value} (h : d.loose[k]? = some p) : playD d (k + 1) = p.1.on (playD d k) := by
  unfold playD
  rw [List.take_add_one, h, List.foldl_append]; rfl
/-- Can the changes that are not sure be done again? -/
structure Plays (d : FsD) (k : Nat) : Prop where
  file : ∀ j, j ≤ k → ∀ p ∈ playD d j, (d.file p.2).isSome = true
  ren : ∀ j, j < k → ∀ a b v, d.loose[j]? = some (.rename a b, v) → ((playD d j).look a).isSome = true
  len : ∀ j, j ≤ k → (playD d j).length < 1000000
/-- A disk behind a crash. -/
structure CrashR (d : FsD) (k b : Nat) (d' : FsD) : Prop where
  now : d'.now = playD d k
  sure : d'.sure = playD d k
  loose : d'.loose = []
  room : d'.room = d.room
  fuse : d'.fuse = -1
  down : d'.down = false
  file : CutF b d.file d'.file (fun x => ∃ n, (n, x) ∈ playD d k)
set_option maxHeartbeats 4000000 in
theorem fuse_calls (f : Nat) (d : FsD) (ρ : Rho) (n : Int) (w : World) (h : FsAt w f d ρ) :
    Calls Tryz.prog 28 #[.pointer (some ⟨f, 0, none⟩), .int .i64 n] w fun e w' => e = .returned (.tuple #[]) ∧ FsAt w' f { d with fuse := max n 0 } ρ ∧ Keeps (fun k => k = f) w w' := by
  obtain ⟨⟨c0, c1, c2, c3, c4, c5⟩, hfz⟩ := fsHd_cells h.hd
  have f4 := hfz 4
  have H := Lib.hid h
  clear c0 c1 c2 c3 c5 hfz h
  have hcase : (n < 0 ∧ max n 0 = 0) ∨ (0 ≤ n ∧ max n 0 = n) := by omega
  have hfin : ∀ r : Int, r = max n 0 → FsAt (w.setCell ⟨f, 4, none⟩ (.int .i64 r)) f { d with fuse := max n 0 } ρ ∧ Keeps (fun k => k = f) w (w.setCell ⟨f, 4, none⟩ (.int .i64 r)) := by
    intro r hr
    subst hr
    have hk : Keeps (fun k => k = f) w (w.setCell ⟨f, 4, none⟩ (.int .i64 (max n 0))) := Keeps.setCell _ _ _ rfl
    exact ⟨H.out.head hk (heap_setCell_same _ _ 4 _ _ _ H.out.hd) (fun r => ⟨r.rnow, r.rsure, r.dnow, r.dsure, r.rlv, r.own, r.chg, r.files, r.fnow, r.fsure, r.lt⟩), hk⟩
  have Hfin := Lib.hid hfin
  clear hfin
  rcases hcase with ⟨h1, h2⟩ | ⟨h1, h2⟩
  all_goals
    have H2 := Lib.hid h2
    clear h2
    go_enter Tryz.func28, Tryz.ntmps28
    go_wp2
    go_end0
    exact ⟨rfl, Hfin.out _ (by rw [H2.out] <;> first | rfl | omega)⟩
/-- Behind a crash: the directory, and the head, are other ones. -/
theorem FsRest.reborn {w w' : World} {d : FsD} {ρ : Rho} {f mn : Nat} (h : FsRest w d ρ) (hf : ρ f = some .fs) (hk : Keeps (fun k => k = f) w w') (hd : DirAt w' mn d.sure) (hmn : ρ mn = none) : FsRest w' { d with now := d.sure, mn := mn, loose := [], lv := .slice none 0 0, fuse := -1, down := false } (ρ.set mn .now) := by
  have hup := Rho.set_up (r0 := .now) hmn
  have h' := h.keeps hk (fun k e => .inr (by rw [e]; exact hf))
  have hlt : mn < w'.heap.size := hd.lt
  exact ⟨Rho.set_same _ _ _, hup _ _ h'.rsure, hd, h'.dsure, (fun k e => by cases e), World.ownsRow_nil _ _ _ _, (fun p hp => by cases hp), fun x c hx => (h'.files x c hx).mono hup, h'.fsure, h'.fsure, Rho.set_lt hlt h'.lt⟩
/-- The sure directory is another one. -/
theorem FsRest.sureSet {w w' : World} {d : FsD} {ρ : Rho} {l' : Dir} (h : FsRest w d ρ) (hk : Keeps (fun k => k = d.ms) w w') (hd : DirAt w' d.ms l') (hl : ∀ p ∈ l', (d.file p.2).isSome = true) : FsRest w' { d with sure := l' } ρ := by
  have hn : ∀ {k : Nat} {r : Role}, ρ k = some r → r ≠ .sure → ¬ k = d.ms := fun h1 h2 h3 => by
    rw [h3, h.rsure] at h1; exact h2 (Option.some.inj h1).symm
  exact ⟨h.rnow, h.rsure, ownsMap_keeps h.dnow hk (hn h.rnow (by decide)), hd, h.rlv, own_keeps h.own hk (fun k e => hn (h.rlv k e) (by decide)),
    fun p hp => (h.chg p hp).keeps hk (fun k e g => hn g (by decide) e), fun x c hx => (h.files x c hx).keeps hk (hn (h.files x c hx).role (by decide)) (fun k e g => hn g (by intro q; cases q) e),
    h.fnow, hl, fun k e => Nat.lt_of_lt_of_le (h.lt k e) hk.size⟩
theorem ranges_keeps {F : Nat → Prop} {w w' : World} {k : TypeId} {R : Value → Option (DataW Unit × List MemPlace)} {b r n : Nat} {D : DataW Unit} {left : Lit → Bool} {cnt : Nat} (h : w.ranges Tryz.prog k R b r n D left cnt) (hk : Keeps F w w') (hb : ¬ F b) (hr : ¬ F r) : w'.ranges Tryz.prog k R b r n D left cnt := by
  obtain ⟨es, clock, since, seen, c0, hb', F', hs, hD, hr', rest⟩ := h
  exact ⟨es, clock, since, seen, c0, hk.heap hb' hb, F', hs, hD, hk.heap hr' hr, rest⟩
def cv1 (v : Value) : List Value := [v]
theorem rdL_pre {α : Type} {s : Nat} {f : α → List Value} {w : World} {a : Option Addr} {len cap : Nat} {xs : List α} (h : RdL s f w (.slice a len cap) xs) (k : Nat) (hk : k ≤ xs.length) : RdL s f w (.slice a k cap) (xs.take k) := by
  rcases h with ⟨a', c, hv, hc, rfl⟩ | ⟨b, off, cap', hv, hne, h1, h2, h3, h4⟩
  · cases hv
    obtain rfl : k = 0 := by simpa using hk
    exact .inl ⟨_, _, rfl, hc, rfl⟩
  · cases hv
    by_cases e : k = 0
    · subst e; exact .inl ⟨_, _, rfl, h2, rfl⟩
    · have hl : (xs.take k).length = k := by rw [List.length_take]; omega
      refine .inr ⟨b, off, cap, by rw [hl], by intro h; rw [h] at hl; simp at hl; omega, by omega, h2, h3, ?_⟩
      intro i x hx j u hu
      rw [List.getElem?_take] at hx
      split at hx
      · exact h4 i x hx j u hu
      · cases hx
theorem cv1_len (v : Value) : (cv1 v).length = 1 := rfl
theorem cv1_flat (l : List Value) : l.flatMap cv1 = l := by
  induction l with
  | nil => rfl
  | cons a l ih => rw [List.flatMap_cons, ih]; rfl
theorem Rho.add_up2 {w : World} {ρ : Rho} {v' : Value} {r0 : Role} (hlt : ∀ k, (ρ k).isSome = true → k < w.heap.size) (hloc : ∀ k, v'.ownBlock = some k → w.heap.size ≤ k) :
    ∀ k r, ρ k = some r → (ρ.add v' r0) k = some r := by
  intro k r hr
  unfold Rho.add
  by_cases e : v'.ownBlock = some k
  · have := hlt k (by rw [hr]; rfl)
    have := hloc k e
    omega
  · rw [if_neg e]; exact hr
theorem Rho.add_has2 {w : World} {ρ : Rho} {v' : Value} {r0 : Role} (hloc : ∀ k, v'.ownBlock = some k → w.heap.size ≤ k) :
    ∀ k, (ρ.add v' r0).has k → ρ.has k ∨ w.heap.size ≤ k := by
  intro k hk
  unfold Rho.has Rho.add at hk
  by_cases e : v'.ownBlock = some k
  · exact .inr (hloc k e)
  · rw [if_neg e] at hk; exact .inl hk
end Go.Proofs.YtffnbkmigapmjaaGreatDoor

set_option linter.unusedSimpArgs false
set_option linter.unusedVariables false
set_option maxRecDepth 100000
namespace Go.Proofs.YtffnbkmigapmjaaGreatDoor
open Go.RowKit Go.Maps
def Wh.at (l : Wh) (n : Int) : UInt8 := (l.look n).getD 0
set_option maxHeartbeats 4000000 in
theorem where_calls (s : Nat) (d : StoD) (ρ : Rho) (w : World) (h : StoAt w s d ρ) (id : Int) (hid : -9223372036854775808 ≤ id ∧ id ≤ 9223372036854775807) :
    Calls Tryz.prog 18 #[.pointer (some ⟨s, 0, none⟩), .int .i64 id] w fun e w' => e = .returned (.int .u8 ((d.whr.at id).toNat : Int)) ∧ Below w.heap.size w w' := by
  have hb : Below w.heap.size w w.drew := (Below.refl _ _).drew
  have c2 := (cells4 h.hd).1.2.2.1
  have hl := wh_look h.whr id hid
  have hl2 := wh_look (h.below hb).whr id hid
  have Hq : Hid (d.whr.at id = (d.whr.look id).getD 0) := Lib.hid rfl
  obtain ⟨qv, hqv⟩ : ∃ qv : Nat, ((d.whr.look id).getD 0).toNat = qv := ⟨_, rfl⟩
  rw [hqv] at hl hl2
  have Hqv := Lib.hid hqv
  have Hb := Lib.hid hb
  clear h hid hqv hb
  go_enter Tryz.func18, Tryz.ntmps18
  go_wp2
  try go_region
  all_goals try go_wp2
  all_goals
    go_ret
    rw [Hq.out, Hqv.out]
    first | exact ⟨rfl, Hb.out⟩ | exact ⟨rfl, Below.refl _ _⟩
set_option maxHeartbeats 4000000 in
theorem sready_calls (s : Nat) (d : StoD) (ρ : Rho) (w : World) (h : StoAt w s d ρ) :
    Calls Tryz.prog 64 #[.pointer (some ⟨s, 0, none⟩)] w fun e w' => e = .returned (.int .i64 (if d.down then 2 else 0)) ∧ Below w.heap.size w w' := by
  have c3 := (cells4 h.hd).1.2.2.2
  cases hd : d.down with
  | true =>
    rw [hd] at c3
    clear h hd
    go_enter Tryz.func64, Tryz.ntmps64
    go_wp2
    go_ret
    exact ⟨rfl, Below.refl _ _⟩
  | false =>
    rw [hd] at c3
    clear h hd
    go_enter Tryz.func64, Tryz.ntmps64
    go_wp2
    go_ret
    exact ⟨rfl, Below.refl _ _⟩
end Go.Proofs.YtffnbkmigapmjaaGreatDoor

set_option linter.unusedSimpArgs false
set_option linter.unusedVariables false
namespace Go.Proofs.YtffnbkmigapmjaaGreatDoor
open Go.RowKit
set_option maxRecDepth 100000 in
set_option maxHeartbeats 1000000 in
theorem envSum_calls (v : Value) (bs : List UInt8) (w : World) (hv : RdB w v bs) :
    Calls Tryz.prog 144 #[v] w (RowDone w (be4 (PbCrc.sum bs))) := by
  go_enter Tryz.func144, Tryz.ntmps144
  go_wp2_with fail
  refine (crcSum_calls _ _ _ hv).mono ?_; rintro e w1 ⟨rfl, hb1⟩
  obtain ⟨c, hcs⟩ : ∃ c, PbCrc.sum bs = c := ⟨_, rfl⟩
  rw [hcs]
  have hlt := c.isLt
  have hc0 : (0 : Int) ≤ (c.toNat : Int) := by omega
  have u24 : IntKind.u8.wrap ((c.toNat : Int) / 16777216) = ((UInt8.ofNat (c.toNat / 2 ^ 24)).toNat : Int) := wrap_u8_shr c.toNat 24
  have u16 : IntKind.u8.wrap ((c.toNat : Int) / 65536) = ((UInt8.ofNat (c.toNat / 2 ^ 16)).toNat : Int) := wrap_u8_shr c.toNat 16
  have u8' : IntKind.u8.wrap ((c.toNat : Int) / 256) = ((UInt8.ofNat (c.toNat / 2 ^ 8)).toNat : Int) := wrap_u8_shr c.toNat 8
  have u0 : IntKind.u8.wrap (c.toNat : Int) = ((UInt8.ofNat c.toNat).toNat : Int) := wrap_u8_nat c.toNat
  have hfin : be4 (PbCrc.sum bs) = [UInt8.ofNat (c.toNat / 2 ^ 24), UInt8.ofNat (c.toNat / 2 ^ 16), UInt8.ofNat (c.toNat / 2 ^ 8), UInt8.ofNat c.toNat] := by rw [hcs]; rfl
  generalize UInt8.ofNat (c.toNat / 2 ^ 24) = b0 at u24 hfin
  generalize UInt8.ofNat (c.toNat / 2 ^ 16) = b1 at u16 hfin
  generalize UInt8.ofNat (c.toNat / 2 ^ 8) = b2 at u8' hfin
  generalize UInt8.ofNat c.toNat = b3 at u0 hfin
  have Hfin := Lib.hid hfin
  clear hfin hcs
  go_wp2
  go_ret
  refine ⟨_, rfl, by rw [Hfin.out]; exact own_mono (World.ownsRow_lit w1 #[u8v b0, u8v b1, u8v b2, u8v b3] 4 (Nat.le_refl _) (by decide) rfl) hb1.size, hb1.alloc hb1.size _⟩
end Go.Proofs.YtffnbkmigapmjaaGreatDoor

set_option linter.unusedSimpArgs false
set_option linter.unusedVariables false
namespace Go.Proofs.YtffnbkmigapmjaaGreatDoor
open Go.RowKit
theorem nilOk_own {w : World} {base : Nat} {e : TypeId} {size : Nat} {v : Value} {n : Nat} {xs : List Value} (h : w.ownsRow base e size v n xs) : NilOk v := by
  obtain ⟨_, ⟨h2, h3⟩ | ⟨g, cap, cur, hv', _⟩⟩ := h
  · intro l c e; rw [e] at h2; cases h2; exact ⟨rfl, rfl⟩
  · intro l c e; rw [e] at hv'; cases hv'
/-- What is summed of a mail. -/
def MailD.inner (m : MailD) : List UInt8 :=
  ((((num8 m.id.toNat ++ num8 m.parent.toNat ++ num8 m.born.toNat) ++ lenB m.frm) ++ num8 m.rcpts.length) ++ m.rcpts.flatMap lenB) ++ lenB m.body
/-- A mail's record. -/
def MailD.record (m : MailD) : List UInt8 := lenB m.inner ++ be4 (PbCrc.sum m.inner)
theorem lenB_length (l : List UInt8) : (lenB l).length = 8 + l.length := by rw [lenB, List.length_append, num8_length]
theorem flat_lenB_le (ls : List (List UInt8)) (k : Nat) (h : ∀ l ∈ ls, l.length ≤ k) : (ls.flatMap lenB).length ≤ ls.length * (8 + k) := by
  induction ls with
  | nil => simp
  | cons x xs ih =>
    rw [List.flatMap_cons, List.length_append, lenB_length, List.length_cons, Nat.succ_mul]
    have := ih (fun l hl => h l (List.mem_cons_of_mem _ hl))
    have := h x List.mem_cons_self
    omega
/-- A text turned to bytes: a row that is new. -/
theorem conv_text (l : List UInt8) (hs : l.length ≤ 4294967280) (w : World) :
    ∃ C W, (convert 9 22 (.string (strL l))).run Tryz.prog w = .ok (.slice (some ⟨w.heap.size, 0, none⟩) l.length C) W ∧ RdB W (.slice (some ⟨w.heap.size, 0, none⟩) l.length C) l ∧ Below w.heap.size w W := by
  have h := run_bytes_of_string (P := Tryz.prog) w 9 22 5 (strL l) Tryz.underlying9 Tryz.underlying22 Tryz.underlying5
  rw [strL_size] at h
  have hcm : grownCap w l.length 0 5 ≤ 9223372036854775807 := grownCap_le_maxLen w l.length 0 5 (by show _ ≤ 9223372036854775807; omega)
  refine ⟨_, _, h, ?_, (Below.refl _ _).drew.alloc (Nat.le_refl _) _⟩
  by_cases hl : l = []
  · subst hl; exact .inl ⟨_, _, rfl, hcm, rfl⟩
  · refine .inr ⟨_, 0, _, rfl, hl, grownCap_ge _ _ _ _, hcm, by simp [World.alloc], fun j x hx => ?_⟩
    have hi := (List.getElem?_eq_some_iff.1 hx).1
    have hbl : (w.drew.alloc (.cells (bytesRow (strL l) (grownCap w l.length 0 5)) 5 ((bytesRow (strL l) (grownCap w l.length 0 5)).size, (bytesRow (strL l) (grownCap w l.length 0 5)).size + 1))).heap[w.heap.size]? = some (.cells (bytesRow (strL l) (grownCap w l.length 0 5)) 5 ((bytesRow (strL l) (grownCap w l.length 0 5)).size, (bytesRow (strL l) (grownCap w l.length 0 5)).size + 1)) := heap_alloc_new w.drew _
    rw [cell_of_row _ _ _ _ _ _ hbl]
    have h2 := bytesRow_at (strL l) (grownCap w l.length 0 5) j (by simp [strL]; exact hi)
    rw [Nat.zero_add, h2]
    have : (strL l).data[j]'(by simp [strL]; exact hi) = x := by
      have := (List.getElem?_eq_some_iff.1 hx).2
      simp [strL, this]
    rw [this]
/-- A Writer that is not bad, behind a beginning. -/
def WrOn (W0 : World) (b : Nat) (w : World) (bs : List UInt8) : Prop := ∃ v, WrAt w b W0.heap.size v bs false ∧ Keeps (fun k => k = b) W0 w
theorem WrOn.start {W0 : World} {b : Nat} (h : W0.heap[b]? = some (.cells #[.slice none 0 0, .bool false] 167 (0, 0))) : WrOn W0 b W0 [] :=
  ⟨.slice none 0 0, ⟨h, World.ownsRow_nil _ _ _ _, by simp [Value.ownBlock]⟩, Keeps.refl _ _⟩
theorem WrOn.go {W0 : World} {b : Nat} {w w' : World} {bs : List UInt8} (h : WrOn W0 b w bs) (hb : Below w.heap.size w w') : WrOn W0 b w' bs := by
  obtain ⟨v, hW, hK⟩ := h
  have hbS := (Array.getElem?_eq_some_iff.1 hW.blk).1
  exact ⟨v, ⟨(hb.block _ hbS).trans hW.blk, own_below hW.own hb (Nat.le_refl _), hW.ne⟩, hK.trans (Keeps.ofBelow hb)⟩
theorem WrOn.of {W0 : World} {b : Nat} {w : World} {v : Value} {bs cs : List UInt8} (hW : WrAt w b W0.heap.size v bs false) (hK : Keeps (fun k => k = b) W0 w) {e : Ending} {w' : World} (h : WrDone w b W0.heap.size v cs false e w') :
    e = .returned (.tuple #[]) ∧ WrOn W0 b w' cs := by
  obtain ⟨v', rfl, hW', hK', _⟩ := h
  refine ⟨rfl, v', hW', hK.go hK' (fun k hk => ?_)⟩
  rcases hk with h | h
  · exact .inl h
  · exact .inr (own_base hW.own k h)
theorem WrOn.num {W0 : World} {b : Nat} {w : World} {bs : List UInt8} (h : WrOn W0 b w bs) (n : Nat) (hn : n ≤ 4611686018427387904) (hl : bs.length ≤ 1000000000) :
    Calls Tryz.prog 117 #[.pointer (some ⟨b, 0, none⟩), .int .i64 n] w fun e w' => e = .returned (.tuple #[]) ∧ WrOn W0 b w' (bs ++ num8 n) := by
  obtain ⟨v, hW, hK⟩ := h
  exact (wNum_good b W0.heap.size v bs false n w hW hn hK.size (by omega)).mono fun e w' h => WrOn.of hW hK h
theorem WrOn.bytes {W0 : World} {b : Nat} {w w2 : World} {bs : List UInt8} (h : WrOn W0 b w bs) (hB : Below w.heap.size w w2) {vb : Value} {data : List UInt8} (hd : RdB w2 vb data) (hnil : NilOk vb)
    (hk : ∀ k, vb.ownBlock = some k → k ≠ b ∧ (k < W0.heap.size ∨ w.heap.size ≤ k)) (hl : bs.length ≤ 1000000000) (hl2 : data.length ≤ 1000000000) :
    Calls Tryz.prog 165 #[.pointer (some ⟨b, 0, none⟩), vb] w2 fun e w' => e = .returned (.tuple #[]) ∧ WrOn W0 b w' (bs ++ lenB data) := by
  obtain ⟨v0, hW0, hK0⟩ := id h
  obtain ⟨v, hW, hK⟩ : ∃ v, WrAt w2 b W0.heap.size v bs false ∧ Keeps (fun k => k = b) W0 w2 ∧ ∀ k, v.ownBlock = some k → k < w.heap.size := by
    have hbS := (Array.getElem?_eq_some_iff.1 hW0.blk).1
    exact ⟨v0, ⟨(hB.block _ hbS).trans hW0.blk, own_below hW0.own hB (Nat.le_refl _), hW0.ne⟩, hK0.trans (Keeps.ofBelow hB), fun k hk => (hW0.own.lt k hk).2⟩
  obtain ⟨hK, hlt⟩ := hK
  refine (wBytes_good b W0.heap.size v bs false vb data w2 hW hd hnil (fun e => (hk b e).1 rfl) (fun k hk1 hk2 => ?_) hK.size (by omega)).mono fun e w' h => WrOn.of hW hK h
  have h1 := own_base hW.own k hk2
  have h2 := hlt k hk2
  rcases (hk k hk1).2 with h | h <;> omega
theorem WrOn.out {W0 : World} {b : Nat} {w : World} {bs : List UInt8} (h : WrOn W0 b w bs) (hl : bs.length ≤ 1000000000) : Calls Tryz.prog 118 #[.pointer (some ⟨b, 0, none⟩)] w (OutDone w bs) := by
  obtain ⟨v, hW, hK⟩ := h
  exact wOut_calls b W0.heap.size v bs w hW (by omega)
theorem WrOn.cell {W0 : World} {b : Nat} {w : World} {bs : List UInt8} (h : WrOn W0 b w bs) {k o : Nat} {v : Value} (hk : k ≠ b) (hc : W0.cell? ⟨k, o, none⟩ = some v) : w.cell? ⟨k, o, none⟩ = some v := by
  obtain ⟨v, hW, hK⟩ := h
  exact hK.cell hk hc
theorem WrOn.below {W0 : World} {b B : Nat} {w : World} {bs : List UInt8} (h : WrOn W0 b w bs) (hb : B ≤ b) (hB : B ≤ W0.heap.size) : Below B W0 w := by
  obtain ⟨v, hW, hK⟩ := h
  exact hK.below (fun k hk => by omega) hB
theorem WrOn.size {W0 : World} {b : Nat} {w : World} {bs : List UInt8} (h : WrOn W0 b w bs) : W0.heap.size ≤ w.heap.size := by
  obtain ⟨v, hW, hK⟩ := h
  exact hK.size
theorem WrOn.rdb {W0 : World} {b : Nat} {w : World} {bs : List UInt8} (h : WrOn W0 b w bs) {v : Value} {xs : List UInt8} (hr : RdB W0 v xs) (hv : v.ownBlock ≠ some b) : RdB w v xs := by
  obtain ⟨u, hW, hK⟩ := h
  exact hr.keeps hK (fun k hk e => hv (by rw [hk, e]))
theorem WrOn.rds {W0 : World} {b : Nat} {w : World} {bs : List UInt8} (h : WrOn W0 b w bs) {v : Value} {xs : List (List UInt8)} (hr : RdS W0 v xs) (hv : v.ownBlock ≠ some b) : RdS w v xs := by
  obtain ⟨u, hW, hK⟩ := h
  exact RdL.keeps hr hK (fun k o l c hk e => hv (by rw [hk, e]; rfl))
end Go.Proofs.YtffnbkmigapmjaaGreatDoor

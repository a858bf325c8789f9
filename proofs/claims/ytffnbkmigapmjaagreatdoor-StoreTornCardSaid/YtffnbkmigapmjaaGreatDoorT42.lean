/-
  The law StoreTorn without the program: a mark that is torn is cut off.
  What lies below a disk's blocks stays (plain).
-/
import Derived.Test.YtffnbkmigapmjaaGreatDoorT32
import Derived.Test.YtffnbkmigapmjaaGreatDoorT38
import Derived.Test.YtffnbkmigapmjaaGreatDoorT39
import Derived.Test.YtffnbkmigapmjaaGreatDoorT41
set_option linter.unusedSimpArgs false
set_option linter.unusedVariables false
set_option maxRecDepth 100000
namespace Go.Proofs.YtffnbkmigapmjaaGreatDoor
def tI : Nm := nameD 105 1
def tN : Nm := idsNameD 16
theorem tI_right : rightD tI = true := rightD_nameD (by decide) (by decide) (by decide)
theorem tIN : tI ≠ tN := fun e => ids_ne_name (by decide) 105 1 e.symm
theorem tI_sto : StoOf tI 105 1 := ⟨by decide, by decide, by decide, rfl⟩
theorem tN_sto (q : UInt8) (n : Int) : ¬ StoOf tN q n := fun h => by
  have h1 := h.len
  have h2 : tN.length = 14 := idsNameD_len14 (by decide)
  omega
/-- A disk with one mail, that has marks, and the numbers' file. -/
structure Two (d : FsD) (b : List UInt8) : Prop where
  vw : ∃ C U, Vw d C 2 U 16777216 ∧ U = b.length ∧ C tI = some b ∧ C tN = some [] ∧ ∀ n, n ≠ tI → n ≠ tN → C n = none
structure Torn1 (d : StoD) (ks : List MarkD) : Prop where
  whr : d.whr = [(1, 105)]
  down : d.down = false
  two : Two d.fs (one1.record ++ bytesM ks)
  loose : d.fs.loose = []
  sure : d.fs.sure = d.fs.now
  sur : surD d.fs tI = some (one1.record ++ bytesM ks).length
theorem Two.of {d : FsD} {C : Cont} {U : Nat} {b : List UInt8} (h : Vw d C 2 U 16777216) (h1 : C tI = some b) (h2 : C tN = some []) (h3 : ∀ n, n ≠ tI → n ≠ tN → C n = none) : Two d b :=
  ⟨C, U, h, by rw [h.used2 tIN rfl h1 h2]; rfl, h1, h2, h3⟩
theorem torn_commit {B fb ib mb : Nat} {er id : Int} {d' : StoD} (h : CommitR ⟨newD B 16777216, fb, ib, mb, 0, 0, [], [], false⟩ one14 er id d') : er = 0 ∧ id = 1 ∧ Torn1 d' [] ∧ d'.fb = fb := by
  rcases h with ⟨h, _⟩ | ⟨_, _, h, _⟩ | ⟨_, _, _, e1, id1, d1, hn, ha⟩
  · rcases h with h | h
    · have : goodNew one14 = true := one14_good
      rw [this] at h; cases h
    · exact absurd rfl h
  · cases h
  · have hv0 : Vw (newD B 16777216) (fun _ => none) 0 0 16777216 := vw_new B _ (by decide)
    have hmo : moreB ⟨newD B 16777216, fb, ib, mb, 0, 0, [], [], false⟩ = 16 := by show min ((0 : Int) + 16) 999999999 = 16; decide
    rcases hn with ⟨h, _⟩ | ⟨_, h, _⟩ | ⟨_, _, _, e2, d2, hm, h2⟩ | ⟨_, _, h, _⟩
    · cases h
    · exact absurd h (by show ¬ (0 : Int) = 999999999; decide)
    · obtain ⟨q1, q2, q3, q4⟩ := hm.vw0 hv0 (by decide) (by rw [hmo]; decide) rfl rfl
      rw [hmo] at q2
      have hw := hm.same.2.2.2.2.1
      have hdn := hm.same.2.2.2.2.2
      have hfb := hm.same.1
      rcases h2 with ⟨h3, _⟩ | ⟨_, h3, h4, h5⟩
      · exact absurd q1 h3
      · have h4 : id1 = 1 := h4
        subst h4
        subst h3
        rcases ha with ⟨h6, _⟩ | ⟨_, e3, fs3, ho, h6⟩
        · exact absurd rfl h6
        · have hfs : d1.fs = d2.fs := by rw [h5]
          have hen : encD ({ one14 with id := 1 } : MailD) = one1.record := by
            unfold encD; rw [if_pos one14_good1]; rfl
          rw [hfs, hen] at ho
          have hne : nameD 116 1 ≠ nameD 105 1 := nameD_ne (by decide) (by decide) (by decide) (by decide) (by decide)
          have ht := rightD_nameD (q := 116) (n := 1) (by decide) (by decide) (by decide)
          have hCt : updC (fun _ => none) (idsNameD 16) (some []) (nameD 116 1) = none := by rw [updC_other _ _ (ids_ne_name (by decide) _ _)]
          obtain ⟨r1, r2⟩ := q2.lay ht tI_right hne hCt (by decide) (by rw [one1_len]; decide) ho
          obtain ⟨s1, s2, s3⟩ := q2.lay_s ht tI_right hne hCt (by decide) (by rw [one1_len]; decide) ho
          subst r1
          have hI : updC (fun _ => none) (idsNameD 16) (some []) tI = none := updC_other _ _ (fun e => tIN e.symm)
          have hz : one1.record ++ bytesM [] = one1.record := List.append_nil _
          rcases h6 with ⟨_, h7, h8, h9⟩ | ⟨h7, _⟩ | ⟨h7, _⟩
          · subst h9
            have r3 : Vw fs3 (updC (updC (fun _ => none) (idsNameD 16) (some [])) tI (some one1.record)) 2 (0 + one1.record.length - 0) 16777216 := by
              have r2' : Vw fs3 (updC (updC (fun _ => none) (idsNameD 16) (some [])) tI (some one1.record)) (if (updC (fun _ => none) (idsNameD 16) (some []) tI).isSome then 0 + 1 else 0 + 1 + 1) (0 + one1.record.length - ((updC (fun _ => none) (idsNameD 16) (some []) tI).getD []).length) 16777216 := r2
              rw [hI] at r2'
              exact r2'
            refine ⟨h7, h8, ⟨?_, ?_, ?_, s2, s3, ?_⟩, ?_⟩
            · show d1.whr.put 1 105 = _
              rw [h5]
              show d2.whr.put 1 105 = _
              rw [hw]; rfl
            · show d1.down = false
              rw [h5]
              show d2.down = false
              rw [hdn]
            · show Two fs3 _
              rw [hz]
              exact .of r3 (updC_same _ _ _) (by rw [updC_other _ _ tIN]; exact updC_same _ _ _) (fun n n1 n2 => by rw [updC_other _ _ (fun e => n1 e.symm)]; exact updC_other _ _ (fun e => n2 e.symm))
            · show surD fs3 tI = _
              rw [s1 tI (fun e => hne e.symm), hz]
              exact if_pos rfl
            · show d1.fb = fb
              rw [h5]; exact hfb
          · exact absurd rfl h7
          · cases h7
    · exact absurd h (by show ¬ (0 : Int) < 0; decide)
theorem at_torn {d : StoD} (hw : d.whr = [(1, 105)]) (hd : d.down = false) : atD d 1 = (105, 0) := by
  unfold atD; rw [hd, hw, at_one, if_pos rfl]; rfl
theorem mark_good {fs fs2 : FsD} {b : List UInt8} {k : MarkD} {er : Int} (h : Two fs b) (hb : b.length ≤ 2000) (ho : Outcome (mrkS tI k.bytes) 2 fs er fs2) : er = 0 ∧ Two fs2 (b ++ k.bytes) ∧ surD fs2 tI = some (b ++ k.bytes).length ∧ fs2.loose = fs.loose ∧ fs2.sure = fs.sure ∧ fs2.now = fs.now := by
  obtain ⟨C, U, hv, hU, h1, h2, h3⟩ := h
  have hl := bytes_length k
  let C1 : Cont := updC C tI (some (b ++ k.bytes))
  let V : Nat → FsD → Prop := fun i a => match i with
    | 0 => Vw a C 2 U 16777216 ∧ a.loose = fs.loose ∧ a.sure = fs.sure ∧ a.now = fs.now
    | 1 => Vw a C1 2 (U + k.bytes.length) 16777216 ∧ a.loose = fs.loose ∧ a.sure = fs.sure ∧ a.now = fs.now
    | _ => Vw a C1 2 (U + k.bytes.length) 16777216 ∧ surD a tI = some (b ++ k.bytes).length ∧ a.loose = fs.loose ∧ a.sure = fs.sure ∧ a.now = fs.now
  obtain ⟨r1, r2, r3, r4⟩ := run_good (V := V) (n := 2) (d := fs) (S := mrkS tI k.bytes) ⟨hv, rfl, rfl, rfl⟩ (by
    intro i x er y hi hV hS
    match i, hi, hV, hS with
    | 0, _, hV, ⟨row, he, hy⟩ =>
      obtain ⟨hV, g1, g2, g3⟩ : Vw x C 2 U 16777216 ∧ x.loose = fs.loose ∧ x.sure = fs.sure ∧ x.now = fs.now := hV
      obtain ⟨q1, q2⟩ := hV.append (bs := k.bytes) tI_right h1 (by omega) row
      have q3 : (appendD x tI k.bytes row).2.loose = x.loose ∧ (appendD x tI k.bytes row).2.sure = x.sure ∧ (appendD x tI k.bytes row).2.now = x.now := by
        obtain ⟨xx, c, hx, hc, _⟩ := hV.look_some h1
        unfold appendD
        rw [hV.found_some (by simp [tI_right]) hx, if_pos rfl, if_neg (by rw [hV.room, hV.used]; omega), up_power hV.up, if_pos rfl]
        unfold FsD.upd
        simp only [hx, hc]
        exact ⟨rfl, rfl, rfl⟩
      subst he; subst hy
      exact ⟨q1, q2, q3.1.trans g1, q3.2.1.trans g2, q3.2.2.trans g3⟩
    | 1, _, hV, ⟨he, hy⟩ =>
      obtain ⟨hV, g1, g2, g3⟩ : Vw x C1 2 (U + k.bytes.length) 16777216 ∧ x.loose = fs.loose ∧ x.sure = fs.sure ∧ x.now = fs.now := hV
      have e1 : C1 tI = some (b ++ k.bytes) := updC_same _ _ _
      obtain ⟨q1, q2⟩ := hV.sync tI_right e1
      have q4 := hV.sync_s tI_right e1 tI
      rw [if_pos rfl] at q4
      have q3 : (syncD x tI).2.loose = x.loose ∧ (syncD x tI).2.sure = x.sure ∧ (syncD x tI).2.now = x.now := by
        obtain ⟨xx, c, hx, hc, _⟩ := hV.look_some e1
        unfold syncD
        rw [hV.found_some (by simp [tI_right]) hx, if_pos rfl, up_power hV.up, if_pos rfl]
        unfold FsD.upd
        simp only [hx, hc]
        exact ⟨rfl, rfl, rfl⟩
      subst he; subst hy
      exact ⟨q1, q2, q4, q3.1.trans g1, q3.2.1.trans g2, q3.2.2.trans g3⟩) er fs2 ho
  exact ⟨r1, .of r2 (updC_same _ _ _) ((updC_other _ _ tIN).trans h2) (fun n n1 n2 => (updC_other _ _ (fun e => n1 e.symm)).trans (h3 n n1 n2)), r3, r4⟩
theorem bytesM_snoc (ks : List MarkD) (k : MarkD) (a : List UInt8) : a ++ bytesM (ks ++ [k]) = (a ++ bytesM ks) ++ k.bytes := by
  unfold bytesM; rw [List.flatMap_append, List.append_assoc, List.flatMap_cons, List.flatMap_nil, List.append_nil]
theorem torn_len (ks : List MarkD) (h : ks.length ≤ 31) : (one1.record ++ bytesM ks).length ≤ 1000 := by
  rw [List.length_append, one1_len, bytesM_length]; omega
theorem torn_mark {d d' : StoD} {ks : List MarkD} {k : MarkD} {er : Int} (h : Torn1 d ks) (hk : k.good = true) (hl : ks.length ≤ 31) (hm : MarkR d 1 k er d') : er = 0 ∧ Torn1 d' (ks ++ [k]) ∧ d'.fb = d.fb := by
  have ha := at_torn h.whr h.down
  rcases hm with ⟨h1, _⟩ | ⟨_, ⟨h1, _⟩ | ⟨_, fs2, ho, hd⟩⟩
  · rw [hk] at h1; cases h1
  · rw [ha] at h1; exact absurd rfl h1
  · rw [ha] at ho
    obtain ⟨r1, r2, r3, r4, r5, r6⟩ := mark_good h.two (by have := torn_len ks hl; omega) ho
    subst r1
    subst hd
    refine ⟨rfl, ⟨h.whr, ?_, ?_, r4.trans h.loose, ?_, ?_⟩, rfl⟩
    · show (d.down || _) = false
      rw [h.down]; rfl
    · show Two fs2 _
      rw [bytesM_snoc]; exact r2
    · show fs2.sure = fs2.now
      rw [r5, r6]; exact h.sure
    · show surD fs2 tI = _
      rw [bytesM_snoc]; exact r3
/-- The power goes behind the write of a mark, ahead of its sync. -/
theorem torn_down {d d' : StoD} {ks : List MarkD} {k : MarkD} {er : Int} (h : Torn1 d ks) (hk : k.good = true) (hl : ks.length ≤ 31) (hm : MarkR { d with fs := { d.fs with fuse := max 1 0 } } 1 k er d') :
    er = 2 ∧ d'.fb = d.fb ∧ Plays d'.fs 0 ∧ d'.fs.loose.length = 0 ∧ ∀ (b : Nat) (fs3 : FsD), CrashR d'.fs 0 b fs3 → Two fs3 ((one1.record ++ bytesM ks) ++ k.bytes.take b) := by
  have ha : atD { d with fs := { d.fs with fuse := max 1 0 } } 1 = (105, 0) := at_torn h.whr h.down
  have hbl := torn_len ks hl
  have hkl := bytes_length k
  obtain ⟨C, U, hv, hU, c1, c2, c3⟩ := h.two
  obtain ⟨x, c, hx, hc, hcb⟩ := hv.look_some c1
  have hsu : c.sure = c.bytes.length := by
    have := h.sur
    rw [surD_look hx hc, hcb.symm] at this
    exact Option.some.inj this
  rcases hm with ⟨h1, _⟩ | ⟨_, ⟨h1, _⟩ | ⟨_, fs2, ho, hd⟩⟩
  · rw [hk] at h1; cases h1
  · rw [ha] at h1; exact absurd rfl h1
  · rw [ha] at ho
    have hrd : ∀ g : FsD, g.down = false → readyE g [tI] = 0 := fun g hg => by
      unfold readyE; rw [if_pos (by simp [tI_right]), hg]; rfl
    have hfd : ∀ g : FsD, g.down = false → g.now = d.fs.now → (foundD g tI []).2 = 0 := fun g hg hn => by
      unfold foundD; rw [if_pos (hrd g hg), hn, hx]; rfl
    have hap : ∀ row, appendD { d.fs with fuse := max 1 0 } tI k.bytes row = (0, ({ d.fs with fuse := 0 } : FsD).setFile x ⟨c.bytes ++ k.bytes, c.sure, row⟩) := fun row => by
      unfold appendD
      rw [if_pos (hfd { d.fs with fuse := max 1 0 } hv.up.down rfl), if_neg (by show ¬ (d.fs.room - (usedD d.fs : Int) < _); rw [hv.room, hv.used]; omega)]
      have hp : powerD { d.fs with fuse := max 1 0 } = (0, { d.fs with fuse := 0 }) := rfl
      rw [hp, if_pos rfl]
      unfold FsD.upd
      simp only [hx, hc]
    have hsy : ∀ row, syncD (({ d.fs with fuse := 0 } : FsD).setFile x ⟨c.bytes ++ k.bytes, c.sure, row⟩) tI = (2, { (({ d.fs with fuse := 0 } : FsD).setFile x ⟨c.bytes ++ k.bytes, c.sure, row⟩) with down := true }) := fun row => by
      unfold syncD
      rw [if_pos (hfd (({ d.fs with fuse := 0 } : FsD).setFile x ⟨c.bytes ++ k.bytes, c.sure, row⟩) hv.up.down rfl)]
      rfl
    have hfin : ∃ row, er = 2 ∧ fs2 = { (({ d.fs with fuse := 0 } : FsD).setFile x ⟨c.bytes ++ k.bytes, c.sure, row⟩) with down := true } := by
      have hstep0 : ∀ y e, mrkS tI k.bytes 0 { d.fs with fuse := max 1 0 } e y → e = 0 ∧ ∃ row, y = ({ d.fs with fuse := 0 } : FsD).setFile x ⟨c.bytes ++ k.bytes, c.sure, row⟩ := by
        rintro y e ⟨row, h1, h2⟩
        rw [hap row] at h1 h2
        exact ⟨h1, row, h2⟩
      have hstep1 : ∀ row y e, mrkS tI k.bytes 1 (({ d.fs with fuse := 0 } : FsD).setFile x ⟨c.bytes ++ k.bytes, c.sure, row⟩) e y → e = 2 ∧ y = { (({ d.fs with fuse := 0 } : FsD).setFile x ⟨c.bytes ++ k.bytes, c.sure, row⟩) with down := true } := by
        rintro row y e ⟨h1, h2⟩
        rw [hsy row] at h1 h2
        exact ⟨h1, h2⟩
      rcases ho with ⟨_, hr⟩ | ⟨hne, i, a, hi, hr, hs⟩
      · obtain ⟨a1, hr1, hs1⟩ := hr.inv
        obtain ⟨a0, hr0, hs0⟩ := hr1.inv
        have := hr0.zero_inv
        subst this
        obtain ⟨_, row, rfl⟩ := hstep0 _ _ hs0
        exact absurd (hstep1 row _ _ hs1).1 (by decide)
      · match i, hi, hr, hs with
        | 0, _, hr, hs =>
          have := hr.zero_inv
          subst this
          exact absurd (hstep0 _ _ hs).1 hne
        | 1, _, hr, hs =>
          obtain ⟨a0, hr0, hs0⟩ := hr.inv
          have := hr0.zero_inv
          subst this
          obtain ⟨_, row, rfl⟩ := hstep0 _ _ hs0
          exact ⟨row, hstep1 row _ _ hs⟩
    obtain ⟨row, rfl, rfl⟩ := hfin
    subst hd
    have hfile : ∀ y, (if y = x then some (⟨c.bytes ++ k.bytes, c.sure, row⟩ : FileC) else d.fs.file y) = ((({ d.fs with fuse := 0 } : FsD).setFile x ⟨c.bytes ++ k.bytes, c.sure, row⟩)).file y := fun _ => rfl
    have hfil : ∀ p ∈ d.fs.now, ((if p.2 = x then some (⟨c.bytes ++ k.bytes, c.sure, row⟩ : FileC) else d.fs.file p.2)).isSome = true := fun p hp => by
      split
      · rfl
      · exact hv.up.fil p hp
    refine ⟨rfl, rfl, ⟨fun j hj p hp => ?_, fun j hj => by omega, fun j hj => ?_⟩, ?_, fun b fs3 hcr => ?_⟩
    · have hj0 : j = 0 := by omega
      subst hj0
      have hp : p ∈ d.fs.sure := hp
      rw [h.sure] at hp
      exact hfil p hp
    · have hj0 : j = 0 := by omega
      subst hj0
      show d.fs.sure.length < _
      rw [h.sure, hv.n]; decide
    · show d.fs.loose.length = 0
      rw [h.loose]; rfl
    · obtain ⟨u1, u2, u3, u4⟩ := crash0 (d := { (({ d.fs with fuse := 0 } : FsD).setFile x ⟨c.bytes ++ k.bytes, c.sure, row⟩) with down := true }) (d' := fs3) (b := b) hv.up.key hv.up.inj hfil (by show d.fs.now.length ≤ 256; rw [hv.n]; decide) (by show 0 ≤ d.fs.room ∧ d.fs.room ≤ _; rw [hv.room]; decide) h.sure hcr
      have hcut : (c.bytes ++ k.bytes).take (sureTo b ⟨c.bytes ++ k.bytes, c.sure, row⟩) = c.bytes ++ k.bytes.take b := by
        unfold sureTo
        show (c.bytes ++ k.bytes).take (c.sure + min b ((c.bytes ++ k.bytes).length - c.sure)) = _
        rw [hsu, List.length_append, List.take_append, List.take_of_length_le (by omega), show c.bytes.length + min b (c.bytes.length + k.bytes.length - c.bytes.length) - c.bytes.length = min b k.bytes.length by omega, ← List.take_take, List.take_length]
      have hper := del_perm hv.up.key hx
      have hne : ∀ p ∈ d.fs.now.del tI, p.2 ≠ x := fun p hp e => (List.pairwise_cons.1 (injOk_perm hper hv.up.inj)).1 p hp e.symm
      have hset : ∀ y, y ≠ x → (({ d.fs with fuse := 0 } : FsD).setFile x ⟨c.bytes ++ k.bytes, c.sure, row⟩).file y = d.fs.file y := fun y hy => if_neg hy
      have hsetx : (({ d.fs with fuse := 0 } : FsD).setFile x ⟨c.bytes ++ k.bytes, c.sure, row⟩).file x = some ⟨c.bytes ++ k.bytes, c.sure, row⟩ := if_pos rfl
      have hI : cont fs3 tI = some ((one1.record ++ bytesM ks) ++ k.bytes.take b) := by
        rw [u4]
        show (d.fs.now.look tI).bind (fun y => ((({ d.fs with fuse := 0 } : FsD).setFile x ⟨c.bytes ++ k.bytes, c.sure, row⟩).file y).map _) = _
        rw [hx]
        show ((({ d.fs with fuse := 0 } : FsD).setFile x ⟨c.bytes ++ k.bytes, c.sure, row⟩).file x).map _ = _
        rw [hsetx, Option.map_some, hcut, hcb]
      have hN : cont fs3 tN = some [] := by
        obtain ⟨y, cy, hy, hcy, hcyb⟩ := hv.look_some c2
        have hyx : y ≠ x := hne _ (List.mem_filter.2 ⟨look_mem hy, by simpa using fun e => tIN e.symm⟩)
        rw [u4]
        show (d.fs.now.look tN).bind (fun y => ((({ d.fs with fuse := 0 } : FsD).setFile x ⟨c.bytes ++ k.bytes, c.sure, row⟩).file y).map _) = _
        rw [hy]
        show ((({ d.fs with fuse := 0 } : FsD).setFile x ⟨c.bytes ++ k.bytes, c.sure, row⟩).file y).map _ = _
        rw [hset y hyx, hcy, Option.map_some, hcyb, List.take_nil]
      have hO : ∀ n, n ≠ tI → n ≠ tN → cont fs3 n = none := fun n n1 n2 => by
        rw [u4]
        show (d.fs.now.look n).bind _ = _
        rw [hv.look_none (c3 n n1 n2)]; rfl
      have hV : Vw fs3 (cont fs3) 2 (usedD fs3) 16777216 := ⟨u1, fun _ => rfl, by rw [u2]; exact hv.n, rfl, u3.trans hv.room⟩
      exact .of hV hI hN hO
/-- What opening makes of it. -/
theorem torn_open {fs : FsD} {b : Nat} {ks : List MarkD} {k : MarkD} {f ib mb : Nat} {ss : List Nm} {er : Int} {d : StoD} (h : Two fs ((one1.record ++ bytesM ks) ++ k.bytes.take b)) (hks : ∀ x ∈ ks, x.good = true) (hk : k.good = true) (hl : ks.length ≤ 31)
    (hs : sortedNm fs ss) (hr : RecoverR (openD fs f ib mb ss) er d) :
    er = 0 ∧ d.whr = [(1, 105)] ∧ d.down = false ∧ Two d.fs (one1.record ++ bytesM (if 28 ≤ b then ks ++ [k] else ks)) := by
  obtain ⟨C, U, hv, hU, c1, c2, c3⟩ := h
  have hkl := bytes_length k
  have hbl := torn_len ks hl
  have hod : (openD fs f ib mb ss).fs = fs ∧ (openD fs f ib mb ss).whr = [] ∧ (openD fs f ib mb ss).down = false := ⟨rfl, rfl, rfl⟩
  generalize openD fs f ib mb ss = d0 at hr hod
  obtain ⟨e0, ew, ed⟩ := hod
  subst e0
  have hnames : ∀ ss1, sortedNm d0.fs ss1 → (∀ n ∈ ss1, n = tI ∨ n = tN) ∧ ss1.Nodup ∧ tI ∈ ss1 := by
    intro ss1 h1
    have hp := h1.perm
    refine ⟨fun n hn => ?_, ?_, ?_⟩
    · obtain ⟨p, hp1, rfl⟩ := List.mem_map.1 (hp.mem_iff.1 hn)
      by_cases n1 : p.1 = tI
      · exact .inl n1
      · by_cases n2 : p.1 = tN
        · exact .inr n2
        · have h2 := hv.look_none (c3 p.1 n1 n2)
          rw [look_of_mem hv.up.key (show (p.1, p.2) ∈ d0.fs.now from hp1)] at h2; cases h2
    · refine hp.nodup_iff.2 ?_
      exact (List.pairwise_map (f := fun p : Nm × Nat => p.1) (R := fun a b => a ≠ b)).2 hv.up.key
    · obtain ⟨x, c, hx, _, _⟩ := hv.look_some c1
      exact hp.mem_iff.2 (List.mem_map.2 ⟨_, look_mem hx, rfl⟩)
  obtain ⟨ss1, e1, d1, h1, h2, h3⟩ := hr
  obtain ⟨m1, m2, m3⟩ := hnames ss1 h1
  have hskip : e1 = 0 ∧ d1 = d0 := outL_none (S := TmpS) (fun x hx a er b hS => by
    rcases hS with ⟨_, g1, g2⟩ | ⟨⟨m, hm⟩, _⟩
    · exact ⟨g1, g2⟩
    · rcases m1 x hx with rfl | rfl
      · exact absurd (StoOf.inj tI_sto hm).1 (by decide)
      · exact absurd hm (tN_sto _ _)) h2
  obtain ⟨rfl, rfl⟩ := hskip
  rcases h3 with ⟨h3, _⟩ | ⟨_, ss2, e2, d2, h4, h5, h6⟩
  · exact absurd rfl h3
  · obtain ⟨n1, n2, n3⟩ := hnames ss2 h4
    have hrec := outL_skip (S := RecS) (x0 := tI) (fun x hx hne a er b hS => by
      rcases n1 x hx with rfl | rfl
      · exact absurd rfl hne
      · rcases hS with ⟨_, g1, g2⟩ | ⟨q, m, hm, _⟩
        · exact ⟨g1, g2⟩
        · exact absurd hm (tN_sto _ _)) n2 n3 h5
    rcases recS_inv tI_sto hrec with ⟨h7, _⟩ | ⟨_, hm⟩
    · exact absurd h7 (by decide)
    · have hput : d1.whr.put 1 105 = [(1, 105)] := by rw [ew]; rfl
      rw [hput] at hm
      have hrd : fsReadD d1.fs tI = (0, (one1.record ++ bytesM ks) ++ k.bytes.take b) := hv.read tI_right c1
      unfold MendR at hm
      dsimp only at hm
      rw [show nameD 105 1 = tI from rfl, hrd] at hm
      dsimp only at hm
      have hgood1 : one1.good = true := one14_good1
      have hfile : ∃ g : FileD, fileD ((one1.record ++ bytesM ks) ++ k.bytes.take b) = some g ∧ g.mail = one1 ∧ ((28 ≤ b ∧ g.good = ((one1.record ++ bytesM ks) ++ k.bytes.take b).length ∧ (one1.record ++ bytesM ks) ++ k.bytes.take b = one1.record ++ bytesM (ks ++ [k])) ∨ (¬ 28 ≤ b ∧ g.good = (one1.record ++ bytesM ks).length)) := by
        by_cases h28 : 28 ≤ b
        · have e : (one1.record ++ bytesM ks) ++ k.bytes.take b = one1.record ++ bytesM (ks ++ [k]) := by rw [List.take_of_length_le (by omega), bytesM_snoc]
          rw [e]
          refine ⟨_, fileD_full one1 one14_small hgood1 (ks ++ [k]) (fun x hx => ?_) (by rw [List.length_append]; simp; omega), rfl, .inl ⟨h28, ?_, rfl⟩⟩
          · rcases List.mem_append.1 hx with hx | hx
            · exact hks x hx
            · rw [List.mem_singleton.1 hx]; exact hk
          · show one1.record.length + 28 * (ks ++ [k]).length = (one1.record ++ bytesM (ks ++ [k])).length
            rw [List.length_append, List.length_append, bytesM_length, List.length_append]
        · exact ⟨_, fileD_more' one1 one14_small hgood1 ks hks (by omega) _ (by rw [List.length_take]; omega), rfl, .inr ⟨h28, rfl⟩⟩
      obtain ⟨g, hg, hgm, hgl⟩ := hfile
      rw [hg] at hm
      rcases hm with ⟨h7, _⟩ | ⟨_, ⟨hbad, _⟩ | ⟨g', hg', _, hm⟩⟩
      · exact absurd rfl h7
      · exact absurd (by rw [hgm]; rfl) (hbad g rfl)
      · cases hg'
        have hend : e2 = 0 ∧ d2.whr = [(1, 105)] ∧ d2.down = false ∧ Two d2.fs (one1.record ++ bytesM (if 28 ≤ b then ks ++ [k] else ks)) := by
          rcases hm with ⟨hlt, fs2, ho, hd2⟩ | ⟨hge, he2, hd2⟩
          · rcases hgl with ⟨_, hgg, _⟩ | ⟨h28, hgg⟩
            · rw [hgg] at hlt; exact absurd hlt (Nat.lt_irrefl _)
            · rw [hgg, List.take_left] at ho
              have hne : nameD 116 1 ≠ tI := nameD_ne (by decide) (by decide) (by decide) (by decide) (by decide)
              have hneN : nameD 116 1 ≠ tN := fun e => ids_ne_name (by decide) 116 1 e.symm
              have hRR : ((one1.record ++ bytesM ks).length : Int) ≤ 16777216 - (U : Int) := by
                have h8 : (k.bytes.take b).length ≤ 28 := by rw [List.length_take]; omega
                have h9 : U = (one1.record ++ bytesM ks).length + (k.bytes.take b).length := by rw [hU]; exact List.length_append
                omega
              obtain ⟨r1, r2⟩ := hv.lay (rightD_nameD (by decide) (by decide) (by decide)) tI_right hne (c3 _ hne hneN) (by decide) hRR ho
              rw [c1] at r2
              rw [if_neg h28]
              subst hd2
              refine ⟨r1, rfl, ?_, ?_⟩
              · show (d1.down || _) = false
                rw [ed, r1]; rfl
              · exact .of r2 (updC_same _ _ _) (by rw [updC_other _ _ tIN]; exact c2) (fun n n1 n2 => by rw [updC_other _ _ (fun e => n1 e.symm)]; exact c3 n n1 n2)
          · rcases hgl with ⟨h28, _, e⟩ | ⟨h28, hgg⟩
            · rw [if_pos h28, ← e]
              subst hd2
              exact ⟨he2, rfl, ed, C, U, hv, hU, c1, c2, c3⟩
            · have hz : k.bytes.take b = [] := by
                rw [hgg, List.length_append, List.length_append] at hge
                rw [List.length_append] at hge
                exact List.length_eq_zero_iff.1 (by omega)
              rw [if_neg h28]
              subst hd2
              refine ⟨he2, rfl, ed, C, U, hv, ?_, ?_, c2, c3⟩
              · rw [hU, hz, List.append_nil]
              · rw [c1, hz, List.append_nil]
        obtain ⟨r1, r2, r3, r4⟩ := hend
        subst r1
        rcases h6 with ⟨h6, _⟩ | ⟨_, h6⟩
        · exact absurd rfl h6
        · have hpar : ((sfileD d2 1).getD FileD.zero).mail.parent ≠ 1 := by
            cases h8 : sfileD d2 1 with
            | none => exact fun e => by cases e
            | some g' =>
              have h9 : fileD (one1.record ++ bytesM (if 28 ≤ b then ks ++ [k] else ks)) = some g' := by
                obtain ⟨C2, U2, hv2, _, c21, _, _⟩ := r4
                unfold sfileD at h8
                rw [r2, at_one, if_pos rfl, if_pos (by decide), show nameD 105 1 = tI from rfl, hv2.read tI_right c21, if_pos rfl] at h8
                exact h8
              obtain ⟨hh, hhh⟩ : ∃ l : List MarkD, (if 28 ≤ b then ks ++ [k] else ks) = l ∧ (∀ x ∈ l, x.good = true) ∧ l.length ≤ 4096 := by
                by_cases h28 : 28 ≤ b
                · rw [if_pos h28]
                  refine ⟨_, rfl, fun x hx => ?_, by rw [List.length_append]; simp; omega⟩
                  rcases List.mem_append.1 hx with hx | hx
                  · exact hks x hx
                  · rw [List.mem_singleton.1 hx]; exact hk
                · rw [if_neg h28]; exact ⟨_, rfl, hks, by omega⟩
              rw [hhh.1, fileD_full one1 one14_small hgood1 hh hhh.2.1 hhh.2.2] at h9
              cases h9
              show (0 : Int) ≠ 1
              decide
          obtain ⟨r5, r6⟩ := par_one (by decide) r2 (by decide) hpar h6
          rw [r6]
          exact ⟨r5, r2, r3, r4⟩
theorem torn_file {d : StoD} {ks : List MarkD} (hw : d.whr = [(1, 105)]) (h : Two d.fs (one1.record ++ bytesM ks)) (hks : ∀ x ∈ ks, x.good = true) (hl : ks.length ≤ 4096) : sfileD d 1 = some ⟨one1, ks, one1.record.length + 28 * ks.length⟩ := by
  obtain ⟨C, U, hv, hU, c1, c2, c3⟩ := h
  unfold sfileD
  rw [hw, at_one, if_pos rfl, if_pos (by decide), show nameD 105 1 = tI from rfl, hv.read tI_right c1, if_pos rfl]
  exact fileD_full one1 one14_small one14_good1 ks hks hl
/-- A mark more, behind it. -/
theorem torn_more {d d' : StoD} {ks : List MarkD} {k : MarkD} {er : Int} (hw : d.whr = [(1, 105)]) (hd : d.down = false) (h : Two d.fs (one1.record ++ bytesM ks)) (hk : k.good = true) (hl : ks.length ≤ 32) (hm : MarkR d 1 k er d') : er = 0 ∧ d'.whr = [(1, 105)] ∧ Two d'.fs (one1.record ++ bytesM (ks ++ [k])) := by
  have ha := at_torn hw hd
  rcases hm with ⟨h1, _⟩ | ⟨_, ⟨h1, _⟩ | ⟨_, fs2, ho, hd⟩⟩
  · rw [hk] at h1; cases h1
  · rw [ha] at h1; exact absurd rfl h1
  · rw [ha] at ho
    obtain ⟨r1, r2, _⟩ := mark_good h (by rw [List.length_append, one1_len, bytesM_length]; omega) ho
    subst r1
    subst hd
    refine ⟨rfl, hw, ?_⟩
    show Two fs2 _
    rw [bytesM_snoc]; exact r2
theorem two_nm {fs : FsD} {b : List UInt8} (h : Two fs b) : NmOk fs := fun p hp => by
  obtain ⟨C, U, hv, hU, c1, c2, c3⟩ := h
  by_cases n1 : p.1 = tI
  · rw [n1]; show (nameD 105 1).length ≤ 1000; have := nameD_len 105 1; omega
  · by_cases n2 : p.1 = tN
    · rw [n2]; show (idsNameD 16).length ≤ 1000; rw [idsNameD_len14 (by decide)]; decide
    · have h2 := hv.look_none (c3 p.1 n1 n2)
      rw [look_of_mem hv.up.key (show (p.1, p.2) ∈ fs.now from hp)] at h2; cases h2
end Go.Proofs.YtffnbkmigapmjaaGreatDoor

set_option linter.unusedSimpArgs false
set_option linter.unusedVariables false
namespace Go.Proofs.YtffnbkmigapmjaaGreatDoor
open Go.RowKit Go.Maps
theorem FsStep.bel {w w' : World} {ρ ρ' : Rho} {B : Nat} (h : FsStep w ρ w' ρ') (hρ : ∀ k, ρ.has k → B ≤ k) (hB : B ≤ w.heap.size) : Below B w w' ∧ (∀ k, ρ'.has k → B ≤ k) :=
  ⟨h.keeps.below hρ hB, fun k e => by
    rcases h.grow k e with e | e
    · exact hρ k e
    · omega⟩
theorem StoStep.belB {w w' : World} {s B : Nat} {d d' : StoD} {ρ ρ' : Rho} (h : StoStep w s d ρ w' d' ρ') (hρ : ∀ k, stoOwn s d ρ k → B ≤ k) (hB : B ≤ w.heap.size) : Below B w w' := h.keeps.below hρ hB
end Go.Proofs.YtffnbkmigapmjaaGreatDoor

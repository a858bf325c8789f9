/-
  A mail's record, as plain bytes; a Writer step by step.
  The walk of env.Encode.
  The plain side of the laws on marks' bytes: what is written is read again, what is cut is read up to the cut.
-/
import Derived.Test.YtffnbkmigapmjaaGreatDoorC6
import Derived.Test.YtffnbkmigapmjaaGreatDoorC7
import Derived.Test.YtffnbkmigapmjaaGreatDoorC9
import Derived.Test.YtffnbkmigapmjaaGreatDoorC11
import Derived.Test.YtffnbkmigapmjaaGreatDoorC16
import Derived.Test.YtffnbkmigapmjaaGreatDoorC26
set_option linter.unusedSimpArgs false
set_option linter.unusedVariables false
namespace Go.Proofs.YtffnbkmigapmjaaGreatDoor
open Go.RowKit
theorem nilOk_own {w : World} {base : Nat} {e : TypeId} {size : Nat} {v : Value} {n : Nat} {xs : List Value} (h : w.ownsRow base e size v n xs) : NilOk v := by
  obtain ⟨_, ⟨h2, h3⟩ | ⟨g, cap, cur, hv', _⟩⟩ := h
  · intro l c e; rw [e] at h2; cases h2; exact ⟨rfl, rfl⟩
  · intro l c e; rw [e] at hv'; cases hv'
/-- What is summed of a mail. -/
def MailD.inner (m : MailD) : List UInt8 :=
  ((((num8 m.id.toNat ++ num8 m.parent.toNat ++ num8 m.born.toNat) ++ lenB m.frm) ++ num8 m.rcpts.length) ++ m.rcpts.flatMap lenB) ++ lenB m.body
/-- A mail's record. -/
def MailD.record (m : MailD) : List UInt8 := lenB m.inner ++ be4 (PbCrc.sum m.inner)
theorem lenB_length (l : List UInt8) : (lenB l).length = 8 + l.length := by rw [lenB, List.length_append, num8_length]
theorem flat_lenB_le (ls : List (List UInt8)) (k : Nat) (h : ∀ l ∈ ls, l.length ≤ k) : (ls.flatMap lenB).length ≤ ls.length * (8 + k) := by
  induction ls with
  | nil => simp
  | cons x xs ih =>
    rw [List.flatMap_cons, List.length_append, lenB_length, List.length_cons, Nat.succ_mul]
    have := ih (fun l hl => h l (List.mem_cons_of_mem _ hl))
    have := h x List.mem_cons_self
    omega
/-- A text turned to bytes: a row that is new. -/
theorem conv_text (l : List UInt8) (hs : l.length ≤ 4294967280) (w : World) :
    ∃ C W, (convert 9 22 (.string (strL l))).run Tryz.prog w = .ok (.slice (some ⟨w.heap.size, 0, none⟩) l.length C) W ∧ RdB W (.slice (some ⟨w.heap.size, 0, none⟩) l.length C) l ∧ Below w.heap.size w W := by
  have h := run_bytes_of_string (P := Tryz.prog) w 9 22 5 (strL l) Tryz.underlying9 Tryz.underlying22 Tryz.underlying5
  rw [strL_size] at h
  have hcm : grownCap w l.length 0 5 ≤ 9223372036854775807 := grownCap_le_maxLen w l.length 0 5 (by show _ ≤ 9223372036854775807; omega)
  refine ⟨_, _, h, ?_, (Below.refl _ _).drew.alloc (Nat.le_refl _) _⟩
  by_cases hl : l = []
  · subst hl; exact .inl ⟨_, _, rfl, hcm, rfl⟩
  · refine .inr ⟨_, 0, _, rfl, hl, grownCap_ge _ _ _ _, hcm, by simp [World.alloc], fun j x hx => ?_⟩
    have hi := (List.getElem?_eq_some_iff.1 hx).1
    have hbl : (w.drew.alloc (.cells (bytesRow (strL l) (grownCap w l.length 0 5)) 5 ((bytesRow (strL l) (grownCap w l.length 0 5)).size, (bytesRow (strL l) (grownCap w l.length 0 5)).size + 1))).heap[w.heap.size]? = some (.cells (bytesRow (strL l) (grownCap w l.length 0 5)) 5 ((bytesRow (strL l) (grownCap w l.length 0 5)).size, (bytesRow (strL l) (grownCap w l.length 0 5)).size + 1)) := heap_alloc_new w.drew _
    rw [cell_of_row _ _ _ _ _ _ hbl]
    have h2 := bytesRow_at (strL l) (grownCap w l.length 0 5) j (by simp [strL]; exact hi)
    rw [Nat.zero_add, h2]
    have : (strL l).data[j]'(by simp [strL]; exact hi) = x := by
      have := (List.getElem?_eq_some_iff.1 hx).2
      simp [strL, this]
    rw [this]
/-- A Writer that is not bad, behind a beginning. -/
def WrOn (W0 : World) (b : Nat) (w : World) (bs : List UInt8) : Prop := ∃ v, WrAt w b W0.heap.size v bs false ∧ Keeps (fun k => k = b) W0 w
theorem WrOn.start {W0 : World} {b : Nat} (h : W0.heap[b]? = some (.cells #[.slice none 0 0, .bool false] 167 (0, 0))) : WrOn W0 b W0 [] :=
  ⟨.slice none 0 0, ⟨h, World.ownsRow_nil _ _ _ _, by simp [Value.ownBlock]⟩, Keeps.refl _ _⟩
theorem WrOn.go {W0 : World} {b : Nat} {w w' : World} {bs : List UInt8} (h : WrOn W0 b w bs) (hb : Below w.heap.size w w') : WrOn W0 b w' bs := by
  obtain ⟨v, hW, hK⟩ := h
  have hbS := (Array.getElem?_eq_some_iff.1 hW.blk).1
  exact ⟨v, ⟨(hb.block _ hbS).trans hW.blk, own_below hW.own hb (Nat.le_refl _), hW.ne⟩, hK.trans (Keeps.ofBelow hb)⟩
theorem WrOn.of {W0 : World} {b : Nat} {w : World} {v : Value} {bs cs : List UInt8} (hW : WrAt w b W0.heap.size v bs false) (hK : Keeps (fun k => k = b) W0 w) {e : Ending} {w' : World} (h : WrDone w b W0.heap.size v cs false e w') :
    e = .returned (.tuple #[]) ∧ WrOn W0 b w' cs := by
  obtain ⟨v', rfl, hW', hK', _⟩ := h
  refine ⟨rfl, v', hW', hK.go hK' (fun k hk => ?_)⟩
  rcases hk with h | h
  · exact .inl h
  · exact .inr (own_base hW.own k h)
theorem WrOn.num {W0 : World} {b : Nat} {w : World} {bs : List UInt8} (h : WrOn W0 b w bs) (n : Nat) (hn : n ≤ 4611686018427387904) (hl : bs.length ≤ 1000000000) :
    Calls Tryz.prog 117 #[.pointer (some ⟨b, 0, none⟩), .int .i64 n] w fun e w' => e = .returned (.tuple #[]) ∧ WrOn W0 b w' (bs ++ num8 n) := by
  obtain ⟨v, hW, hK⟩ := h
  exact (wNum_good b W0.heap.size v bs false n w hW hn hK.size (by omega)).mono fun e w' h => WrOn.of hW hK h
theorem WrOn.bytes {W0 : World} {b : Nat} {w w2 : World} {bs : List UInt8} (h : WrOn W0 b w bs) (hB : Below w.heap.size w w2) {vb : Value} {data : List UInt8} (hd : RdB w2 vb data) (hnil : NilOk vb)
    (hk : ∀ k, vb.ownBlock = some k → k ≠ b ∧ (k < W0.heap.size ∨ w.heap.size ≤ k)) (hl : bs.length ≤ 1000000000) (hl2 : data.length ≤ 1000000000) :
    Calls Tryz.prog 165 #[.pointer (some ⟨b, 0, none⟩), vb] w2 fun e w' => e = .returned (.tuple #[]) ∧ WrOn W0 b w' (bs ++ lenB data) := by
  obtain ⟨v0, hW0, hK0⟩ := id h
  obtain ⟨v, hW, hK⟩ : ∃ v, WrAt w2 b W0.heap.size v bs false ∧ Keeps (fun k => k = b) W0 w2 ∧ ∀ k, v.ownBlock = some k → k < w.heap.size := by
    have hbS := (Array.getElem?_eq_some_iff.1 hW0.blk).1
    exact ⟨v0, ⟨(hB.block _ hbS).trans hW0.blk, own_below hW0.own hB (Nat.le_refl _), hW0.ne⟩, hK0.trans (Keeps.ofBelow hB), fun k hk => (hW0.own.lt k hk).2⟩
  obtain ⟨hK, hlt⟩ := hK
  refine (wBytes_good b W0.heap.size v bs false vb data w2 hW hd hnil (fun e => (hk b e).1 rfl) (fun k hk1 hk2 => ?_) hK.size (by omega)).mono fun e w' h => WrOn.of hW hK h
  have h1 := own_base hW.own k hk2
  have h2 := hlt k hk2
  rcases (hk k hk1).2 with h | h <;> omega
theorem WrOn.out {W0 : World} {b : Nat} {w : World} {bs : List UInt8} (h : WrOn W0 b w bs) (hl : bs.length ≤ 1000000000) : Calls Tryz.prog 118 #[.pointer (some ⟨b, 0, none⟩)] w (OutDone w bs) := by
  obtain ⟨v, hW, hK⟩ := h
  exact wOut_calls b W0.heap.size v bs w hW (by omega)
theorem WrOn.cell {W0 : World} {b : Nat} {w : World} {bs : List UInt8} (h : WrOn W0 b w bs) {k o : Nat} {v : Value} (hk : k ≠ b) (hc : W0.cell? ⟨k, o, none⟩ = some v) : w.cell? ⟨k, o, none⟩ = some v := by
  obtain ⟨v, hW, hK⟩ := h
  exact hK.cell hk hc
theorem WrOn.below {W0 : World} {b B : Nat} {w : World} {bs : List UInt8} (h : WrOn W0 b w bs) (hb : B ≤ b) (hB : B ≤ W0.heap.size) : Below B W0 w := by
  obtain ⟨v, hW, hK⟩ := h
  exact hK.below (fun k hk => by omega) hB
theorem WrOn.size {W0 : World} {b : Nat} {w : World} {bs : List UInt8} (h : WrOn W0 b w bs) : W0.heap.size ≤ w.heap.size := by
  obtain ⟨v, hW, hK⟩ := h
  exact hK.size
theorem WrOn.rdb {W0 : World} {b : Nat} {w : World} {bs : List UInt8} (h : WrOn W0 b w bs) {v : Value} {xs : List UInt8} (hr : RdB W0 v xs) (hv : v.ownBlock ≠ some b) : RdB w v xs := by
  obtain ⟨u, hW, hK⟩ := h
  exact hr.keeps hK (fun k hk e => hv (by rw [hk, e]))
theorem WrOn.rds {W0 : World} {b : Nat} {w : World} {bs : List UInt8} (h : WrOn W0 b w bs) {v : Value} {xs : List (List UInt8)} (hr : RdS W0 v xs) (hv : v.ownBlock ≠ some b) : RdS w v xs := by
  obtain ⟨u, hW, hK⟩ := h
  exact RdL.keeps hr hK (fun k o l c hk e => hv (by rw [hk, e]; rfl))
end Go.Proofs.YtffnbkmigapmjaaGreatDoor

set_option linter.unusedSimpArgs false
set_option linter.unusedVariables false
namespace Go.Proofs.YtffnbkmigapmjaaGreatDoor
open Go.RowKit
theorem good_iff (m : MailD) : m.good = true ↔ (1 ≤ m.id ∧ m.id ≤ 999999999) ∧ (0 ≤ m.parent ∧ m.parent ≤ m.id - 1) ∧ (0 ≤ m.born ∧ m.born ≤ 1099511627776) ∧ (1 ≤ m.rcpts.length ∧ m.rcpts.length ≤ 8) ∧ m.body.length ≤ 8192 ∧ bodyB m.body = true ∧ (m.frm.length = 0 ∨ boxB m.frm = true) ∧ m.rcpts.all boxB = true := by
  unfold MailD.good
  simp only [Bool.and_eq_true, Bool.or_eq_true, decide_eq_true_eq]
  constructor
  · rintro ⟨a, b, c, d, e⟩; exact ⟨a, b, c, by omega, e⟩
  · rintro ⟨a, b, c, d, e⟩; exact ⟨a, b, c, by omega, e⟩
def MailD.small (m : MailD) : Prop := m.frm.length ≤ 100000 ∧ ∀ l ∈ m.rcpts, l.length ≤ 100000
theorem inner_small (m : MailD) (h : m.small) (hr : m.rcpts.length ≤ 8) (hb : m.body.length ≤ 8192) : m.inner.length ≤ 1000000 := by
  have := flat_lenB_le m.rcpts 100000 h.2
  have h2 := h.1
  have h3 : m.rcpts.length * (8 + 100000) ≤ 8 * (8 + 100000) := Nat.mul_le_mul_right _ hr
  unfold MailD.inner
  simp only [List.length_append, num8_length, lenB_length]
  omega
def EncBad (e : Ending) : Prop := e = .returned (.tuple #[.slice none 0 0, .bool false])
set_option maxRecDepth 100000 in
set_option maxHeartbeats 8000000 in
theorem encode_bad (m : MailD) (vr vb : Value) (w : World) (hr : RdS w vr m.rcpts) (hb : RdB w vb m.body) (hsr : ∀ l ∈ m.rcpts, l.length < 4294967281) (hsf : m.frm.length < 4294967281) (hmax : MaxOk w) (hg : m.good = false) :
    Calls Tryz.prog 114 #[mailVal m vr vb] w fun e w' => EncBad e ∧ Below w.heap.size w w' := by
  obtain ⟨W, hW⟩ : ∃ W, w.alloc (.cells #[.int .i64 m.id, .int .i64 m.parent, .int .i64 m.born, .string (strL m.frm), vr, vb] 29) = W := ⟨_, rfl⟩
  have hbW : Below w.heap.size w W := by rw [← hW]; exact (Below.refl _ _).alloc (Nat.le_refl _) _
  have hgd := envGood_calls m vr vb W (hr.below (Nat.le_refl _) hbW) (hb.below (Nat.le_refl _) hbW) hsr hsf (hmax.below hbW)
  rw [hg] at hgd
  have Hgd := Lib.hid hgd
  clear hgd hg hsr hsf hmax hr hb
  subst hW
  obtain ⟨id, parent, born, frm, rcpts, body⟩ := m
  unfold mailVal at Hgd ⊢
  simp only at Hgd ⊢
  generalize strL frm = sf at *
  go_enter Tryz.func114, Tryz.ntmps114
  go_wp2_with fail
  refine (Hgd.out).mono ?_; rintro e w1 ⟨rfl, hb1⟩
  have hbw1 := hbW.trans (hb1.mono hbW.size)
  go_wp2
  go_ret2
  exact ⟨rfl, hbw1⟩
def EnvEncDone (w : World) (bs : List UInt8) (e : Ending) (w' : World) : Prop :=
  ∃ v', e = .returned (.tuple #[v', .bool true]) ∧ w'.ownsRow w.heap.size 5 1 v' bs.length (bs.map u8v) ∧ Below w.heap.size w w'
set_option maxRecDepth 100000 in
set_option maxHeartbeats 16000000 in
theorem encode_good (m : MailD) (vr vb : Value) (w : World) (hr : RdS w vr m.rcpts) (hb : RdB w vb m.body) (hnb : NilOk vb) (hsm : m.small) (hmax : MaxOk w) (hg : m.good = true) (hor : ∀ k, vr.ownBlock = some k → k < w.heap.size) (hob : ∀ k, vb.ownBlock = some k → k < w.heap.size) :
    Calls Tryz.prog 114 #[mailVal m vr vb] w (EnvEncDone w m.record) := by
  obtain ⟨W, hW⟩ : ∃ W, w.alloc (.cells #[.int .i64 m.id, .int .i64 m.parent, .int .i64 m.born, .string (strL m.frm), vr, vb] 29) = W := ⟨_, rfl⟩
  have hbW : Below w.heap.size w W := by rw [← hW]; exact (Below.refl _ _).alloc (Nat.le_refl _) _
  have hgd := envGood_calls m vr vb W (hr.below (Nat.le_refl _) hbW) (hb.below (Nat.le_refl _) hbW) (fun l h => by have := hsm.2 l h; omega) (by have := hsm.1; omega) (hmax.below hbW)
  rw [hg] at hgd
  have hgi := (good_iff m).1 hg
  have hin := inner_small m hsm hgi.2.2.2.1.2 hgi.2.2.2.2.1
  have hrec : m.record = lenB m.inner ++ be4 (PbCrc.sum m.inner) := rfl
  have Hgd := Lib.hid hgd
  clear hgd hg hmax
  obtain ⟨id, parent, born, frm, rcpts, body⟩ := m
  unfold MailD.small at hsm
  unfold mailVal at Hgd ⊢
  simp only at Hgd hgi hr hb hsm hW ⊢
  obtain ⟨⟨h1a, h1b⟩, ⟨h2a, h2b⟩, ⟨h3a, h3b⟩, ⟨h4a, h4b⟩, h5, -⟩ := hgi
  obtain ⟨n0, rfl⟩ := Int.eq_ofNat_of_zero_le (show 0 ≤ id by omega)
  obtain ⟨n1, rfl⟩ := Int.eq_ofNat_of_zero_le h2a
  obtain ⟨n2, rfl⟩ := Int.eq_ofNat_of_zero_le h3a
  obtain ⟨bs, hbs⟩ : ∃ bs, bs = (MailD.mk (n0 : Int) n1 n2 frm rcpts body).inner := ⟨_, rfl⟩
  rw [← hbs] at hin hrec
  rw [hrec]
  have hbs' : bs = ((((num8 n0 ++ num8 n1 ++ num8 n2) ++ lenB frm) ++ num8 rcpts.length) ++ rcpts.flatMap lenB) ++ lenB body := hbs
  clear hbs hrec
  have hlen := fun (j : Nat) => flat_lenB_le (rcpts.take j) 100000 (fun l h => hsm.2 l (List.mem_of_mem_take h))
  obtain ⟨hs1, hs2⟩ := hsm
  obtain ⟨ar, capr, rfl, hlr, hcr⟩ := hr.form
  obtain ⟨ab, capb, rfl, hlb, hcb⟩ := hb.form
  have hblkM : W.heap[w.heap.size]? = some (.cells #[.int .i64 n0, .int .i64 n1, .int .i64 n2, .string (strL frm), .slice ar rcpts.length capr, .slice ab body.length capb] 29 (0, 0)) := by rw [← hW]; exact heap_alloc_new w _
  have hrW := hr.below (Nat.le_refl _) hbW
  have hbdW := hb.below (Nat.le_refl _) hbW
  have Hbs := Lib.hid hbs'
  have Hr := Lib.hid hrW
  have Hb := Lib.hid hbdW
  have HblkM := Lib.hid hblkM
  have Hor := Lib.hid hor
  have Hob := Lib.hid hob
  have Hnb := Lib.hid hnb
  have Hlen := Lib.hid hlen
  have Hs2 := Lib.hid hs2
  have hsW : W.heap.size = w.heap.size + 1 := by rw [← hW]; simp
  have HsW := Lib.hid hsW
  clear hbs' hr hb hrW hbdW hblkM hor hob hnb hlen hs2 hsW
  subst hW
  go_enter Tryz.func114, Tryz.ntmps114
  go_wp2_with fail
  refine (Hgd.out).mono ?_; rintro e w1 ⟨rfl, hb1⟩
  have hbw1 := hbW.trans (hb1.mono hbW.size)
  have hM : w.heap.size < w1.heap.size := by have := hb1.size; have := HsW.out; omega
  have hblk1 := (hb1.block _ (by rw [HsW.out]; omega)).trans HblkM.out
  have hcM : ∀ (j : Nat) v, (#[Value.int .i64 n0, .int .i64 n1, .int .i64 n2, .string (strL frm), .slice ar rcpts.length capr, .slice ab body.length capb] : Array Value)[j]? = some v → w1.cell? ⟨w.heap.size, j, none⟩ = some v := by
    intro j v hv; rw [cell_of_row _ _ _ _ _ _ hblk1]; exact hv
  obtain ⟨W0, hW0⟩ : ∃ W0, (w1.alloc (.cells #[.slice none 0 0, .bool false] 167)).alloc (.cells #[.int .i64 n0, .int .i64 n1, .int .i64 n2] 3) = W0 := ⟨_, rfl⟩
  have hb10 : Below w1.heap.size w1 W0 := by rw [← hW0]; exact ((Below.refl _ _).alloc (Nat.le_refl _) _).alloc (by simp) _
  have hs0 : W0.heap.size = w1.heap.size + 2 := by rw [← hW0]; simp
  have hwr0 : WrOn W0 w1.heap.size W0 [] := WrOn.start (by rw [← hW0]; exact heap_alloc2_old _ _ _)
  have hi3 : W0.heap[w1.heap.size + 1]? = some (.cells #[.int .i64 n0, .int .i64 n1, .int .i64 n2] 3 (0, 0)) := by rw [← hW0]; exact heap_alloc2_new _ _ _
  have hcI : ∀ (j : Nat) v, (#[Value.int .i64 n0, .int .i64 n1, .int .i64 n2] : Array Value)[j]? = some v → W0.cell? ⟨w1.heap.size + 1, j, none⟩ = some v := by
    intro j v hv; rw [cell_of_row _ _ _ _ _ _ hi3]; exact hv
  have hcM0 : ∀ (j : Nat) v, (#[Value.int .i64 n0, .int .i64 n1, .int .i64 n2, .string (strL frm), .slice ar rcpts.length capr, .slice ab body.length capb] : Array Value)[j]? = some v → W0.cell? ⟨w.heap.size, j, none⟩ = some v :=
    fun j v hv => (hb10.cell (p := ⟨w.heap.size, j, none⟩) hM).trans (hcM j v hv)
  have m0 := hcM 0 _ rfl
  have m1 := hcM 1 _ rfl
  have m2 := hcM 2 _ rfl
  have hr0 := (Hr.out.below (Nat.le_refl _) hb1).below (Nat.le_refl _) hb10
  have hbd0 := (Hb.out.below (Nat.le_refl _) hb1).below (Nat.le_refl _) hb10
  have HcM0 := Lib.hid hcM0
  have HcI := Lib.hid hcI
  have Hr0 := Lib.hid hr0
  have Hbd0 := Lib.hid hbd0
  have Hwr0 := Lib.hid hwr0
  clear hcM0 hcI hr0 hbd0 hwr0 hi3 hcM hblk1
  subst hW0
  go_wp2
  generalize hW0 : (w1.alloc (.cells #[.slice none 0 0, .bool false] 167)).alloc (.cells #[.int .i64 n0, .int .i64 n1, .int .i64 n2] 3) = W0 at *
  have hne1 : w1.heap.size + 1 ≠ w1.heap.size := by omega
  have hneM : w.heap.size ≠ w1.heap.size := by omega
  have hnes : (Value.slice ar rcpts.length capr).ownBlock ≠ some w1.heap.size := fun e => by have := Hor.out _ e; omega
  have hneb : (Value.slice ab body.length capb).ownBlock ≠ some w1.heap.size := fun e => by have := Hob.out _ e; omega
  have Hneb := Lib.hid hneb
  have Hnes := Lib.hid hnes
  clear hnes hneb m0 m1 m2 hb1 Hgd Hr Hb HblkM HsW hW0
  go_loopw [26] (fun i wr => ∃ j : Nat, j ≤ 3 ∧ i = .int .i64 j ∧ WrOn W0 w1.heap.size wr (((num8 n0 ++ num8 n1) ++ num8 n2).take (8 * j))) (fun i _ => 3 - (intOf i).toNat)
  case atStart => exact ⟨0, Nat.zero_le _, rfl, by simpa using Hwr0.out⟩
  case round =>
    obtain ⟨j, hj, rfl, hon⟩ := hrel
    by_cases hlt : j < 3
    · obtain ⟨n, hn, hcn, hnx⟩ : ∃ n : Nat, n ≤ 4611686018427387904 ∧ wr.cell? ⟨w1.heap.size + 1, j, none⟩ = some (.int .i64 n) ∧ ((num8 n0 ++ num8 n1) ++ num8 n2).take (8 * (j + 1)) = ((num8 n0 ++ num8 n1) ++ num8 n2).take (8 * j) ++ num8 n := by
        have e0 := num8_length n0
        have e1 := num8_length n1
        have e2 := num8_length n2
        match j, hlt with
        | 0, _ => exact ⟨n0, by omega, hon.cell hne1 (HcI.out 0 _ rfl), by rw [List.append_assoc, List.take_append_of_le_length (by omega), List.take_of_length_le (by omega)]; simp⟩
        | 1, _ => exact ⟨n1, by omega, hon.cell hne1 (HcI.out 1 _ rfl), by rw [List.take_append_of_le_length (by simp; omega), List.take_of_length_le (by simp; omega), List.take_append_of_le_length (by simp; omega), List.take_append_of_le_length (by omega), List.take_of_length_le (by omega)]⟩
        | 2, _ => exact ⟨n2, by omega, hon.cell hne1 (HcI.out 2 _ rfl), by rw [List.take_of_length_le (by simp; omega), List.take_append_of_le_length (by simp; omega), List.take_of_length_le (by simp; omega)]⟩
      have hcall := hon.num n hn (by simp; omega)
      rw [← hnx] at hcall
      have Hcall := Lib.hid hcall
      have hj0 : (0 : Int) ≤ (j : Int) := by omega
      have hj1 : (j : Int) < 3 := by omega
      clear hcall hnx hn hon
      go_wp2_with fail
      refine (Hcall.out).mono ?_; rintro e w2 ⟨rfl, hon2⟩
      have Hon2 := Lib.hid hon2
      clear hon2
      go_wp2
      go_roundw
      case rel => exact ⟨j + 1, by omega, by simp, Hon2.out⟩
      case measure => simp [intOf] <;> omega
    · have hje : j = 3 := by omega
      subst hje
      rw [List.take_of_length_le (by simp [num8_length])] at hon
      generalize hp3 : (num8 n0 ++ num8 n1) ++ num8 n2 = p3 at hon
      have hl3 : p3.length = 24 := by rw [← hp3]; simp [num8_length]
      have Hp3 := Lib.hid hp3
      clear hp3
      have c3 := hon.cell hneM (HcM0.out 3 _ rfl)
      obtain ⟨C, W2, hrun, hrd, hb2⟩ := conv_text frm (by omega) wr
      have hcall := hon.bytes hb2 hrd (fun l c e => by cases e) (fun k hk => by cases hk; have := hon.size; exact ⟨by show wr.heap.size ≠ _; omega, .inr (Nat.le_refl _)⟩) (by omega) (by omega)
      generalize strL frm = sf at c3 hrun
      have Hcall := Lib.hid hcall
      clear hcall hon hrd hb2
      go_wp2_with fail
      refine (Hcall.out).mono ?_; rintro e w2 ⟨rfl, hon2⟩
      generalize hp4 : p3 ++ lenB frm = p4 at hon2
      have hl4 : p4.length ≤ 24 + 8 + 100000 := by rw [← hp4, List.length_append, lenB_length]; omega
      have Hp4 := Lib.hid hp4
      clear hp4
      have c4 := hon2.cell hneM (HcM0.out 4 _ rfl)
      have hcall2 := hon2.num rcpts.length (by omega) (by omega)
      have Hcall2 := Lib.hid hcall2
      clear hcall2 hon2
      go_wp2_with fail
      refine (Hcall2.out).mono ?_; rintro e w3 ⟨rfl, hon3⟩
      generalize hp5 : p4 ++ num8 rcpts.length = p5 at hon3
      have hl5 : p5.length ≤ 24 + 8 + 100000 + 8 := by rw [← hp5, List.length_append, num8_length]; omega
      have Hp5 := Lib.hid hp5
      clear hp5
      have c4' := hon3.cell hneM (HcM0.out 4 _ rfl)
      have Hon3 := Lib.hid hon3
      clear hon3
      go_wp2
      go_loopw [47] (fun i wr => ∃ j : Nat, j ≤ rcpts.length ∧ i = .int .i64 j ∧ WrOn W0 w1.heap.size wr (p5 ++ (rcpts.take j).flatMap lenB)) (fun i _ => rcpts.length - (intOf i).toNat)
      case atStart => exact ⟨0, Nat.zero_le _, rfl, by simpa using Hon3.out⟩
      case round =>
        obtain ⟨j, hj, rfl, hon⟩ := hrel
        by_cases hlt : j < rcpts.length
        · obtain ⟨x, hx⟩ : ∃ x, rcpts[j]? = some x := ⟨_, List.getElem?_eq_getElem hlt⟩
          obtain ⟨b1, o1, k1, e1, _, p1⟩ := RdS.at (hon.rds Hr0.out Hnes.out) hx
          cases e1
          have hxl := Hs2.out x (List.mem_of_getElem? hx)
          have hlj := Hlen.out j
          have hlj2 : (rcpts.take j).length * (8 + 100000) ≤ 8 * (8 + 100000) := Nat.mul_le_mul_right _ (by rw [List.length_take]; omega)
          obtain ⟨C, W2, hrun, hrd, hb2⟩ := conv_text x (by omega) wr
          have hcall := hon.bytes hb2 hrd (fun l c e => by cases e) (fun k hk => by cases hk; have := hon.size; exact ⟨by show wr.heap.size ≠ _; omega, .inr (Nat.le_refl _)⟩) (by rw [List.length_append]; omega) (by omega)
          have hnx : p5 ++ (rcpts.take (j + 1)).flatMap lenB = (p5 ++ (rcpts.take j).flatMap lenB) ++ lenB x := by rw [take_snoc hx, List.flatMap_append, List.append_assoc]; simp
          rw [← hnx] at hcall
          generalize strL x = sx at p1 hrun
          have Hcall := Lib.hid hcall
          have hj0 : (0 : Int) ≤ (j : Int) := by omega
          have hj1 : (j : Int) < (rcpts.length : Int) := by omega
          clear hcall hon hrd hb2 hnx hx
          go_wp2_with fail
          refine (Hcall.out).mono ?_; rintro e w4 ⟨rfl, hon4⟩
          have Hon4 := Lib.hid hon4
          clear hon4
          go_wp2
          go_roundw
          case rel => exact ⟨j + 1, by omega, by simp, Hon4.out⟩
          case measure => simp [intOf] <;> omega
        · have hje : j = rcpts.length := by omega
          have hlj := Hlen.out j
          have hlj2 : (rcpts.take j).length * (8 + 100000) ≤ 8 * (8 + 100000) := Nat.mul_le_mul_right _ (by rw [List.length_take]; omega)
          subst hje
          rw [List.take_of_length_le (Nat.le_refl _)] at hon hlj hlj2
          generalize hp6 : p5 ++ rcpts.flatMap lenB = p6 at hon
          have hl6 : p6.length ≤ 1000000 := by rw [← hp6, List.length_append]; omega
          have Hp6 := Lib.hid hp6
          clear hp6 hlj hlj2
          have c5 := hon.cell hneM (HcM0.out 5 _ rfl)
          have hcall := hon.bytes (Below.refl _ _) (hon.rdb Hbd0.out Hneb.out) Hnb.out (fun k hk => ⟨fun e => Hneb.out (by rw [hk, e]), .inl (by have := Hob.out k hk; omega)⟩) (by omega) (by omega)
          have hin' : p6 ++ lenB body = bs := by rw [Hbs.out, ← Hp6.out, ← Hp5.out, ← Hp4.out, ← Hp3.out]
          rw [hin'] at hcall
          have Hcall := Lib.hid hcall
          clear hcall hon hin'
          go_wp2_with fail
          refine (Hcall.out).mono ?_; rintro e w5 ⟨rfl, hon5⟩
          have hout := hon5.out (by omega)
          have hbw5 : Below w1.heap.size w1 w5 := hb10.trans (hon5.below (Nat.le_refl _) (by omega))
          have Hout := Lib.hid hout
          clear hout hon5
          go_wp2_with fail
          refine (Hout.out).mono ?_; rintro e w6 ⟨vi, rfl, hown6, hb6⟩
          have hbw6 := hbw5.trans (hb6.mono hbw5.size)
          have hri := rdB_ofOwn hown6
          have hvb := own_base hown6
          have hvl := fun k hk => (hown6.lt k hk).2
          obtain ⟨W7, hW7⟩ : ∃ W7, w6.alloc (.cells #[.slice none 0 0, .bool false] 167) = W7 := ⟨_, rfl⟩
          have hb7 : Below w6.heap.size w6 W7 := by rw [← hW7]; exact (Below.refl _ _).alloc (Nat.le_refl _) _
          have hs7 : W7.heap.size = w6.heap.size + 1 := by rw [← hW7]; simp
          have hwr7 : WrOn W7 w6.heap.size W7 [] := WrOn.start (by rw [← hW7]; exact heap_alloc_new w6 _)
          have hri7 := hri.below (Nat.le_refl _) hb7
          obtain ⟨ai, capi, hvi⟩ := own_form0 hown6
          have hnil : NilOk vi := by
            obtain ⟨_, ⟨h2, h3⟩ | ⟨g, cap, cur, hv', _⟩⟩ := hown6
            · intro l c e; rw [e] at h2; cases h2; exact ⟨rfl, rfl⟩
            · intro l c e; rw [e] at hv'; cases hv'
          have hcall := hwr7.bytes (Below.refl _ _) hri7 hnil (fun k hk => by have := hvl k hk; exact ⟨by omega, .inl (by omega)⟩) (by simp) (by omega)
          rw [List.nil_append] at hcall
          have Hcall := Lib.hid hcall
          have Hri := Lib.hid hri7
          have Hvl := Lib.hid hvl
          have hbw7 := hbw6.trans (hb7.mono hbw6.size)
          have hsz5 := hb6.size
          have hsz1 := hbw5.size
          clear hcall hri hri7 hvl hown6 hwr7 hvb hnil
          subst hvi
          subst hW7
          go_wp2_with fail
          refine (Hcall.out).mono ?_; rintro e w8 ⟨rfl, hon8⟩
          have hout8 := hon8.out (by rw [lenB_length]; omega)
          have hri8 := hon8.rdb Hri.out (fun e => by have := Hvl.out _ e; omega)
          have hb8 : Below w6.heap.size _ w8 := hon8.below (Nat.le_refl _) (by omega)
          have hbw8 := hbw7.trans (hb8.mono (by omega))
          have Hout8 := Lib.hid hout8
          have Hri8 := Lib.hid hri8
          have hs8 := hon8.size
          clear hout8 hri8 hon8
          go_wp2_with fail
          refine (Hout8.out).mono ?_; rintro e w9 ⟨vo, rfl, hown9, hb9⟩
          have hri9 := Hri8.out.below (Nat.le_refl _) hb9
          have hbw9 := hbw8.trans (hb9.mono hbw8.size)
          have hsum := envSum_calls _ bs w9 hri9
          have Hsum := Lib.hid hsum
          clear hsum hri9
          go_wp2_with fail
          refine (Hsum.out).mono ?_; rintro e w10 ⟨vs, rfl, hown10, hb10'⟩
          have hownO := own_below hown9 hb10' (Nat.le_refl _)
          have hsrc := rdLB (rdB_ofOwn hown10)
          have hnils : NilOk vs := by
            obtain ⟨_, ⟨h2, h3⟩ | ⟨g, cap, cur, hv', _⟩⟩ := hown10
            · intro l c e; rw [e] at h2; cases h2; exact ⟨rfl, rfl⟩
            · intro l c e; rw [e] at hv'; cases hv'
          have hone := bb1_one (be4 (PbCrc.sum bs))
          have h4 : (be4 (PbCrc.sum bs)).length = 4 := rfl
          have hLb := lenB_length bs
          have hm1 : (lenB bs).length + (be4 (PbCrc.sum bs)).length ≤ maxLen := by show _ ≤ 9223372036854775807; omega
          have hm2 : ((lenB bs).length + (be4 (PbCrc.sum bs)).length) * 1 ≤ 140737488355328 := by omega
          have hbs10 : w8.heap.size ≤ w10.heap.size := by have := hb9.size; have := hb10'.size; omega
          have hbw10 := hbw9.trans (hb10'.mono hbw9.size)
          obtain ⟨i0, hi, hz0, hz1, hz2⟩ := info_parts infoU8
          have Hone := Lib.hid hone
          clear hone hown9 hown10
          go_wp2_with (at_builtin; go_must (refine wpList_append_any bb1_len (by decide) rfl (.tmp 74) (.tmp 76) 22 rfl w8.heap.size 5 i0 (.int .u8 0) 1 Tryz.underlying22 hi hz0 hz1 hz2 rfl _ _ _ rfl hownO _ (be4 (PbCrc.sum bs)) rfl hsrc hnils Hone.out hm1 hm2 hbs10 ?_); rintro v2 w11 hown11 hg11 _)
          go_ret2
          have hsw8 : w.heap.size ≤ w8.heap.size := by omega
          refine ⟨v2, rfl, ?_, (hbw1.trans (hbw10.mono hbw1.size)).grown hg11 (by have := hbw10.size; omega) (fun k hk => by have := own_base hownO k hk; omega)⟩
          rw [bb1_flat, ← List.map_append, ← List.length_append] at hown11
          exact own_mono hown11 hsw8
end Go.Proofs.YtffnbkmigapmjaaGreatDoor

set_option linter.unusedSimpArgs false
set_option linter.unusedVariables false
namespace Go.Proofs.YtffnbkmigapmjaaGreatDoor
open Go.RowKit
theorem beNat_num8 (n : Nat) (h : n < 18446744073709551616) : beNat (num8 n) = n := by
  have e : num8 n = [UInt8.ofNat (n / 2 ^ 56), UInt8.ofNat (n / 2 ^ 48), UInt8.ofNat (n / 2 ^ 40), UInt8.ofNat (n / 2 ^ 32), UInt8.ofNat (n / 2 ^ 24), UInt8.ofNat (n / 2 ^ 16), UInt8.ofNat (n / 2 ^ 8), UInt8.ofNat (n / 2 ^ 0)] := rfl
  rw [e]
  simp only [beNat, List.foldl_cons, List.foldl_nil, UInt8.toNat_ofNat']
  omega
theorem parse_bytes (k : MarkD) (hg : k.good = true) : parseMark k.bytes = some k := by
  have hg' : 1 ≤ k.kind ∧ k.kind ≤ 5 ∧ 0 ≤ k.rcpt ∧ k.rcpt < 8 ∧ 0 ≤ k.n ∧ k.n ≤ 1099511627776 := of_decide_eq_true hg
  have hm : markOf k.bytes = k := by
    obtain ⟨kind, rcpt, n⟩ := k
    simp only at hg'
    obtain ⟨a, rfl⟩ := Int.eq_ofNat_of_zero_le (show 0 ≤ kind by omega)
    obtain ⟨b, rfl⟩ := Int.eq_ofNat_of_zero_le (show 0 ≤ rcpt by omega)
    obtain ⟨c, rfl⟩ := Int.eq_ofNat_of_zero_le (show 0 ≤ n by omega)
    have ea : (num8 a).length = 8 := num8_length a
    have eb : (num8 b).length = 8 := num8_length b
    have ec : (num8 c).length = 8 := num8_length c
    unfold markOf MarkD.bytes MarkD.body
    simp only [Int.toNat_natCast]
    rw [List.append_assoc, List.append_assoc]
    have t1 : (num8 a ++ (num8 b ++ (num8 c ++ be4 (PbCrc.sum (num8 a ++ num8 b ++ num8 c))))).take 8 = num8 a := by rw [List.take_append_of_le_length (by omega), List.take_of_length_le (by omega)]
    have d1 : (num8 a ++ (num8 b ++ (num8 c ++ be4 (PbCrc.sum (num8 a ++ num8 b ++ num8 c))))).drop 8 = num8 b ++ (num8 c ++ be4 (PbCrc.sum (num8 a ++ num8 b ++ num8 c))) := List.drop_left' ea
    have d2 : (num8 a ++ (num8 b ++ (num8 c ++ be4 (PbCrc.sum (num8 a ++ num8 b ++ num8 c))))).drop 16 = num8 c ++ be4 (PbCrc.sum (num8 a ++ num8 b ++ num8 c)) := by
      rw [show 16 = 8 + 8 from rfl, ← List.drop_drop, d1]; exact List.drop_left' eb
    rw [t1, d1, d2, List.take_append_of_le_length (by omega), List.take_of_length_le (by omega), List.take_append_of_le_length (by omega), List.take_of_length_le (by omega)]
    rw [beNat_num8 a (by omega), beNat_num8 b (by omega), beNat_num8 c (by omega)]
  unfold parseMark
  rw [hm, if_pos ⟨hg, rfl⟩]
/-- The bytes of marks. -/
def bytesM (ks : List MarkD) : List UInt8 := ks.flatMap MarkD.bytes
theorem bytesM_length (ks : List MarkD) : (bytesM ks).length = 28 * ks.length := by
  induction ks with
  | nil => rfl
  | cons k ks ih => unfold bytesM at *; rw [List.flatMap_cons, List.length_append, ih, bytes_length, List.length_cons]; omega
theorem decodeN_cut : ∀ (ks : List MarkD) (m n : Nat), (∀ k ∈ ks, k.good = true) → ks.length ≤ m → n ≤ (bytesM ks).length → decodeN m ((bytesM ks).take n) = ks.take (n / 28) := by
  intro ks
  induction ks with
  | nil => intro m n _ _ _; cases m <;> simp [bytesM, decodeN]
  | cons k ks ih =>
    intro m n hg hm hn
    rw [bytesM_length] at hn
    rw [List.length_cons] at hm hn
    obtain ⟨m, rfl⟩ : ∃ m', m = m' + 1 := ⟨m - 1, by omega⟩
    have hl := bytes_length k
    have hb : bytesM (k :: ks) = k.bytes ++ bytesM ks := rfl
    rw [decodeN]
    by_cases hn28 : n < 28
    · rw [if_pos (by rw [List.length_take]; omega), show n / 28 = 0 by omega]; rfl
    · have hle : ((bytesM (k :: ks)).take n).length = n := by rw [List.length_take, bytesM_length, List.length_cons]; omega
      rw [if_neg (by omega)]
      have ht : ((bytesM (k :: ks)).take n).take 28 = k.bytes := by
        rw [List.take_take, hb, Nat.min_eq_left (by omega), List.take_append_of_le_length (by omega), List.take_of_length_le (by omega)]
      have hd : ((bytesM (k :: ks)).take n).drop 28 = (bytesM ks).take (n - 28) := by
        rw [List.drop_take, hb, List.drop_left' hl]
      rw [ht, hd, parse_bytes k (hg k List.mem_cons_self)]
      simp only
      rw [ih m (n - 28) (fun x hx => hg x (List.mem_cons_of_mem _ hx)) (by omega) (by rw [bytesM_length]; omega)]
      rw [show n / 28 = (n - 28) / 28 + 1 by omega, List.take_succ_cons]
theorem decodeM_cut (ks : List MarkD) (n : Nat) (hg : ∀ k ∈ ks, k.good = true) (hm : ks.length ≤ 4096) (hn : n ≤ (bytesM ks).length) : decodeM ((bytesM ks).take n) = ks.take (n / 28) :=
  decodeN_cut ks 4096 n hg hm hn
theorem RdL.pre {α : Type} {s : Nat} {f : α → List Value} {w : World} {a : Option Addr} {len cap : Nat} {xs : List α} (h : RdL s f w (.slice a len cap) xs) (k : Nat) (hk : k ≤ xs.length) : RdL s f w (.slice a k cap) (xs.take k) := by
  rcases h with ⟨a', c, hv, hc, rfl⟩ | ⟨b, off, cap', hv, hne, h1, h2, h3, h4⟩
  · cases hv
    obtain rfl : k = 0 := by simpa using hk
    exact .inl ⟨_, _, rfl, hc, rfl⟩
  · cases hv
    by_cases e : k = 0
    · subst e; exact .inl ⟨_, _, rfl, h2, rfl⟩
    · have hl : (xs.take k).length = k := by rw [List.length_take]; omega
      refine .inr ⟨b, off, cap, by rw [hl], by intro h; rw [h] at hl; simp at hl; omega, by omega, h2, h3, ?_⟩
      intro i x hx j u hu
      rw [List.getElem?_take] at hx
      split at hx
      · exact h4 i x hx j u hu
      · cases hx
end Go.Proofs.YtffnbkmigapmjaaGreatDoor

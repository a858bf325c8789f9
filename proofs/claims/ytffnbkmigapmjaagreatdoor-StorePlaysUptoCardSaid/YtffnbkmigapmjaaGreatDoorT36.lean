/-
  The walk of pillarboxlaw14.one.
  The walk of pillarboxlaw10.answers.
  A file in a block; what the file of law12's answers says.
  The walk of pillarboxlaw14.answers.
  The calls of a script of law14 (Op), as data; the walk of pillarboxlaw14.light.
  Steps one behind the other, whatever they are: what store.steps comes to.
-/
import Derived.Test.YtffnbkmigapmjaaGreatDoorT7
import Derived.Test.YtffnbkmigapmjaaGreatDoorT23
import Derived.Test.YtffnbkmigapmjaaGreatDoorT26
import Derived.Test.YtffnbkmigapmjaaGreatDoorT33
import Derived.Test.YtffnbkmigapmjaaGreatDoorT34
import Derived.Test.YtffnbkmigapmjaaGreatDoorT35
set_option linter.unusedSimpArgs false
set_option linter.unusedVariables false
namespace Go.Proofs.YtffnbkmigapmjaaGreatDoor
open Go.RowKit
def one14 : MailD := ⟨0, 0, 0, [], [[97, 64, 98]], [120, 10]⟩
theorem one14_good : ({ one14 with id := 999999999 } : MailD).good = true := by kernel_rfl
theorem one14_good1 : ({ one14 with id := 1 } : MailD).good = true := by kernel_rfl
theorem one14_small : one14.small := ⟨by decide, by decide⟩
set_option maxRecDepth 100000 in
set_option maxHeartbeats 4000000 in
theorem one14_calls (w : World) : Calls Tryz.prog 25 #[] w (MailNew w one14) := by
 have hz : ∀ w, (zeroValue 29).run Tryz.prog w = .ok (.agg #[.int .i64 0, .int .i64 0, .int .i64 0, .string ⟨#[]⟩, .slice none 0 0, .slice none 0 0]) w := fun _ => by kernel_rfl
 have kc := fun (w : World) (C : Array Value) (n c : Nat) => Lib.run_convert_bytes_const (P := Tryz.prog) w 22 5 C n c Tryz.underlying22 Tryz.underlying5
 have hkc : (convert 22 22 (.slice (some ⟨w.heap.size + 1 + 1, 0, none⟩) 2 2)).run Tryz.prog (((w.alloc (.cells #[.int .i64 0, .int .i64 0, .int .i64 0, .string ⟨#[]⟩, .slice none 0 0, .slice none 0 0] 29)).alloc (.cells #[.string ⟨#[97, 64, 98]⟩] 9)).alloc (.cells #[.int .u8 120, .int .u8 10] 5)) = .ok (.slice (some ⟨w.heap.size + 1 + 1, 0, none⟩) 2 2) (((w.alloc (.cells #[.int .i64 0, .int .i64 0, .int .i64 0, .string ⟨#[]⟩, .slice none 0 0, .slice none 0 0] 29)).alloc (.cells #[.string ⟨#[97, 64, 98]⟩] 9)).alloc (.cells #[.int .u8 120, .int .u8 10] 5 (2, 3))) := by
  have h : (convert 22 22 _).run Tryz.prog _ = Result.ok _ (World.alloc _ (.cells #[.int .u8 120, .int .u8 10] 5 (2, 3))) := kc ((w.alloc (.cells #[.int .i64 0, .int .i64 0, .int .i64 0, .string ⟨#[]⟩, .slice none 0 0, .slice none 0 0] 29)).alloc (.cells #[.string ⟨#[97, 64, 98]⟩] 9)) #[.int .u8 120, .int .u8 10] 2 2
  simp only [World.size_alloc] at h
  exact h
 clear kc
 go_enter Tryz.func25, Tryz.ntmps25
 go_wp2
 obtain ⟨cs, hcs⟩ : ∃ cs, #[Value.int .i64 0, .int .i64 0, .int .i64 0, .string ⟨#[]⟩, .slice (some ⟨w.heap.size + 1, 0, none⟩) 1 1, .slice (some ⟨w.heap.size + 1 + 1, 0, none⟩) 2 2] = cs := ⟨_, rfl⟩
 obtain ⟨W1, hW1⟩ : ∃ W1, w.alloc (.cells cs 29) = W1 := ⟨_, rfl⟩
 obtain ⟨W2, hW2⟩ : ∃ W2, W1.alloc (.cells #[.string ⟨#[97, 64, 98]⟩] 9) = W2 := ⟨_, rfl⟩
 obtain ⟨W3, hW3⟩ : ∃ W3, W2.alloc (.cells #[.int .u8 120, .int .u8 10] 5 (2, 3)) = W3 := ⟨_, rfl⟩
 have hb1 : Below w.heap.size w W1 := by rw [← hW1]; exact (Below.refl _ _).alloc (Nat.le_refl _) _
 have hb2 : Below W1.heap.size W1 W2 := by rw [← hW2]; exact (Below.refl _ _).alloc (Nat.le_refl _) _
 have hb3 : Below W2.heap.size W2 W3 := by rw [← hW3]; exact (Below.refl _ _).alloc (Nat.le_refl _) _
 have h1 : W1.heap.size = w.heap.size + 1 := by rw [← hW1]; simp
 have h2 : W2.heap.size = w.heap.size + 1 + 1 := by rw [← hW2]; simp [h1]
 have h3 : W3.heap.size = w.heap.size + 1 + 1 + 1 := by rw [← hW3]; simp [h2]
 have hM : W3.heap[w.heap.size]? = some (.cells cs 29 (0, 0)) :=
  (hb3.block _ (by omega)).trans ((hb2.block _ (by omega)).trans (by rw [← hW1]; exact heap_alloc_new w _))
 have ho1 : W2.ownsRow W1.heap.size 9 1 (.slice (some ⟨W1.heap.size, 0, none⟩) 1 1) 1 [.string ⟨#[97, 64, 98]⟩] := by rw [← hW2]; exact World.ownsRow_lit W1 #[.string ⟨#[97, 64, 98]⟩] 1 (Nat.le_refl _) (by decide) rfl
 have ho2 : RdB W3 (.slice (some ⟨W2.heap.size, 0, none⟩) 2 2) [120, 10] := by
  have hh : W3.heap[W2.heap.size]? = some (.cells ([120, 10].map u8v).toArray 5 (2, 3)) := by rw [← hW3]; exact heap_alloc_new W2 _
  exact rdB_row hh (by decide) (by decide)
 have ho1' := own_below ho1 hb3 (Nat.le_refl _)
 have hbw : Below w.heap.size w W3 := (hb1.trans (hb2.mono (by omega))).trans (hb3.mono (by omega))
 rw [h1] at ho1'
 rw [h2] at ho2
 rw [hcs, hW1, hW2, hW3]
 have hcz : cs.size = 6 := by rw [← hcs]; rfl
 refine bodyPost_ret (results_row1 rfl _ _ w.heap.size 29 cs (0, 0) _ rfl hM Tryz.underlying29 rfl (by rw [hcz]; kernel_rfl)) rfl ?_
 refine ⟨.slice (some ⟨w.heap.size + 1, 0, none⟩) 1 1, .slice (some ⟨w.heap.size + 1 + 1, 0, none⟩) 2 2, by rw [← hcs]; rfl, rdL_ofOwn (xs := [[97, 64, 98]]) s1_len (by decide) ho1', ho2, (fun l c e => by cases e), (fun l c e => by cases e), fun k hk => ?_, fun k hk => ?_, hbw⟩
 ·cases hk; show w.heap.size ≤ w.heap.size + 1 ∧ w.heap.size + 1 < _; omega
 ·cases hk; show w.heap.size ≤ w.heap.size + 1 + 1 ∧ w.heap.size + 1 + 1 < _; omega
end Go.Proofs.YtffnbkmigapmjaaGreatDoor
namespace Go.Proofs.YtffnbkmigapmjaaGreatDoor
open Go.RowKit
structure MailAt (w : World) (M : Nat) (m : MailD) (vr vb : Value) : Prop where
 blk : w.heap[M]? = some (.cells #[.int .i64 m.id, .int .i64 m.parent, .int .i64 m.born, .string (strL m.frm), vr, vb] 29 (0, 0))
 rs : RdS w vr m.rcpts
 rb : RdB w vb m.body
theorem MailAt.below {w w' : World} {M : Nat} {m : MailD} {vr vb : Value} (h : MailAt w M m vr vb) (hb : Below w.heap.size w w') : MailAt w' M m vr vb :=
 ⟨(hb.block _ (Array.getElem?_eq_some_iff.1 h.blk).1).trans h.blk, h.rs.below (Nat.le_refl _) hb, h.rb.below (Nat.le_refl _) hb⟩
theorem MailAt.cells {w : World} {M : Nat} {m : MailD} {vr vb : Value} (h : MailAt w M m vr vb) : w.cell? ⟨M, 0, none⟩ = some (.int .i64 m.id) ∧ w.cell? ⟨M, 1, none⟩ = some (.int .i64 m.parent) ∧ w.cell? ⟨M, 2, none⟩ = some (.int .i64 m.born) ∧ w.cell? ⟨M, 3, none⟩ = some (.string (strL m.frm)) ∧ w.cell? ⟨M, 4, none⟩ = some vr ∧ w.cell? ⟨M, 5, none⟩ = some vb := (cells6 h.blk).1
theorem MailAt.new {w : World} {m : MailD} {vr vb : Value} (hr : RdS w vr m.rcpts) (hb : RdB w vb m.body) :
 MailAt (w.alloc (.cells #[.int .i64 m.id, .int .i64 m.parent, .int .i64 m.born, .string (strL m.frm), vr, vb] 29)) w.heap.size m vr vb :=
 ⟨heap_alloc_new w _, hr.below (Nat.le_refl _) ((Below.refl _ _).alloc (Nat.le_refl _) _), hb.below (Nat.le_refl _) ((Below.refl _ _).alloc (Nat.le_refl _) _)⟩
def MailRest (w0 : World) (X : Nat) (m : MailD) (vr vb : Value) (w : World) : Prop := Below w0.heap.size w0 w ∧ MailAt w X m vr vb
abbrev MailS (w0 : World) (X : Nat) (m : MailD) (vr vb : Value) (w' : World) : Prop :=
 w'.cell? ⟨X, 0, none⟩ = some (.int .i64 m.id) ∧ w'.cell? ⟨X, 1, none⟩ = some (.int .i64 m.parent) ∧ w'.cell? ⟨X, 2, none⟩ = some (.int .i64 m.born) ∧ w'.cell? ⟨X, 3, none⟩ = some (.string (strL m.frm)) ∧ w'.cell? ⟨X, 4, none⟩ = some vr ∧ w'.cell? ⟨X, 5, none⟩ = some vb ∧ MailRest w0 X m vr vb w'
theorem MailS.go {w0 w w' : World} {X : Nat} {m : MailD} {vr vb : Value} (hb : Below w.heap.size w w') (h : MailS w0 X m vr vb w) : MailS w0 X m vr vb w' := by
 obtain ⟨_, _, _, _, _, _, h1, h2⟩ := h
 have h2' := h2.below hb
 exact ⟨h2'.cells.1, h2'.cells.2.1, h2'.cells.2.2.1, h2'.cells.2.2.2.1, h2'.cells.2.2.2.2.1, h2'.cells.2.2.2.2.2, h1.trans (hb.mono h1.size), h2'⟩
end Go.Proofs.YtffnbkmigapmjaaGreatDoor
set_option maxRecDepth 100000
namespace Go.Proofs.YtffnbkmigapmjaaGreatDoor
open Go.RowKit
structure FileAt (w : World) (X : Nat) (f : FileD) (vr vb vm : Value) : Prop where
 blk : w.heap[X]? = some (.cells #[.int .i64 f.mail.id, .int .i64 f.mail.parent, .int .i64 f.mail.born, .string (strL f.mail.frm), vr, vb, vm, .int .i64 (f.good : Int)] 43 (0, 0))
 rs : RdS w vr f.mail.rcpts
 rb : RdB w vb f.mail.body
 rm : RdM w vm f.marks
theorem FileAt.below {w w' : World} {X : Nat} {f : FileD} {vr vb vm : Value} (h : FileAt w X f vr vb vm) (hb : Below w.heap.size w w') : FileAt w' X f vr vb vm :=
 ⟨(hb.block _ (Array.getElem?_eq_some_iff.1 h.blk).1).trans h.blk, h.rs.below (Nat.le_refl _) hb, h.rb.below (Nat.le_refl _) hb, h.rm.below (Nat.le_refl _) hb⟩
theorem FileAt.new {w : World} {f : FileD} {vr vb vm : Value} (hr : RdS w vr f.mail.rcpts) (hb : RdB w vb f.mail.body) (hm : RdM w vm f.marks) :
 FileAt (w.alloc (.cells #[.int .i64 f.mail.id, .int .i64 f.mail.parent, .int .i64 f.mail.born, .string (strL f.mail.frm), vr, vb, vm, .int .i64 (f.good : Int)] 43)) w.heap.size f vr vb vm :=
 ⟨heap_alloc_new w _, hr.below (Nat.le_refl _) ((Below.refl _ _).alloc (Nat.le_refl _) _), hb.below (Nat.le_refl _) ((Below.refl _ _).alloc (Nat.le_refl _) _), hm.below (Nat.le_refl _) ((Below.refl _ _).alloc (Nat.le_refl _) _)⟩
def FileRest (w0 : World) (X : Nat) (f : FileD) (vr vb vm : Value) (w : World) : Prop := Below w0.heap.size w0 w ∧ FileAt w X f vr vb vm
abbrev FileS (w0 : World) (X : Nat) (f : FileD) (vr vb vm : Value) (w' : World) : Prop :=
 w'.cell? ⟨X, 0, none⟩ = some (.int .i64 f.mail.id) ∧ w'.cell? ⟨X, 1, none⟩ = some (.int .i64 f.mail.parent) ∧ w'.cell? ⟨X, 2, none⟩ = some (.int .i64 f.mail.born) ∧ w'.cell? ⟨X, 3, none⟩ = some (.string (strL f.mail.frm)) ∧ w'.cell? ⟨X, 4, none⟩ = some vr ∧ w'.cell? ⟨X, 5, none⟩ = some vb ∧ w'.cell? ⟨X, 6, none⟩ = some vm ∧ w'.cell? ⟨X, 7, none⟩ = some (.int .i64 (f.good : Int)) ∧ FileRest w0 X f vr vb vm w'
theorem FileS.of {w0 w : World} {X : Nat} {f : FileD} {vr vb vm : Value} (h : FileRest w0 X f vr vb vm w) : FileS w0 X f vr vb vm w := by
 obtain ⟨c0, c1, c2, c3, c4, c5, c6, c7⟩ := (cells8 h.2.blk).1
 exact ⟨c0, c1, c2, c3, c4, c5, c6, c7, h⟩
theorem FileS.rest {w0 w : World} {X : Nat} {f : FileD} {vr vb vm : Value} (h : FileS w0 X f vr vb vm w) : FileRest w0 X f vr vb vm w := h.2.2.2.2.2.2.2.2
theorem FileS.go {w0 w w' : World} {X : Nat} {f : FileD} {vr vb vm : Value} (hb : Below w.heap.size w w') (h : FileS w0 X f vr vb vm w) : FileS w0 X f vr vb vm w' :=
 FileS.of ⟨h.rest.1.trans (hb.mono h.rest.1.size), h.rest.2.below hb⟩
theorem fileD_cut (m : MailD) (hs : m.small) (hg : m.good = true) (ks : List MarkD) (hk : ∀ k ∈ ks, k.good = true) (hl : ks.length ≤ 4096) (n : Nat) (hn : n ≤ (bytesM ks).length) :
 fileD (m.record ++ (bytesM ks).take n) = some ⟨m, ks.take (n / 28), m.record.length + 28 * (ks.take (n / 28)).length⟩ := by
 rw [fileD, decode_record m hs hg]
 simp only [Option.map_some]
 rw [List.drop_left, decodeM_cut ks n hk hl hn]
theorem fileD_full (m : MailD) (hs : m.small) (hg : m.good = true) (ks : List MarkD) (hk : ∀ k ∈ ks, k.good = true) (hl : ks.length ≤ 4096) :
 fileD (m.record ++ bytesM ks) = some ⟨m, ks, m.record.length + 28 * ks.length⟩ := by
 have h := fileD_cut m hs hg ks hk hl (bytesM ks).length (Nat.le_refl _)
 rw [List.take_of_length_le (Nat.le_refl _), bytesM_length, Nat.mul_div_cancel_left _ (by decide), List.take_of_length_le (Nat.le_refl _)] at h
 exact h
end Go.Proofs.YtffnbkmigapmjaaGreatDoor
set_option maxRecDepth 100000
namespace Go.Proofs.YtffnbkmigapmjaaGreatDoor
open Go.RowKit Go.Maps
theorem idsNameD_len14 {n : Int} (h : 0 ≤ n ∧ n ≤ 999999999) : (idsNameD n).length = 14 := by
 rw [idsNameD_of h, List.length_append, numD_length (by omega)]; rfl
theorem ids_ne_name {n : Int} (h : 0 ≤ n ∧ n ≤ 999999999) (q : UInt8) (k : Int) : idsNameD n ≠ nameD q k := fun e => by
 have h1 := idsNameD_len14 h
 have h2 := nameD_len q k
 rw [e] at h1; omega
theorem vw_new (B : Nat) (r : Int) (hr : 0 ≤ r ∧ r ≤ 16777216) : Vw (newD B r) (fun _ => none) 0 0 r :=
 ⟨⟨⟨by show (-1 : Int) ≤ -1; omega, by show (-1 : Int) ≤ _; omega, by show 0 ≤ 256; omega, hr.1, hr.2⟩, List.Pairwise.nil, List.Pairwise.nil, fun p hp => (by cases hp), rfl, rfl⟩, fun _ => rfl, rfl, rfl, rfl⟩
def one1 : MailD := { one14 with id := 1 }
theorem one1_len : one1.record.length = 73 := by decide +kernel
theorem name_i1 : nameD 105 1 = [105, 45, 48, 48, 48, 48, 48, 48, 48, 48, 49] := by
 rw [nameD_of (by decide) (by decide) (by decide), numD_digs (by decide)]; rfl
theorem ans_commit {B fb ib mb : Nat} {er id : Int} {d' : StoD} (h : CommitR ⟨newD B 100000, fb, ib, mb, 0, 0, [], [], false⟩ one14 er id d') :
 er = 0 ∧ id = 1 ∧ d'.whr = [(1, 105)] ∧ (fsReadD d'.fs (nameD 105 1)) = (0, one1.record) := by
 rcases h with ⟨h, _⟩ | ⟨_, _, h, _⟩ | ⟨_, _, _, e1, id1, d1, hn, ha⟩
 ·rcases h with h | h
  ·have : goodNew one14 = true := one14_good
   rw [this] at h; cases h
  ·exact absurd rfl h
 ·cases h
 ·have hv0 : Vw (newD B 100000) (fun _ => none) 0 0 100000 := vw_new B _ (by decide)
  have hmo : moreB ⟨newD B 100000, fb, ib, mb, 0, 0, [], [], false⟩ = 16 := by show min ((0 : Int) + 16) 999999999 = 16; decide
  rcases hn with ⟨h, _⟩ | ⟨_, h, _⟩ | ⟨_, _, _, e2, d2, hm, h2⟩ | ⟨_, _, h, _⟩
  ·cases h
  ·exact absurd h (by show ¬ (0 : Int) = 999999999; decide)
  ·obtain ⟨q1, q2, q3, q4⟩ := hm.vw0 hv0 (by decide) (by rw [hmo]; decide) rfl rfl
   rw [hmo] at q2
   have hw := hm.same.2.2.2.2.1
   rcases h2 with ⟨h3, _⟩ | ⟨_, h3, h4, h5⟩
   ·exact absurd q1 h3
   ·have h4 : id1 = 1 := h4
    subst h4
    subst h3
    rcases ha with ⟨h6, _⟩ | ⟨_, e3, fs3, ho, h6⟩
    ·exact absurd rfl h6
    ·have hfs : d1.fs = d2.fs := by rw [h5]
     have hen : encD ({ one14 with id := 1 } : MailD) = one1.record := by
      unfold encD; rw [if_pos one14_good1]; rfl
     rw [hfs, hen] at ho
     have hne : nameD 116 1 ≠ nameD 105 1 := fun e => by
      rw [nameD_of (by decide) (by decide) (by decide), nameD_of (by decide) (by decide) (by decide)] at e
      injection e with e _; cases e
     obtain ⟨r1, r2⟩ := q2.lay (rightD_nameD (by decide) (by decide) (by decide)) (rightD_nameD (by decide) (by decide) (by decide)) hne (by rw [updC_other _ _ (ids_ne_name (by decide) _ _)]) (by decide) (by rw [one1_len]; decide) ho
     subst r1
     rcases h6 with ⟨_, h7, h8, h9⟩ | ⟨h7, _⟩ | ⟨h7, _⟩
     ·refine ⟨h7, h8, ?_, ?_⟩
      ·rw [h9]
       show d1.whr.put 1 105 = _
       rw [h5]
       show d2.whr.put 1 105 = _
       rw [hw]; rfl
      ·rw [h9]
       exact r2.read (rightD_nameD (by decide) (by decide) (by decide)) (updC_same _ _ _)
     ·exact absurd rfl h7
     ·cases h7
  ·exact absurd h (by show ¬ (0 : Int) < 0; decide)
theorem ans_file {d : StoD} (hw : d.whr = [(1, 105)]) (hr : fsReadD d.fs (nameD 105 1) = (0, one1.record)) : d.whr.at 1 = 105 ∧ sfileD d 1 = some ⟨one1, [], one1.record.length⟩ := by
 have h1 : d.whr.at 1 = 105 := by rw [hw]; rfl
 refine ⟨h1, ?_⟩
 have h2 := fileD_full one1 one14_small one14_good1 [] (fun k hk => by cases hk) (by decide)
 have h3 : one1.record ++ bytesM [] = one1.record := List.append_nil _
 rw [h3] at h2
 unfold sfileD
 rw [h1, hr, if_pos (by decide), if_pos rfl]
 exact h2
theorem own_slice {w : World} {base : Nat} {e : TypeId} {sz : Nat} {v : Value} {n : Nat} {xs : List Value} (h : w.ownsRow base e sz v n xs) : ∃ a c, v = .slice a n c := own_form0 h
set_option maxHeartbeats 16000000 in
theorem answers14_calls (w : World) (hg : GOk w) (hmax : MaxOk w) :
 Calls Tryz.prog 11 #[] w fun e w' => e = .returned (.bool true) ∧ Below w.heap.size w w' := by
 have hnew := new_calls 100000 w
 have hroom : roomD 100000 = 100000 := by decide
 rw [hroom] at hnew
 have Hnew := Lib.hid hnew
 have Hg := Lib.hid (And.intro hg hmax)
 clear hnew hroom hg hmax
 go_enter Tryz.func11, Tryz.ntmps11
 go_wp2_with fail
 refine (Hnew.out).mono ?_; rintro e w1 ⟨rfl, hF1, hb1⟩
 have hop := open0_calls (w.heap.size + 2) _ _ w1 hF1 rfl rfl (Hg.out.1.below hb1)
 obtain ⟨f, hf⟩ : ∃ f, w.heap.size + 2 = f := ⟨_, rfl⟩
 rw [hf] at hop hF1
 rw [hf]
 have Hop := Lib.hid hop
 have H1 := Lib.hid (And.intro hF1 (And.intro hb1 hf))
 clear hop hF1 hb1 hf
 go_wp2_with fail
 refine (Hop.out).mono ?_; rintro e w2 ⟨s, d, rfl, hA2, ⟨ib, mb, rfl, hib, hmb⟩, hns, hb2⟩
 have hb2' := H1.out.2.1.trans (hb2.mono H1.out.2.1.size)
 have hO2 : StoOk w2 s ⟨newD w.heap.size 100000, f, ib, mb, 0, 0, [], [], false⟩ (newRho w.heap.size) := by
  refine ⟨hA2, ⟨by show (-1 : Int) ≤ -1; omega, by show (-1 : Int) ≤ _; omega, by show 0 ≤ 256; omega, by show (0 : Int) ≤ 100000; omega, by show (100000 : Int) ≤ _; omega⟩, Hg.out.1.below hb2', Hg.out.2.below hb2', fun k hk => ?_, by show (0 : Int) ≤ 0 ∧ (0 : Int) ≤ 999999999; omega, by show 0 ≤ 1000; omega⟩
  have h0 := Hg.out.1.size
  have h1 := H1.out.2.1.size
  rcases hk with e | e | e | e
  ·have := newRho_has e; omega
  ·omega
  ·have : k = ib := e; omega
  ·have : k = mb := e; omega
 have hown : ∀ k, stoOwn s ⟨newD w.heap.size 100000, f, ib, mb, 0, 0, [], [], false⟩ (newRho w.heap.size) k → w.heap.size ≤ k := fun k hk => by
  have h1 := H1.out.2.1.size
  rcases hk with e | e | e | e
  ·exact (newRho_has e).1
  ·omega
  ·have : k = ib := e; omega
  ·have : k = mb := e; omega
 have Hown := Lib.hid hown
 clear hown
 have hone := one14_calls w2
 have Hone := Lib.hid hone
 have H2 := Lib.hid (And.intro hO2 hb2')
 clear hone hO2 hb2' hA2 hib hmb hns hb2
 go_wp2_with fail
 refine (Hone.out).mono ?_; rintro e w3 ⟨vr, vb, rfl, hr3, hb3, hnr, hnb, hor, hob, hbl3⟩
 have hO3 := H2.out.1.below hbl3
 have hMA : MailArg w3 s ⟨newD w.heap.size 100000, f, ib, mb, 0, 0, [], [], false⟩ (newRho w.heap.size) one14 vr vb :=
  ⟨hr3, hb3, hnb, fun k e => ⟨(hor k e).2, fun g => by have := stoOwn_lt H2.out.1.at_ g; have := (hor k e).1; omega⟩, fun k e => ⟨(hob k e).2, fun g => by have := stoOwn_lt H2.out.1.at_ g; have := (hob k e).1; omega⟩, one14_small.lens⟩
 have hcm := commit_calls s _ _ one14 vr vb w3 hO3 (by show 0 ≤ 800000; omega) (by show 0 ≤ 1000000; omega) hMA
 have Hcm := Lib.hid hcm
 have H3 := Lib.hid (And.intro hO3 (H2.out.2.trans (hbl3.mono H2.out.2.size)))
 clear hcm hMA hO3 hr3 hb3 hnr hnb hor hob hbl3
 generalize hmv : mailVal one14 vr vb = mv at Hcm ⊢
 clear hmv
 go_wp2_with fail
 refine (Hcm.out).mono ?_; rintro e w4 ⟨er, id, d, ρ, rfl, hout, hO4, hT4, hg4⟩
 obtain ⟨rfl, rfl, hwh, hrd⟩ := ans_commit hout
 obtain ⟨hat, hfl⟩ := ans_file hwh hrd
 have hb4 : Below w.heap.size w w4 := by
  have hk := hT4.keeps.below (B := w.heap.size) (fun i e => Hown.out i e) H3.out.2.size
  exact H3.out.2.trans hk
 have hfc := sfile_calls s d ρ w4 hO4.at_ 1 (by decide) hO4.g hO4.mx
 rw [hfl] at hfc
 have Hfc := Lib.hid hfc
 have H4 := Lib.hid (And.intro hO4 (And.intro hb4 hat))
 clear hfc hO4 hT4 hg4 hout hwh hrd hat hfl hb4
 go_wp2_with fail
 refine (Hfc.out).mono ?_; rintro e w5 ⟨ur, ub, um, rfl, o1, o2, o3, hb5⟩
 obtain ⟨u1, k1, rfl⟩ := own_slice o1
 obtain ⟨u2, k2, rfl⟩ := own_slice o2
 obtain ⟨u3, k3, rfl⟩ := own_slice o3
 have hO5 := H4.out.1.below hb5
 have hb5' := H4.out.2.1.trans (hb5.mono H4.out.2.1.size)
 obtain ⟨n1, hn1⟩ : ∃ n1, ((some (⟨one1, [], one1.record.length⟩ : FileD)).getD FileD.zero).mail.rcpts.length = n1 := ⟨_, rfl⟩
 obtain ⟨n2, hn2⟩ : ∃ n2, ((some (⟨one1, [], one1.record.length⟩ : FileD)).getD FileD.zero).mail.body.length = n2 := ⟨_, rfl⟩
 obtain ⟨n3, hn3⟩ : ∃ n3, ((some (⟨one1, [], one1.record.length⟩ : FileD)).getD FileD.zero).marks.length = n3 := ⟨_, rfl⟩
 have he : ∀ a b c, fileVal ((some (⟨one1, [], one1.record.length⟩ : FileD)).getD FileD.zero) a b c = .agg #[.int .i64 1, .int .i64 0, .int .i64 0, .string (strL []), a, b, c, .int .i64 (one1.record.length : Int)] := fun _ _ _ => rfl
 have hs : (some (⟨one1, [], one1.record.length⟩ : FileD)).isSome = true := rfl
 rw [he, hs, hn1, hn2, hn3]
 obtain ⟨gd, hgd⟩ : ∃ gd : Int, (one1.record.length : Int) = gd := ⟨_, rfl⟩
 obtain ⟨se, hse⟩ : ∃ se, strL [] = se := ⟨_, rfl⟩
 rw [hgd, hse]
 obtain ⟨W, hW⟩ : ∃ W, w5.alloc (.cells #[.int .i64 1, .int .i64 0, .int .i64 0, .string se, .slice u1 n1 k1, .slice u2 n2 k2, .slice u3 n3 k3, .int .i64 gd] 43) = W := ⟨_, rfl⟩
 have hbW : Below w5.heap.size w5 W := by rw [← hW]; exact (Below.refl _ _).alloc (Nat.le_refl _) _
 have hX : W.heap[w5.heap.size]? = some (.cells #[.int .i64 1, .int .i64 0, .int .i64 0, .string se, .slice u1 n1 k1, .slice u2 n2 k2, .slice u3 n3 k3, .int .i64 gd] 43 (0, 0)) := by rw [← hW]; exact heap_alloc_new w5 _
 have hOW := hO5.below hbW
 have hwh := where_calls s d ρ W hOW.at_ 1 (by decide)
 rw [H4.out.2.2] at hwh
 have hnm := fun w1 (hg1 : GOk w1) => name_calls 105 1 w1 (hg1.int _)
 have hst : strL (nameD 105 1) = ⟨#[105, 45, 48, 48, 48, 48, 48, 48, 48, 48, 49]⟩ := by rw [name_i1]; rfl
 rw [hst] at hnm
 have x0 := (cells8 hX).1.1
 have Hwh := Lib.hid hwh
 have Hnm := Lib.hid hnm
 have H5 := Lib.hid (And.intro hOW (hb5'.trans (hbW.mono hb5'.size)))
 clear hwh hnm hst hOW hX hbW hb5' hO5 hb5 o1 o2 o3 hn1 hn2 hn3 he hs hgd hse
 subst hW
 go_wp2_with fail
 refine (Hwh.out).mono ?_; rintro e w6 ⟨rfl, hb6⟩
 have hO6 := H5.out.1.below hb6
 have hb6' := H5.out.2.trans (hb6.mono H5.out.2.size)
 have Hnm6 := Lib.hid (Hnm.out w6 hO6.g)
 clear hO6 hb6 x0
 go_wp2_with fail
 refine (Hnm6.out).mono ?_; rintro e w7 ⟨rfl, hb7⟩
 have hb7' := hb6'.trans (hb7.mono hb6'.size)
 clear hb7 hb6'
 go_wp2
 go_ret
 exact ⟨rfl, hb7'⟩
end Go.Proofs.YtffnbkmigapmjaaGreatDoor
set_option maxRecDepth 100000
namespace Go.Proofs.YtffnbkmigapmjaaGreatDoor
open Go.RowKit Go.Maps
structure OpV where
 kind : Int
 id : Int
 m : MailD
 k : MarkD
 dest : UInt8
 ar : Option Addr
 cr : Nat
 ab : Option Addr
 cb : Nat
def opCells (o : OpV) : List Value := [.int .i64 o.kind, .int .i64 o.id, .int .i64 o.m.id, .int .i64 o.m.parent, .int .i64 o.m.born, .string (strL o.m.frm), .slice o.ar o.m.rcpts.length o.cr, .slice o.ab o.m.body.length o.cb, .int .i64 o.k.kind, .int .i64 o.k.rcpt, .int .i64 o.k.n, .int .u8 (o.dest.toNat : Int)]
def OpV.light (o : OpV) : Bool := decide (o.m.rcpts.length ≤ 20) && (decide (o.m.body.length ≤ 500) && decide (o.m.frm.length ≤ 100))
def lightB (l : List OpV) : Bool := decide (l.length ≤ 60) && l.all OpV.light
abbrev RdO := RdL 12 opCells
set_option maxHeartbeats 8000000 in
theorem light14_calls (v : Value) (ops : List OpV) (w : World) (h : RdO w v ops) :
 Calls Tryz.prog 31 #[v] w fun e w' => e = .returned (.bool (lightB ops)) ∧ Below w.heap.size w w' := by
 obtain ⟨a, cap, rfl, hl, hc⟩ := h.form
 have H := Lib.hid h
 clear h
 go_enter Tryz.func31, Tryz.ntmps31
 go_wp2
 go_loopw [3] (fun i wr => ∃ j : Nat, j ≤ ops.length ∧ i = .int .i64 j ∧ Hid ((ops.take j).all OpV.light = true ∧ (0 < j → ops.length ≤ 60)) ∧ Below w.heap.size w wr) (fun i _ => ops.length - (intOf i).toNat)
 case atStart => exact ⟨0, Nat.zero_le _, rfl, Lib.hid ⟨rfl, fun e => by omega⟩, Below.refl _ _⟩
 case round =>
  obtain ⟨j, hj, rfl, hP, hbw⟩ := hrel
  by_cases hlt : j < ops.length
  ·obtain ⟨o, ho⟩ : ∃ o, ops[j]? = some o := ⟨_, List.getElem?_eq_getElem hlt⟩
   obtain ⟨b, off, cap', hsl, hbl, h3⟩ := RdL.at (H.out.below (Nat.le_refl _) hbw) ho
   have c5 := h3 5 _ rfl
   have c6 := h3 6 _ rfl
   have c7 := h3 7 _ rfl
   rw [← Nat.add_assoc] at c5 c6 c7
   cases hsl
   have hj0 : (0 : Int) ≤ (j : Int) := by omega
   have hj1 : (j : Int) < (ops.length : Int) := by omega
   have Ho := Lib.hid ho
   clear ho h3
   by_cases h60 : ops.length ≤ 60
   ·have h60' : ¬ ((60 : Int) < (ops.length : Int)) := by omega
    have hsz := strL_size o.m.frm
    obtain ⟨okind, oid, om, ok, od, oar, ocr, oab, ocb⟩ := o
    obtain ⟨mid, mp, mb, frm, rcpts, body⟩ := om
    dsimp only at c5 c6 c7 hsz
    have hlo : Hid ((OpV.mk okind oid ⟨mid, mp, mb, frm, rcpts, body⟩ ok od oar ocr oab ocb).light = (decide (rcpts.length ≤ 20) && (decide (body.length ≤ 500) && decide (frm.length ≤ 100)))) := Lib.hid rfl
    have hbad : Hid ((OpV.mk okind oid ⟨mid, mp, mb, frm, rcpts, body⟩ ok od oar ocr oab ocb).light = false → lightB ops = false) := Lib.hid (fun e => by
     unfold lightB
     have : ops.all OpV.light = false := by
      cases hx : ops.all OpV.light with
      | false => rfl
      | true => have := List.all_eq_true.1 hx _ (List.mem_of_getElem? Ho.out); rw [e] at this; cases this
     rw [this, Bool.and_false])
    have hok : Hid ((OpV.mk okind oid ⟨mid, mp, mb, frm, rcpts, body⟩ ok od oar ocr oab ocb).light = true → (ops.take (j + 1)).all OpV.light = true) := Lib.hid (fun e => by
     rw [List.take_add_one, Ho.out, List.all_append, hP.out.1]
     show (true && ([(OpV.mk okind oid ⟨mid, mp, mb, frm, rcpts, body⟩ ok od oar ocr oab ocb)].all OpV.light)) = true
     rw [List.all_cons, e]; rfl)
    obtain ⟨tf, htf⟩ : ∃ tf, strL frm = tf := ⟨_, rfl⟩
    rw [htf] at c5 hsz
    clear htf
    by_cases h1 : rcpts.length ≤ 20
    ·by_cases h2 : body.length ≤ 500
     ·by_cases h3 : frm.length ≤ 100
      ·have i1 : ¬ ((20 : Int) < (rcpts.length : Int)) := by omega
       have i2 : ¬ ((500 : Int) < (body.length : Int)) := by omega
       have i3 : ¬ ((100 : Int) < (tf.size : Int)) := by omega
       have Hd := Lib.hid (hok.out (by rw [hlo.out, decide_eq_true h1, decide_eq_true h2, decide_eq_true h3]; rfl))
       have H6 := Lib.hid h60
       clear h1 h2 h3 hlo hbad hok hP
       go_wp2
       go_roundw
       case rel => exact ⟨j + 1, by omega, by simp, Lib.hid ⟨Hd.out, fun _ => H6.out⟩, hbw⟩
       case measure => simp [intOf] <;> omega
      ·have i1 : ¬ ((20 : Int) < (rcpts.length : Int)) := by omega
       have i2 : ¬ ((500 : Int) < (body.length : Int)) := by omega
       have i3 : (100 : Int) < (tf.size : Int) := by omega
       have Hb := Lib.hid (hbad.out (by rw [hlo.out, decide_eq_false h3]; simp))
       clear h1 h2 h3 hlo hbad hok hP
       go_wp2
       go_ret
       rw [Hb.out]
       exact ⟨rfl, hbw⟩
     ·have i1 : ¬ ((20 : Int) < (rcpts.length : Int)) := by omega
      have i2 : (500 : Int) < (body.length : Int) := by omega
      have Hb := Lib.hid (hbad.out (by rw [hlo.out, decide_eq_false h2]; simp))
      clear h1 h2 hlo hbad hok hP
      go_wp2
      go_ret
      rw [Hb.out]
      exact ⟨rfl, hbw⟩
    ·have i1 : (20 : Int) < (rcpts.length : Int) := by omega
     have Hb := Lib.hid (hbad.out (by rw [hlo.out, decide_eq_false h1]; simp))
     clear h1 hlo hbad hok hP
     go_wp2
     go_ret
     rw [Hb.out]
     exact ⟨rfl, hbw⟩
   ·have h60' : (60 : Int) < (ops.length : Int) := by omega
    have Hb : Hid (lightB ops = false) := Lib.hid (by unfold lightB; rw [decide_eq_false h60]; rfl)
    go_wp2
    go_ret
    rw [Hb.out]
    exact ⟨rfl, hbw⟩
  ·have hje : j = ops.length := by omega
   subst hje
   have hjl : ¬ ((ops.length : Int) < (ops.length : Int)) := by omega
   have Hb : Hid (lightB ops = true) := Lib.hid (by
    have h1 := hP.out.1
    rw [List.take_of_length_le (Nat.le_refl _)] at h1
    unfold lightB
    rw [h1, Bool.and_true]
    by_cases h0 : 0 < ops.length
    ·exact decide_eq_true (hP.out.2 h0)
    ·exact decide_eq_true (by omega))
   clear hP
   go_wp2
   go_ret
   rw [Hb.out]
   exact ⟨rfl, hbw⟩
end Go.Proofs.YtffnbkmigapmjaaGreatDoor
set_option maxRecDepth 100000
namespace Go.Proofs.YtffnbkmigapmjaaGreatDoor
open Go.RowKit Go.Maps
structure StpP (S : Nat → FsD → Int → FsD → Prop) (w0 : World) (d : StoD) (ρ0 : Rho) (s : Nat) (bx : List (Nat × Obj)) (i : Nat) (fs : FsD) (ρ : Rho) (w : World) : Prop where
 at_ : StoOk w s { d with fs := fs } ρ
 step : StoStep w0 s d ρ0 w { d with fs := fs } ρ
 run : Run S d.fs i fs
 go : FsGo d.fs fs i
 hbx : ∀ p ∈ bx, w.heap[p.1]? = some p.2
 new : ∀ p ∈ bx, ¬ stoOwn s { d with fs := fs } ρ p.1
structure StepsDone (S : Nat → FsD → Int → FsD → Prop) (n : Nat) (w : World) (s : Nat) (d : StoD) (ρ : Rho) (e : Ending) (w' : World) (er : Int) (fs : FsD) (ρ' : Rho) : Prop where
 ret : e = .returned (.int .i64 er)
 out : Outcome S n d.fs er fs
 at_ : StoOk w' s { d with fs := fs, down := d.down || decide (er = 2) } ρ'
 step : StoStep w s d ρ w' { d with fs := fs, down := d.down || decide (er = 2) } ρ'
 go : FsGo d.fs fs n
def StpX (S : Nat → FsD → Int → FsD → Prop) (n : Nat) (w0 : World) (d : StoD) (ρ0 : Rho) (s : Nat) (er : Int) (w : World) : Prop :=
 ∃ fs ρ, StepsDone S n w0 s d ρ0 (.returned (.int .i64 er)) w er fs ρ
theorem Outcome.mono_n {S : Nat → FsD → Int → FsD → Prop} {n i : Nat} {d a b : FsD} {er : Int} (hi : i < n) (h : Run S d i a) (hs : S i a er b) (he : er ≠ 0) : Outcome S n d er b := .inr ⟨he, i, a, hi, h, hs⟩
theorem stp_after {S : Nat → FsD → Int → FsD → Prop} {n : Nat} {w0 : World} {d : StoD} {ρ0 : Rho} {s : Nat} {bx : List (Nat × Obj)} {i : Nat} {fs fs' : FsD} {ρ ρ' : Rho} {w w' : World} {er : Int} (hi : i < n)
 (h : StpP S w0 d ρ0 s bx i fs ρ w) (hF : FsAt w' d.fb fs' ρ') (hst : FsStep w ρ w' ρ') (hS : S i fs er fs') (hgo : FsGo fs fs' 1) :
 w'.cell? ⟨s, 3, none⟩ = some (.bool d.down) ∧ w'.frozen? ⟨s, 3, none⟩ = false ∧
 (er = 0 → ∃ fs2 ρ2, StpP S w0 d ρ0 s bx (i + 1) fs2 ρ2 (w'.setCell ⟨s, 3, none⟩ (.bool d.down))) ∧ (er ≠ 0 → StpX S n w0 d ρ0 s er (w'.setCell ⟨s, 3, none⟩ (.bool (d.down || decide (er = 2))))) := by
 obtain ⟨h1, h2⟩ := h.at_.at_.fsStep (d := { d with fs := fs }) hF hst
 have hO1 := h.at_.step h1 h2 hgo.1 h.at_.last h.at_.nf
 have hc := cells4 h1.hd
 refine ⟨hc.1.2.2.2, hc.2 3, fun e0 => ?_, fun e0 => ?_⟩
 ·subst e0
  obtain ⟨h3, h4⟩ := h1.setDown d.down
  have h24 := h2.trans h4
  refine ⟨fs', ρ', hO1.step h3 h4 hO1.ok hO1.last hO1.nf, (h.step.trans h2).trans h4, .step h.run hS, h.go.trans hgo, fun p hp => h24.keeps.heap (h.hbx p hp) (h.new p hp), fun p hp g => ?_⟩
  have hl := (Array.getElem?_eq_some_iff.1 (h.hbx p hp)).1
  rcases h24.grow p.1 g with e | e
  ·exact h.new p hp e
  ·omega
 ·obtain ⟨h3, h4⟩ := h1.setDown (d.down || decide (er = 2))
  exact ⟨fs', ρ', rfl, Outcome.mono_n hi h.run hS e0, hO1.step h3 h4 hO1.ok hO1.last hO1.nf, (h.step.trans h2).trans h4, ((h.go.trans hgo).mono (by omega))⟩
theorem steps_gen {S : Nat → FsD → Int → FsD → Prop} {n : Nat} {w0 W : World} {d : StoD} {ρ0 : Rho} {s : Nat} {bx : List (Nat × Obj)} {cb : Nat} {cl : List Value} (hn : cl.length = n) (hn1 : n ≤ 100) (hrow : (cb, Obj.cells cl.toArray 171 (0, 0)) ∈ bx)
 (h0 : StpP S w0 d ρ0 s bx 0 d.fs ρ0 W)
 (hst : ∀ i f, cl[i]? = some f → ∃ g fst caps, f = .func (.func g) fst caps ∧ Enters Tryz.prog g ∧ ∀ fs ρ w, StpP S w0 d ρ0 s bx i fs ρ w → Calls Tryz.prog g (fst ++ caps) w fun e w' => ∃ er fs' ρ', e = .returned (.int .i64 er) ∧ FsAt w' d.fb fs' ρ' ∧ FsStep w ρ w' ρ' ∧ S i fs er fs' ∧ FsGo fs fs' 1) :
 Calls Tryz.prog 67 #[.pointer (some ⟨s, 0, none⟩), .slice (some ⟨cb, 0, none⟩) n n] W fun e w' => ∃ er fs ρ', StepsDone S n w0 s d ρ0 e w' er fs ρ' := by
 have hrd : ∀ i w, (∃ fs ρ, StpP S w0 d ρ0 s bx i fs ρ w) → RdL 1 v1 w (.slice (some ⟨cb, 0, none⟩) n n) cl := fun i w ⟨fs, ρ, h⟩ => by
  have hb := h.hbx _ hrow
  by_cases hne : cl = []
  ·subst hne; subst hn; exact .inl ⟨_, _, rfl, by decide, rfl⟩
  ·refine .inr ⟨cb, 0, n, by rw [hn], hne, by omega, by omega, (Array.getElem?_eq_some_iff.1 hb).1, ?_⟩
   intro i x hx j u hu
   match j, hu with
   | 0, hu =>
    cases hu
    rw [Nat.zero_add, Nat.mul_one, Nat.add_zero, cell_of_row _ _ _ _ _ _ hb, List.getElem?_toArray]
    exact hx
   | j + 1, hu => cases hu
 have := steps_calls s (.slice (some ⟨cb, 0, none⟩) n n) cl W (fun i w => ∃ fs ρ, StpP S w0 d ρ0 s bx i fs ρ w) (StpX S n w0 d ρ0 s) hrd (fun i f hf => by
  obtain ⟨g, fst, caps, rfl, hent, hc⟩ := hst i f hf
  have hi : i < n := by rw [← hn]; exact (List.getElem?_eq_some_iff.1 hf).1
  refine ⟨g, fst, caps, rfl, hent, ?_⟩
  rintro w ⟨fs, ρ, hP⟩
  refine (hc fs ρ w hP).mono ?_
  rintro e w' ⟨er, fs', ρ', he, hF, hst, hS, hgo⟩
  obtain ⟨c1, c2, c3, c4⟩ := stp_after hi hP hF hst hS hgo
  exact ⟨er, _, he, c1, c2, c3, c4⟩) (by omega) ⟨d.fs, ρ0, h0⟩
 refine this.mono ?_
 rintro e w' (⟨rfl, fs, ρ, hP⟩ | ⟨er, hne, rfl, fs, ρ, hX⟩)
 ·have hd : ({ d with fs := fs, down := d.down || decide ((0 : Int) = 2) } : StoD) = { d with fs := fs } := by cases h : d.down <;> simp [h]
  rw [hn] at hP
  exact ⟨0, fs, ρ, rfl, .inl ⟨rfl, hP.run⟩, by rw [hd]; exact hP.at_, by rw [hd]; exact hP.step, hP.go⟩
 ·exact ⟨er, fs, ρ, hX⟩
end Go.Proofs.YtffnbkmigapmjaaGreatDoor

/-
  strings.IndexRune and ContainsRune at a code point beyond ASCII in the two texts that addr asks: it is not there.
  What a mailbox is, as plain data: cutting and splitting at one byte, labels, local parts, mailboxes; Lib's words at one byte.
  The walks of addr: plain, only, ends, label, local, Domain, Split, Parse.
  The walks of addr: ends, label, local.
  The walks of addr: local, Domain.
  The walks of addr: Split, Parse.
  The walks of addr.Parse and env.box.
  What the reference computes of marks: their bytes.
  The walks of pillarboxref05: plain, Cut; strings' bytes and parts in the walk.
  The walk of pillarboxref05.Domain.
  The walk of pillarboxref05.Local.
-/
import Derived.Test.YtjddicoigbidlaaGreatDoorQ1
import Derived.Test.YtjddicoigbidlaaGreatDoorShelf
import Derived.Laws.RangeAny
import Derived.Laws.RangeString
import Derived.Deep.QuietTactic
import Derived.BigQuiet
import Derived.Lib.QuoteLoop
import Derived.WalkMore
import Derived.Lib.IndexMore
import Derived.Lib.Split
import Derived.Lib.Case
import Derived.Lib.RuneCountTail
import Derived.Lib.SlicesS
import Derived.Lib.SplitLaws
import Derived.Laws.Concat
import Derived.Deep.RegionHeld3
set_option linter.unusedSimpArgs false
set_option linter.unusedVariables false
namespace Go.Proofs.YtjddicoigbidlaaGreatDoor
open Go.RowKit
theorem encode_high (r : Int) (h : 128 ≤ r) : ∃ (x : UInt8), 128 ≤ x.toNat ∧ ((∃ a, Utf8.encode r = ⟨#[a, x]⟩) ∨ (∃ a b, Utf8.encode r = ⟨#[a, b, x]⟩) ∨ ∃ a b c, Utf8.encode r = ⟨#[a, b, c, x]⟩) := by
  have key : ∀ m : Nat, 128 ≤ (UInt8.ofNat (128 + m % 64)).toNat := by
    intro m
    rw [UInt8.toNat_ofNat', Nat.mod_eq_of_lt (by omega)]; omega
  unfold Utf8.encode
  obtain ⟨c, hc⟩ : ∃ c, (if Utf8.valid r then r.toNat else Utf8.runeError) = c := ⟨_, rfl⟩
  have hcl : 128 ≤ c := by
    rw [← hc]; split
    · omega
    · decide
  refine ⟨UInt8.ofNat (128 + c % 64), key c, ?_⟩
  simp only [hc]
  rw [if_neg (by omega)]
  split
  · exact .inl ⟨_, rfl⟩
  · split
    · exact .inr (.inl ⟨_, _, rfl⟩)
    · exact .inr (.inr ⟨_, _, _, rfl⟩)
theorem run_rune_str (r : Int) (w : World) : (convert 21 9 (.int .i32 r)).run Tryz.prog w = .ok (.string (Utf8.encode r)) w := by
  simp [convert, run_underlying Tryz.underlying21, run_underlying Tryz.underlying9, Conv.intToString, go_sem]
theorem indexByte_high (l : List UInt8) (x : UInt8) (hl : ∀ b ∈ l, b.toNat < 128) (hx : 128 ≤ x.toNat) : Lib.indexByte l x < 0 := by
  have : Lib.indexByte l x = -1 := by
    induction l with
    | nil => rfl
    | cons b l ih =>
      have hb := hl b List.mem_cons_self
      have hne : ¬ (b = x) := fun h => by rw [h] at hb; omega
      have hi := ih (fun c hc => hl c (List.mem_cons_of_mem _ hc))
      simp [Lib.indexByte, hne, hi]
  omega
set_option maxRecDepth 100000 in
set_option maxHeartbeats 4000000 in
theorem indexRune_high (s : ByteArray) (r : Int) (w : World) (hr : 128 ≤ r) (hr2 : r ≤ 2147483647) (hv : Lib.validRune r = true) (hne : r ≠ 65533) (hs : s = ⟨#[45]⟩ ∨ s = ⟨#[46, 95, 43, 45]⟩) :
    Calls Tryz.prog 128 #[.string s, .int .i32 r] w fun e w' => e = .returned (.int .i64 (-1)) ∧ Below w.heap.size w w' := by
  have hcv := run_rune_str r
  obtain ⟨x, hx, henc⟩ := encode_high r hr
  generalize Utf8.encode r = rs at hcv henc
  have hval := fun W => Tryz.utf8_ValidRune r W
  rw [hv] at hval
  have Hval := Lib.hid hval
  clear hval hv
  rcases hs with rfl | rfl
  · rcases henc with ⟨a, rfl⟩ | ⟨a, b, rfl⟩ | ⟨a, b, c, rfl⟩
    all_goals
      go_enter Tryz.func128, Tryz.ntmps128
      go_wp2_with fail
      refine (Hval.out _).mono ?_; rintro e w2 ⟨rfl, rfl⟩
      go_wp2
      go_step3
      go_wp2
      go_loop [9, 10] (fun i n => ∃ k : Nat, 1 ≤ k ∧ i = .int .i64 k ∧ n = .int .i64 0) (fun _ _ => 0)
      case atStart => exact ⟨_, by decide, rfl, rfl⟩
      case round =>
        obtain ⟨k, hk, rfl, rfl⟩ := hrel
        have hk1 : (1 : Int) ≤ (k : Int) := by omega
        go_wp2_with fail
        go_ret
        exact ⟨rfl, Below.refl _ _⟩
  · rcases henc with ⟨a, rfl⟩ | ⟨a, b, rfl⟩ | ⟨a, b, c, rfl⟩
    · go_enter Tryz.func128, Tryz.ntmps128
      go_wp2_with fail
      refine (Hval.out _).mono ?_; rintro e w2 ⟨rfl, rfl⟩
      go_wp2
      go_step3
      go_wp2
      go_loopw [9, 10] (fun i n wr => i = .int .i64 1 ∧ n = .int .i64 0 ∧ wr = w2) (fun _ _ _ => 0)
      case atStart => exact ⟨rfl, rfl, rfl⟩
      case round =>
        obtain ⟨rfl, rfl, rfl⟩ := hrel
        go_wp2
        go_step3
        have hi1 : ({ data := #[46, 95, 43, 45] } : ByteArray)[1]? = some 95 := rfl
        have hi2 : ({ data := #[a, x] } : ByteArray)[1]? = some x := rfl
        have hA : ((↑(({ data := #[46, 95, 43, 45] } : ByteArray)[1]'(show 1 < 4 by decide)).toNat : Int) != (↑(({ data := #[a, x] } : ByteArray)[1]'(show 1 < 2 by decide)).toNat : Int)) = true := by
          show ((95 : Int) != (x.toNat : Int)) = true
          simp; omega
        have hB : Lib.indexByte [43, 45] (({ data := #[a, x] } : ByteArray)[1]'(show 1 < 2 by decide)) < 0 := indexByte_high [43, 45] x (by decide) hx
        have hwr : IntKind.i64.wrap 2 = 2 := by decide
        have hxi : (128 : Int) ≤ (x.toNat : Int) := by omega
        have hxn : ¬ ((95 : Int) = (x.toNat : Int)) := by omega
        go_wp2
        go_quiet (fail)
        have hbq : Below wr.heap.size wr (wr.drewN nq) := below_drewN (Below.refl _ _) _
        generalize wr.drewN nq = W1 at hbq
        go_wp2
        go_quiet ((go_at_call 138; refine Calls.quiet_of_same (Tryz.strings_IndexByte _ _ _)))
        go_wp2
        simp only [Exit.noGoto_ret, Exit.inBlock]
        go_wp2
        (try simp only [Exit.noGoto_ret, Exit.inBlock])
        (try go_wp2)
        go_ret
        exact ⟨rfl, below_drewN hbq _⟩
    · go_enter Tryz.func128, Tryz.ntmps128
      go_wp2_with fail
      refine (Hval.out _).mono ?_; rintro e w2 ⟨rfl, rfl⟩
      go_wp2
      go_step3
      go_wp2
      go_loopw [9, 10] (fun i n wr => i = .int .i64 2 ∧ n = .int .i64 0 ∧ wr = w2) (fun _ _ _ => 0)
      case atStart => exact ⟨rfl, rfl, rfl⟩
      case round =>
        obtain ⟨rfl, rfl, rfl⟩ := hrel
        go_wp2
        go_step3
        have hi1 : ({ data := #[46, 95, 43, 45] } : ByteArray)[2]? = some 43 := rfl
        have hi2 : ({ data := #[a, b, x] } : ByteArray)[2]? = some x := rfl
        have hA : ((↑(({ data := #[46, 95, 43, 45] } : ByteArray)[2]'(show 2 < 4 by decide)).toNat : Int) != (↑(({ data := #[a, b, x] } : ByteArray)[2]'(show 2 < 3 by decide)).toNat : Int)) = true := by
          show ((43 : Int) != (x.toNat : Int)) = true
          simp; omega
        have hB : Lib.indexByte [45] (({ data := #[a, b, x] } : ByteArray)[2]'(show 2 < 3 by decide)) < 0 := indexByte_high [45] x (by decide) hx
        have hwr : IntKind.i64.wrap 3 = 3 := by decide
        have hxi : (128 : Int) ≤ (x.toNat : Int) := by omega
        have hxn : ¬ ((43 : Int) = (x.toNat : Int)) := by omega
        go_wp2
        go_quiet (fail)
        have hbq : Below wr.heap.size wr (wr.drewN nq) := below_drewN (Below.refl _ _) _
        generalize wr.drewN nq = W1 at hbq
        go_wp2
        go_quiet ((go_at_call 138; refine Calls.quiet_of_same (Tryz.strings_IndexByte _ _ _)))
        go_wp2
        simp only [Exit.noGoto_ret, Exit.inBlock]
        go_wp2
        (try simp only [Exit.noGoto_ret, Exit.inBlock])
        (try go_wp2)
        go_ret
        exact ⟨rfl, below_drewN hbq _⟩
    · go_enter Tryz.func128, Tryz.ntmps128
      go_wp2_with fail
      refine (Hval.out _).mono ?_; rintro e w2 ⟨rfl, rfl⟩
      go_wp2
      go_step3
      go_wp2
      go_loopw [9, 10] (fun i n wr => i = .int .i64 3 ∧ n = .int .i64 0 ∧ wr = w2) (fun _ _ _ => 0)
      case atStart => exact ⟨rfl, rfl, rfl⟩
      case round =>
        obtain ⟨rfl, rfl, rfl⟩ := hrel
        go_wp2
        go_step3
        have hi1 : ({ data := #[46, 95, 43, 45] } : ByteArray)[3]? = some 45 := rfl
        have hi2 : ({ data := #[a, b, c, x] } : ByteArray)[3]? = some x := rfl
        have hA : ((↑(({ data := #[46, 95, 43, 45] } : ByteArray)[3]'(show 3 < 4 by decide)).toNat : Int) != (↑(({ data := #[a, b, c, x] } : ByteArray)[3]'(show 3 < 4 by decide)).toNat : Int)) = true := by
          show ((45 : Int) != (x.toNat : Int)) = true
          simp; omega
        have hB : Lib.indexByte [] (({ data := #[a, b, c, x] } : ByteArray)[3]'(show 3 < 4 by decide)) < 0 := indexByte_high [] x (by decide) hx
        have hwr : IntKind.i64.wrap 4 = 4 := by decide
        have hxi : (128 : Int) ≤ (x.toNat : Int) := by omega
        have hxn : ¬ ((45 : Int) = (x.toNat : Int)) := by omega
        go_wp2
        go_quiet (fail)
        have hbq : Below wr.heap.size wr (wr.drewN nq) := below_drewN (Below.refl _ _) _
        generalize wr.drewN nq = W1 at hbq
        go_wp2
        go_quiet ((go_at_call 138; refine Calls.quiet_of_same (Tryz.strings_IndexByte _ _ _)))
        go_wp2
        simp only [Exit.noGoto_ret, Exit.inBlock]
        go_wp2
        (try simp only [Exit.noGoto_ret, Exit.inBlock])
        (try go_wp2)
        go_ret
        exact ⟨rfl, below_drewN hbq _⟩
theorem width_pos (s : ByteArray) (pos : Nat) (h : pos < s.size) : 1 ≤ (Utf8.decode s pos).2 := by
  by_cases ha : (s[pos]'h).toNat < 128
  · rw [decode_ascii s pos h ha]
    exact Nat.le_refl _
  · exact (decode_high s pos h (by omega)).2
theorem below_iter (w : World) (s : ByteArray) (pos : Nat) : Below w.heap.size w (w.iter s pos) :=
  (Below.refl _ _).alloc (Nat.le_refl _) _
set_option maxRecDepth 100000 in
set_option maxHeartbeats 4000000 in
theorem indexRune_err (s : ByteArray) (w : World) (hs : ∀ (j : Nat) (h : j < s.size), (s[j]'h).toNat < 128) :
    Calls Tryz.prog 128 #[.string s, .int .i32 65533] w fun e w' => e = .returned (.int .i64 (-1)) ∧ Below w.heap.size w w' := by
  go_enter Tryz.func128, Tryz.ntmps128
  go_wp2
  go_loopw [5] (fun _ w' => ∃ pos : Nat, w' = w.iter s pos) (fun _ w' => s.size - w'.iterPos w.heap.size)
  case atStart => exact ⟨0, rfl⟩
  case round =>
    obtain ⟨pos, rfl⟩ := hrel
    by_cases hp : pos < s.size
    · have hnx : ∀ ty, (Instr.next (.pointer (some ⟨w.heap.size, 0, none⟩)) true ty).run Tryz.prog (w.iter s pos) = _ := fun ty => run_next_any w s pos ty hp
      have hd := decode_ascii s pos hp (hs pos hp)
      have hlt := hs pos hp
      rw [hd] at hnx
      generalize (s[pos]'hp).toNat = c at hnx hlt
      have hc : ¬ ((c : Int) = 65533) := by omega
      clear hd
      go_wp2
      go_roundw
      case rel => exact ⟨pos + 1, rfl⟩
      case measure => simp; omega
    · have hnx : ∀ ty, (Instr.next (.pointer (some ⟨w.heap.size, 0, none⟩)) true ty).run Tryz.prog (w.iter s pos) = _ := fun ty => run_next_end w s pos ty hp
      go_wp2
      go_ret
      exact ⟨rfl, below_iter _ _ _⟩
theorem indexByte_parts (l : List UInt8) (x : UInt8) : (l.contains x = true ∧ 0 ≤ Lib.indexByte l x) ∨ (l.contains x = false ∧ Lib.indexByte l x = -1) := by
  induction l with
  | nil => exact .inr ⟨rfl, rfl⟩
  | cons b l ih =>
    by_cases hb : b = x
    · left; simp [Lib.indexByte, hb]
    · have hb' : ¬ (x = b) := fun h => hb h.symm
      have e : Lib.indexByte (b :: l) x = if Lib.indexByte l x = -1 then -1 else Lib.indexByte l x + 1 := by simp [Lib.indexByte, hb]
      have ec : (b :: l).contains x = l.contains x := by simp [hb']
      rw [e, ec]
      rcases ih with ⟨h1, h2⟩ | ⟨h1, h2⟩
      · left; refine ⟨h1, ?_⟩; rw [if_neg (by omega)]; omega
      · right; exact ⟨h1, by rw [if_pos h2]⟩
theorem indexByte_contains (l : List UInt8) (x : UInt8) : decide (0 ≤ Lib.indexByte l x) = l.contains x := by
  rcases indexByte_parts l x with ⟨h1, h2⟩ | ⟨h1, h2⟩
  · rw [h1]; exact decide_eq_true h2
  · rw [h1, h2]; rfl
def oneOf (s : ByteArray) : Prop := s = ⟨#[45]⟩ ∨ s = ⟨#[46, 95, 43, 45]⟩
theorem oneOf_ascii {s : ByteArray} (h : oneOf s) : ∀ (j : Nat) (h : j < s.size), (s[j]'h).toNat < 128 := by
  rcases h with rfl | rfl
  · intro j hj
    have : j < 1 := hj
    obtain rfl : j = 0 := by omega
    exact (by decide : (45 : UInt8).toNat < 128)
  · intro j hj
    have : j < 4 := hj
    rcases (by omega : j = 0 ∨ j = 1 ∨ j = 2 ∨ j = 3) with rfl | rfl | rfl | rfl
    · exact (by decide : (46 : UInt8).toNat < 128)
    · exact (by decide : (95 : UInt8).toNat < 128)
    · exact (by decide : (43 : UInt8).toNat < 128)
    · exact (by decide : (45 : UInt8).toNat < 128)
/-- ContainsRune at any code point of a string, in the texts that addr asks. -/
theorem containsRune_calls (s : ByteArray) (r : Nat) (w : World) (hs : oneOf s) (hr : r ≤ 1114111) (hv : Lib.validRune (r : Int) = true) :
    Calls Tryz.prog 117 #[.string s, .int .i32 r] w fun e w' => e = .returned (.bool (decide (r < 128) && s.data.toList.contains (UInt8.ofNat r))) ∧ Below w.heap.size w w' ∧ (r < 128 → w' = w) := by
  by_cases hlow : r < 128
  · refine (Tryz.strings_ContainsRune_ascii s r w (by omega) (by omega)).mono ?_
    rintro e w' ⟨rfl, rfl⟩
    refine ⟨?_, Below.refl _ _, fun _ => rfl⟩
    have hu : (r : Int).toNat.toUInt8 = UInt8.ofNat r := by simp
    rw [hu, indexByte_contains, decide_eq_true hlow, Bool.true_and]
  · have hres : (decide (r < 128) && s.data.toList.contains (UInt8.ofNat r)) = false := by simp [hlow]
    rw [hres]
    have hidx : ∀ W, Calls Tryz.prog 128 #[.string s, .int .i32 r] W fun e w' => e = .returned (.int .i64 (-1)) ∧ Below W.heap.size W w' := by
      intro W
      by_cases h3 : r = 65533
      · subst h3; exact indexRune_err s W (oneOf_ascii hs)
      · exact indexRune_high s r W (by omega) (by omega) hv (by omega) hs
    have Hidx := Lib.hid hidx
    clear hidx
    go_enter Tryz.func117, Tryz.ntmps117
    go_wp2_with fail
    refine (Hidx.out _).mono ?_; rintro e w2 ⟨rfl, hb2⟩
    go_wp2
    go_ret
    exact ⟨rfl, hb2, fun h => absurd h hlow⟩
end Go.Proofs.YtjddicoigbidlaaGreatDoor

set_option linter.unusedSimpArgs false
set_option linter.unusedVariables false
namespace Go.Proofs.YtjddicoigbidlaaGreatDoor
def cutAt (c : UInt8) : List UInt8 → Option (List UInt8 × List UInt8)
  | [] => none
  | x :: xs => if x = c then some ([], xs) else (cutAt c xs).map fun p => (x :: p.1, p.2)
def piecesAt (c : UInt8) : List UInt8 → List (List UInt8)
  | [] => [[]]
  | x :: xs => if x = c then [] :: piecesAt c xs else match piecesAt c xs with
    | [] => [[x]]
    | p :: ps => (x :: p) :: ps
theorem index_one (c : UInt8) (s : List UInt8) : (cutAt c s = none ∧ Lib.index s [c] = -1) ∨ ∃ a b, cutAt c s = some (a, b) ∧ s = a ++ c :: b ∧ Lib.index s [c] = (a.length : Int) := by
  induction s with
  | nil => exact .inl ⟨rfl, rfl⟩
  | cons x xs ih =>
    by_cases hx : x = c
    · subst hx
      refine .inr ⟨[], xs, by simp [cutAt], rfl, ?_⟩
      simp [Lib.index]
    · have hc : ¬ (c = x) := fun h => hx h.symm
      rcases ih with ⟨h1, h2⟩ | ⟨a, b, h1, h2, h3⟩
      · exact .inl ⟨by simp [cutAt, hx, h1], by simp [Lib.index, h2, hx, hc]⟩
      · refine .inr ⟨x :: a, b, by simp [cutAt, hx, h1], by rw [h2]; rfl, ?_⟩
        have : ¬ ((a.length : Int) = -1) := by omega
        simp [Lib.index, h3, hx, hc, this]
theorem cut_one (c : UInt8) (s : List UInt8) : Lib.cut s [c] = match cutAt c s with
    | some p => (p.1, p.2, true)
    | none => (s, [], false) := by
  unfold Lib.cut
  rcases index_one c s with ⟨h1, h2⟩ | ⟨a, b, h1, h2, h3⟩
  · rw [h1, h2]; rfl
  · rw [h1, h3, if_pos (by omega)]
    subst h2
    simp
theorem pieces_cut (c : UInt8) (s : List UInt8) : piecesAt c s = match cutAt c s with
    | some p => p.1 :: piecesAt c p.2
    | none => [s] := by
  induction s with
  | nil => rfl
  | cons x xs ih =>
    by_cases hx : x = c
    · simp [piecesAt, cutAt, hx]
    · simp only [piecesAt, cutAt, if_neg hx]
      rw [ih]
      cases cutAt c xs with
      | none => rfl
      | some p => rfl
theorem pieces_pos (c : UInt8) (s : List UInt8) : 0 < (piecesAt c s).length := by
  rw [pieces_cut]; split <;> simp
theorem split_pieces (c : UInt8) : ∀ (k : Nat) (s : List UInt8), (piecesAt c s).length ≤ k + 1 → Lib.splitK [c] 0 k s = piecesAt c s := by
  intro k
  induction k with
  | zero =>
    intro s h
    have := pieces_pos c s
    rw [pieces_cut] at h ⊢
    rcases index_one c s with ⟨h1, _⟩ | ⟨a, b, h1, _, _⟩
    · rw [h1]; rfl
    · rw [h1] at h; simp only [List.length_cons] at h; have := pieces_pos c b; omega
  | succ k ih =>
    intro s h
    rw [pieces_cut] at h ⊢
    rcases index_one c s with ⟨h1, h2⟩ | ⟨a, b, h1, h2, h3⟩
    · rw [h1, Lib.splitK, h2] <;> rfl
    · rw [h1] at h ⊢
      simp only [List.length_cons] at h ⊢
      rw [Lib.splitK, h3, if_neg (by simp <;> omega)]
      subst h2
      simp only [Int.toNat_natCast, Nat.add_zero, List.length_singleton, List.take_left']
      congr 1
      rw [show (a ++ c :: b).drop (a.length + 1) = b by simp]
      exact ih b (by omega)
theorem count_pieces (c : UInt8) : ∀ (fuel : Nat) (s : List UInt8), s.length < fuel → Lib.countFrom [c] fuel s + 1 = (piecesAt c s).length := by
  intro fuel
  induction fuel with
  | zero => intro s h; omega
  | succ fuel ih =>
    intro s h
    rw [pieces_cut, Lib.countFrom]
    rcases index_one c s with ⟨h1, h2⟩ | ⟨a, b, h1, h2, h3⟩
    · rw [h1, h2] <;> rfl
    · rw [h1, h3, if_neg (by simp <;> omega)]
      subst h2
      simp only [Int.toNat_natCast, List.length_cons, List.length_nil, Nat.zero_add]
      rw [show (a ++ c :: b).drop (a.length + 1) = b by simp]
      have := ih b (by simp at h; omega)
      omega
theorem split_one (c : UInt8) (s : List UInt8) : Lib.split s [c] = piecesAt c s := by
  unfold Lib.split Lib.count
  exact split_pieces c _ s (by rw [← count_pieces c (s.length + 1) s (by omega)]; omega)
theorem contains_one (c : UInt8) (s : List UInt8) : Lib.contains s [c] = s.contains c := by
  unfold Lib.contains
  rcases index_one c s with ⟨h1, h2⟩ | ⟨a, b, h1, h2, h3⟩
  · rw [h2]
    have : s.contains c = false := by
      clear h2
      induction s with
      | nil => rfl
      | cons x xs ih =>
        by_cases hx : x = c
        · simp [cutAt, hx] at h1
        · simp [cutAt, hx] at h1
          have hc : ¬ (c = x) := fun h => hx h.symm
          simp [hc, hx] at ih ⊢
          exact ih h1
    rw [this]; decide
  · rw [h3, h2]; simp
def plainB (c : UInt8) : Bool := decide (97 ≤ c.toNat ∧ c.toNat ≤ 122) || decide (65 ≤ c.toNat ∧ c.toNat ≤ 90) || decide (48 ≤ c.toNat ∧ c.toNat ≤ 57)
def onlyB (others s : List UInt8) : Bool := s.all fun c => plainB c || others.contains c
def endsB (x : UInt8) (s : List UInt8) : Bool := s.head? == some x || s.getLast? == some x
def labelB (s : List UInt8) : Bool := decide (1 ≤ s.length ∧ s.length ≤ 32) && onlyB [45] s && !endsB 45 s
def domainB (s : List UInt8) : Bool := (piecesAt 46 s).all labelB && decide (s.length ≤ 64)
def twoB (x : UInt8) : List UInt8 → Bool
  | a :: b :: r => (a == x && b == x) || twoB x (b :: r)
  | _ => false
def localB (s : List UInt8) : Bool := decide (1 ≤ s.length ∧ s.length ≤ 32) && onlyB [46, 95, 43, 45] s && !endsB 46 s && !twoB 46 s
def splitBox (s : List UInt8) : Option (List UInt8 × List UInt8) := match cutAt 64 s with
  | some (n, d) => if localB n && domainB d && decide (s.length ≤ 64) then some (n, Lib.toLowerA d) else none
  | none => none
def parseBox (s : List UInt8) : Option (List UInt8) := (splitBox s).map fun p => p.1 ++ 64 :: p.2
def boxB (s : List UInt8) : Bool := parseBox s == some s
theorem contains_two (x : UInt8) (s : List UInt8) : Lib.contains s [x, x] = twoB x s := by
  have key : ∀ s : List UInt8, (twoB x s = false ∧ Lib.index s [x, x] = -1) ∨ (twoB x s = true ∧ 0 ≤ Lib.index s [x, x]) := by
    intro s
    induction s with
    | nil => exact .inl ⟨rfl, rfl⟩
    | cons a r ih =>
      cases r with
      | nil => left; exact ⟨rfl, by simp [Lib.index, List.isPrefixOf]⟩
      | cons b r =>
        by_cases hab : a = x ∧ b = x
        · right; obtain ⟨rfl, rfl⟩ := hab
          refine ⟨by simp [twoB], ?_⟩
          rw [Lib.index, if_pos (by simp [List.isPrefixOf])]; omega
        · have hp : ([x, x] : List UInt8).isPrefixOf (a :: b :: r) = false := by
            simp only [List.isPrefixOf, Bool.and_true, Bool.and_eq_false_iff, beq_eq_false_iff_ne, ne_eq]
            by_cases h : a = x
            · right; intro h2; exact hab ⟨h, h2.symm⟩
            · left; intro h2; exact h h2.symm
          have ht : twoB x (a :: b :: r) = twoB x (b :: r) := by
            rw [twoB]
            have : (a == x && b == x) = false := by
              rw [Bool.and_eq_false_iff]; simp only [beq_eq_false_iff_ne, ne_eq]
              by_cases h : a = x
              · right; intro h2; exact hab ⟨h, h2⟩
              · left; exact h
            rw [this, Bool.false_or]
          rw [ht, Lib.index, hp]
          rcases ih with ⟨h1, h2⟩ | ⟨h1, h2⟩
          · left; exact ⟨h1, by rw [h2]; rfl⟩
          · right
            refine ⟨h1, ?_⟩
            rw [if_neg (by simp)]
            have hne : ¬ (Lib.index (b :: r) [x, x] == -1) = true := by
              intro h
              have := eq_of_beq h
              omega
            rw [if_neg hne]; omega
  unfold Lib.contains
  rcases key s with ⟨h1, h2⟩ | ⟨h1, h2⟩
  · rw [h1, h2]; decide
  · rw [h1]; exact decide_eq_true h2
end Go.Proofs.YtjddicoigbidlaaGreatDoor

set_option linter.unusedSimpArgs false
set_option linter.unusedVariables false
namespace Go.Proofs.YtjddicoigbidlaaGreatDoor
open Go.RowKit
def plainR (r : Nat) : Bool := decide (97 ≤ r ∧ r ≤ 122) || decide (65 ≤ r ∧ r ≤ 90) || decide (48 ≤ r ∧ r ≤ 57)
set_option maxRecDepth 100000 in
set_option maxHeartbeats 4000000 in
theorem addrPlain_calls (r : Nat) (w : World) (hr : r ≤ 1114111) :
    Calls Tryz.prog 116 #[.int .i32 r] w fun e w' => e = .returned (.bool (plainR r)) ∧ w' = w := by
  by_cases a1 : 97 ≤ r <;> by_cases a2 : r ≤ 122 <;> by_cases b1 : 65 ≤ r <;> by_cases b2 : r ≤ 90 <;> by_cases c1 : 48 ≤ r <;> by_cases c2 : r ≤ 57
  all_goals first | omega | skip
  all_goals
    have hp : ∃ v, plainR r = v := ⟨_, rfl⟩
    have hv : plainR r = (decide (97 ≤ r ∧ r ≤ 122) || decide (65 ≤ r ∧ r ≤ 90) || decide (48 ≤ r ∧ r ≤ 57)) := rfl
    simp only [a1, a2, b1, b2, c1, c2, and_self, and_true, true_and, and_false, false_and, decide_true, decide_false, Bool.or_true, Bool.true_or, Bool.or_false, Bool.false_or] at hv
    rw [hv]
    clear hp hv
    go_enter Tryz.func116, Tryz.ntmps116
    go_wp2
    go_ret
    first
    | exact ⟨rfl, rfl⟩
    | (refine ⟨?_, rfl⟩; congr 2; simp; omega)
theorem plain_iff (c : UInt8) : plainB c = plainR c.toNat := rfl
theorem plainR_high (r : Nat) (h : 128 ≤ r) : plainR r = false := by
  unfold plainR
  rw [decide_eq_false (by omega), decide_eq_false (by omega), decide_eq_false (by omega)]; rfl
theorem size_len (s : ByteArray) : s.size = s.data.toList.length := by rw [Array.length_toList]; rfl
theorem get_byte (s : ByteArray) (pos : Nat) (h : pos < s.size) : s.data.toList[pos]? = some (s[pos]'h) := by
  rw [Array.getElem?_toList]
  exact Array.getElem?_eq_getElem h
theorem onlyB_false {o l : List UInt8} {i : Nat} {c : UInt8} (hc : l[i]? = some c) (h : (plainB c || o.contains c) = false) : onlyB o l = false := by
  unfold onlyB
  rw [List.all_eq_false]
  exact ⟨c, List.mem_of_getElem? hc, by rw [h]; simp⟩
set_option maxRecDepth 100000 in
set_option maxHeartbeats 4000000 in
theorem addrOnly_calls (s o : ByteArray) (w : World) (ho : oneOf o) :
    Calls Tryz.prog 104 #[.string s, .string o] w fun e w' => e = .returned (.bool (onlyB o.data.toList s.data.toList)) ∧ Below w.heap.size w w' := by
  have hoa : ∀ c : UInt8, 128 ≤ c.toNat → o.data.toList.contains c = false := by
    intro c hc
    rcases ho with rfl | rfl
    · have : ¬ (c = 45) := fun h => by rw [h] at hc; revert hc; decide
      simp [this]
    · have h1 : ¬ (c = 45) := fun h => by rw [h] at hc; revert hc; decide
      have h2 : ¬ (c = 46) := fun h => by rw [h] at hc; revert hc; decide
      have h3 : ¬ (c = 95) := fun h => by rw [h] at hc; revert hc; decide
      have h4 : ¬ (c = 43) := fun h => by rw [h] at hc; revert hc; decide
      simp [h1, h2, h3, h4]
  obtain ⟨os, hos⟩ : ∃ os, o.data.toList = os := ⟨_, rfl⟩
  have hcr := fun (r : Nat) W hr hv => containsRune_calls o r W ho hr hv
  rw [hos] at hoa ⊢
  rw [hos] at hcr
  have Hcr := Lib.hid hcr
  have Hoa := Lib.hid hoa
  clear hcr hoa hos ho
  go_enter Tryz.func104, Tryz.ntmps104
  go_wp2
  go_loopw [6] (fun _ w' => ∃ pos : Nat, pos ≤ s.size ∧ w' = w.iter s pos ∧ onlyB os (s.data.toList.take pos) = true) (fun _ w' => s.size - w'.iterPos w.heap.size)
  case atStart => exact ⟨0, Nat.zero_le _, rfl, rfl⟩
  case round =>
    obtain ⟨pos, hps, rfl, hall⟩ := hrel
    by_cases hp : pos < s.size
    · have hnx : ∀ ty, (Instr.next (.pointer (some ⟨w.heap.size, 0, none⟩)) true ty).run Tryz.prog (w.iter s pos) = _ := fun ty => run_next_any w s pos ty hp
      have hwd := width_pos s pos hp
      have hle := Lib.rune_le s pos
      have hval : Lib.validRune ((Utf8.decode s pos).1 : Int) = true := by
        have h1 := Lib.rune_valid (s.extract pos s.size)
        rw [Lib.tail_decode, Nat.add_zero] at h1
        exact h1
      have hb := get_byte s pos hp
      obtain ⟨c, hc⟩ : ∃ c, s[pos]'hp = c := ⟨_, rfl⟩
      rw [hc] at hb
      have hcase : (c.toNat < 128 ∧ (Utf8.decode s pos) = (c.toNat, 1)) ∨ (128 ≤ c.toNat ∧ 128 ≤ (Utf8.decode s pos).1) := by
        by_cases h : (s[pos]'hp).toNat < 128
        · left; rw [← hc]; exact ⟨h, decode_ascii s pos hp h⟩
        · right; rw [← hc]; exact ⟨by omega, (decode_high s pos hp (by omega)).1⟩
      generalize hde : Utf8.decode s pos = d at hnx hwd hle hval hcase
      obtain ⟨r, k⟩ := d
      simp only at hwd hle hval hcase
      have Hval := Lib.hid hval
      have Hb := Lib.hid hb
      have Hall := Lib.hid hall
      have hpl := fun W => addrPlain_calls r W hle
      have Hpl := Lib.hid hpl
      have hcrr := Hcr.out r
      clear hb hall hval hpl hde hcrr
      rcases hcase with ⟨hlow, hd⟩ | ⟨hhigh, hrh⟩
      · obtain ⟨rfl, rfl⟩ : r = c.toNat ∧ k = 1 := by cases hd; exact ⟨rfl, rfl⟩
        have hofn : UInt8.ofNat c.toNat = c := by simp
        have hstep : ∀ v, (plainB c || os.contains c) = v → onlyB os (s.data.toList.take (pos + 1)) = v := by
          intro v hv
          unfold onlyB
          rw [take_snoc Hb.out, List.all_append]
          have h := Hall.out
          unfold onlyB at h
          rw [h, Bool.true_and]
          simpa using hv
        have hfalse : (plainB c || os.contains c) = false → onlyB os s.data.toList = false := fun h => onlyB_false Hb.out h
        have hcr := fun W => Hcr.out c.toNat W hle Hval.out
        rw [decide_eq_true hlow, Bool.true_and, hofn] at hcr
        rw [plain_iff] at hstep hfalse
        have Hcr2 := Lib.hid hcr
        have Hstep := Lib.hid hstep
        have Hfalse := Lib.hid hfalse
        generalize hg1 : plainR c.toNat = p at Hpl Hstep Hfalse
        generalize hg2 : os.contains c = q at Hcr2 Hstep Hfalse
        clear hcr hstep hfalse hd hg1 hg2 hofn
        cases p
        · cases q
          · go_wp2_with fail
            refine (Hpl.out _).mono ?_; rintro e w2 ⟨rfl, rfl⟩
            go_wp2_with fail
            refine (Hcr2.out _).mono ?_; rintro e w3 ⟨rfl, hb3, heq⟩
            obtain rfl := heq hlow
            go_wp2
            go_ret
            exact ⟨by rw [Hfalse.out rfl]; rfl, below_iter _ _ _⟩
          · go_wp2_with fail
            refine (Hpl.out _).mono ?_; rintro e w2 ⟨rfl, rfl⟩
            go_wp2_with fail
            refine (Hcr2.out _).mono ?_; rintro e w3 ⟨rfl, hb3, heq⟩
            obtain rfl := heq hlow
            go_wp2
            go_roundw
            case rel => exact ⟨pos + 1, by omega, rfl, Hstep.out true rfl⟩
            case measure => simp; omega
        · go_wp2_with fail
          refine (Hpl.out _).mono ?_; rintro e w2 ⟨rfl, rfl⟩
          go_wp2
          go_roundw
          case rel => exact ⟨pos + 1, by omega, rfl, Hstep.out true (by simp)⟩
          case measure => simp; omega
      · have hf : onlyB os s.data.toList = false := onlyB_false Hb.out (by rw [plain_iff, plainR_high _ hhigh, Hoa.out c hhigh]; rfl)
        have hcr := fun W => Hcr.out r W hle Hval.out
        rw [decide_eq_false (by omega : ¬ r < 128), Bool.false_and] at hcr
        have Hcr2 := Lib.hid hcr
        have Hf := Lib.hid hf
        have hpr := plainR_high r hrh
        rw [hpr] at Hpl
        clear hcr hf hpr
        go_wp2_with fail
        refine (Hpl.out _).mono ?_; rintro e w2 ⟨rfl, rfl⟩
        go_wp2_with fail
        refine (Hcr2.out _).mono ?_; rintro e w3 ⟨rfl, hb3, _⟩
        go_wp2
        go_ret
        exact ⟨by rw [Hf.out]; rfl, (below_iter w s (pos + k)).trans (hb3.mono (by simp [World.iter]))⟩
    · have hnx : ∀ ty, (Instr.next (.pointer (some ⟨w.heap.size, 0, none⟩)) true ty).run Tryz.prog (w.iter s pos) = _ := fun ty => run_next_end w s pos ty hp
      have hpe : pos = s.size := by omega
      have hfin : onlyB os s.data.toList = true := by
        rw [List.take_of_length_le (by rw [← size_len]; omega)] at hall; exact hall
      have Hfin := Lib.hid hfin
      clear hall hfin hpe
      go_wp2
      go_ret
      exact ⟨by rw [Hfin.out]; rfl, below_iter _ _ _⟩
end Go.Proofs.YtjddicoigbidlaaGreatDoor

set_option linter.unusedSimpArgs false
set_option linter.unusedVariables false
namespace Go.Proofs.YtjddicoigbidlaaGreatDoor
open Go.RowKit
theorem prefix_one (c : UInt8) (l : List UInt8) : Lib.hasPrefix l [c] = (l.head? == some c) := by
  unfold Lib.hasPrefix
  cases l with
  | nil => rfl
  | cons x xs =>
    by_cases h : c = x
    · subst h; simp [List.isPrefixOf]
    · have h' : ¬ (x = c) := fun e => h e.symm
      have e1 : (c == x) = false := by simpa using h
      have e2 : (x == c) = false := by simpa using h'
      simp [List.isPrefixOf, e1, e2]
theorem suffix_one (c : UInt8) (l : List UInt8) : Lib.hasSuffix l [c] = (l.getLast? == some c) := by
  unfold Lib.hasSuffix
  have h1 : ([c] : List UInt8).isSuffixOf l = (([c] : List UInt8).reverse.isPrefixOf l.reverse) := rfl
  rw [h1]
  have h2 := prefix_one c l.reverse
  unfold Lib.hasPrefix at h2
  rw [show ([c] : List UInt8).reverse = [c] from rfl, h2, List.head?_reverse]
set_option maxRecDepth 100000 in
set_option maxHeartbeats 4000000 in
theorem addrEnds_calls (s : ByteArray) (c : UInt8) (w : World) (hs : s.size ≤ 9223372036854775807) :
    Calls Tryz.prog 105 #[.string s, .string ⟨#[c]⟩] w fun e w' => e = .returned (.bool (endsB c s.data.toList)) ∧ w' = w := by
  have h1 := fun W => Tryz.strings_HasPrefix s ⟨#[c]⟩ W
  have h2 := fun W => Tryz.strings_HasSuffix s ⟨#[c]⟩ W hs
  rw [show (⟨#[c]⟩ : ByteArray).data.toList = [c] from rfl] at h1 h2
  rw [prefix_one] at h1
  rw [suffix_one] at h2
  have H1 := Lib.hid h1
  have H2 := Lib.hid h2
  clear h1 h2
  unfold endsB
  generalize (s.data.toList.head? == some c) = p at H1
  generalize (s.data.toList.getLast? == some c) = q at H2
  cases p
  · go_enter Tryz.func105, Tryz.ntmps105
    go_wp2_with fail
    refine (H1.out _).mono ?_; rintro e w2 ⟨rfl, rfl⟩
    go_wp2_with fail
    refine (H2.out _).mono ?_; rintro e w3 ⟨rfl, rfl⟩
    go_wp2
    go_ret
    exact ⟨by simp, rfl⟩
  · go_enter Tryz.func105, Tryz.ntmps105
    go_wp2_with fail
    refine (H1.out _).mono ?_; rintro e w2 ⟨rfl, rfl⟩
    go_wp2
    go_ret
    exact ⟨by simp, rfl⟩
theorem empty_of_size {s : ByteArray} (h : s.size = 0) : s = ⟨#[]⟩ := by
  obtain ⟨d⟩ := s
  have : d.size = 0 := h
  rw [Array.size_eq_zero_iff.1 this]
theorem empty_beq {s : ByteArray} (h : s.size ≠ 0) : (s.toList == (⟨#[]⟩ : ByteArray).toList) = false :=
  (Lib.bytes_beq_false_iff _ _).2 (fun e => h (by rw [e]; rfl))
theorem empty_ne {s : ByteArray} (h : s.size ≠ 0) : ¬ s.toList = [] := by
  have := empty_beq h
  intro e
  rw [e] at this
  simp at this
set_option maxRecDepth 100000 in
set_option maxHeartbeats 4000000 in
theorem addrLabel_calls (s : ByteArray) (w : World) (hs : s.size ≤ 9223372036854775807) :
    Calls Tryz.prog 107 #[.string s] w fun e w' => e = .returned (.bool (labelB s.data.toList)) ∧ Below w.heap.size w w' := by
  have hl := size_len s
  have h1 := fun W => addrOnly_calls s ⟨#[45]⟩ W (.inl rfl)
  have h2 := fun W => addrEnds_calls s 45 W hs
  rw [show (⟨#[45]⟩ : ByteArray).data.toList = [45] from rfl] at h1
  have hlab : labelB s.data.toList = (decide (1 ≤ s.size ∧ s.size ≤ 32) && onlyB [45] s.data.toList && !endsB 45 s.data.toList) := by rw [hl]; rfl
  rw [hlab]
  generalize onlyB [45] s.data.toList = p at h1
  generalize endsB 45 s.data.toList = q at h2
  have H1 := Lib.hid h1
  have H2 := Lib.hid h2
  clear h1 h2 hlab hl
  by_cases h0 : s.size = 0
  · obtain rfl := empty_of_size h0
    clear h0
    go_enter Tryz.func107, Tryz.ntmps107
    go_wp2
    go_ret
    exact ⟨rfl, Below.refl _ _⟩
  · have hb := empty_ne h0
    have hb2 : s.toList.isEmpty = false := by simpa using hb
    by_cases h32 : (s.size : Int) ≤ 32
    · have hd : decide (1 ≤ s.size ∧ s.size ≤ 32) = true := decide_eq_true ⟨by omega, by omega⟩
      rw [hd]
      clear hd
      cases p
      · go_enter Tryz.func107, Tryz.ntmps107
        go_wp2_with fail
        refine (H1.out _).mono ?_; rintro e w2 ⟨rfl, hb2⟩
        go_wp2
        go_ret
        exact ⟨rfl, hb2⟩
      · go_enter Tryz.func107, Tryz.ntmps107
        go_wp2_with fail
        refine (H1.out _).mono ?_; rintro e w2 ⟨rfl, hb2⟩
        go_wp2_with fail
        refine (H2.out _).mono ?_; rintro e w3 ⟨rfl, rfl⟩
        go_wp2
        go_ret
        exact ⟨rfl, hb2⟩
    · have hd : decide (1 ≤ s.size ∧ s.size ≤ 32) = false := decide_eq_false (by omega)
      rw [hd]
      clear hd
      go_enter Tryz.func107, Tryz.ntmps107
      go_wp2
      go_ret
      exact ⟨rfl, Below.refl _ _⟩
end Go.Proofs.YtjddicoigbidlaaGreatDoor

set_option linter.unusedSimpArgs false
set_option linter.unusedVariables false
namespace Go.Proofs.YtjddicoigbidlaaGreatDoor
open Go.RowKit
/-- The library's variable MaxLen holds a number. -/
def MaxOk (w : World) : Prop := ∃ m, w.cell? ⟨0, 0, none⟩ = some (.int .i64 m)
theorem MaxOk.below {w w' : World} (hb : Below w.heap.size w w') (h : MaxOk w) : MaxOk w' := by
  obtain ⟨m, hm⟩ := h
  obtain ⟨c, f⟩ := below_cell hb
  exact ⟨m, (c _ _ (World.block_lt_of_cell? w ⟨0, 0, none⟩ hm)).trans hm⟩
set_option maxRecDepth 100000 in
set_option maxHeartbeats 4000000 in
theorem addrLocal_calls (s : ByteArray) (w : World) (hs : s.size < 4294967281) (hmax : MaxOk w) :
    Calls Tryz.prog 95 #[.string s] w fun e w' => e = .returned (.bool (localB s.data.toList)) ∧ Below w.heap.size w w' := by
  have hl := size_len s
  have h1 := fun W => addrOnly_calls s ⟨#[46, 95, 43, 45]⟩ W (.inr rfl)
  have h2 := fun W => addrEnds_calls s 46 W (by omega)
  have h3 := fun W m hm => Tryz.strings_Contains s ⟨#[46, 46]⟩ m W hs hm
  rw [show (⟨#[46, 95, 43, 45]⟩ : ByteArray).data.toList = [46, 95, 43, 45] from rfl] at h1
  rw [show (⟨#[46, 46]⟩ : ByteArray).data.toList = [46, 46] from rfl, contains_two] at h3
  have hlab : localB s.data.toList = (decide (1 ≤ s.size ∧ s.size ≤ 32) && onlyB [46, 95, 43, 45] s.data.toList && !endsB 46 s.data.toList && !twoB 46 s.data.toList) := by rw [hl]; rfl
  rw [hlab]
  generalize onlyB [46, 95, 43, 45] s.data.toList = p at h1
  generalize endsB 46 s.data.toList = q at h2
  generalize twoB 46 s.data.toList = r at h3
  have H1 := Lib.hid h1
  have H2 := Lib.hid h2
  have H3 := Lib.hid h3
  have Hmax := Lib.hid hmax
  clear h1 h2 h3 hlab hl hmax
  by_cases h0 : s.size = 0
  · obtain rfl := empty_of_size h0
    clear h0
    go_enter Tryz.func95, Tryz.ntmps95
    go_wp2
    go_ret
    exact ⟨rfl, Below.refl _ _⟩
  · have hb := empty_ne h0
    have hb2 : s.toList.isEmpty = false := by simpa using hb
    by_cases h32 : (s.size : Int) ≤ 32
    · have hd : decide (1 ≤ s.size ∧ s.size ≤ 32) = true := decide_eq_true ⟨by omega, by omega⟩
      rw [hd]
      clear hd
      cases p
      · go_enter Tryz.func95, Tryz.ntmps95
        go_wp2_with fail
        refine (H1.out _).mono ?_; rintro e w2 ⟨rfl, hb2⟩
        go_wp2
        go_ret
        exact ⟨rfl, hb2⟩
      · cases q
        · go_enter Tryz.func95, Tryz.ntmps95
          go_wp2_with fail
          refine (H1.out _).mono ?_; rintro e w2 ⟨rfl, hb2⟩
          go_wp2_with fail
          refine (H2.out _).mono ?_; rintro e w3 ⟨rfl, rfl⟩
          obtain ⟨m, hm⟩ := Hmax.out.below hb2
          go_wp2_with fail
          refine (H3.out _ m hm).mono ?_; rintro e w4 ⟨rfl, rfl⟩
          go_wp2
          go_ret
          exact ⟨rfl, hb2⟩
        · go_enter Tryz.func95, Tryz.ntmps95
          go_wp2_with fail
          refine (H1.out _).mono ?_; rintro e w2 ⟨rfl, hb2⟩
          go_wp2_with fail
          refine (H2.out _).mono ?_; rintro e w3 ⟨rfl, rfl⟩
          go_wp2
          go_ret
          exact ⟨rfl, hb2⟩
    · have hd : decide (1 ≤ s.size ∧ s.size ≤ 32) = false := decide_eq_false (by omega)
      rw [hd]
      clear hd
      go_enter Tryz.func95, Tryz.ntmps95
      go_wp2
      go_ret
      exact ⟨rfl, Below.refl _ _⟩
theorem pieces_le (c : UInt8) (l : List UInt8) : ∀ p ∈ piecesAt c l, p.length ≤ l.length := by
  induction l with
  | nil => intro p hp; simp [piecesAt] at hp; subst hp; simp
  | cons x xs ih =>
    intro p hp
    by_cases hx : x = c
    · simp only [piecesAt, if_pos hx, List.mem_cons] at hp
      rcases hp with rfl | hp
      · simp
      · have := ih p hp; simp; omega
    · simp only [piecesAt, if_neg hx] at hp
      split at hp
      · simp at hp; subst hp; simp
      · next q ps he =>
        rcases List.mem_cons.1 hp with rfl | hp
        · have := ih q (by rw [he]; exact List.mem_cons_self); simp; omega
        · have := ih p (by rw [he]; exact List.mem_cons_of_mem _ hp); simp; omega
set_option maxRecDepth 100000 in
set_option maxHeartbeats 4000000 in
theorem addrDomain_calls (s : ByteArray) (w : World) (hs : s.size < 4294967281) (hmax : MaxOk w) :
    Calls Tryz.prog 96 #[.string s] w fun e w' => e = .returned (.bool (domainB s.data.toList)) ∧ Below w.heap.size w w' := by
  obtain ⟨m, hm⟩ := hmax
  have hsp := Tryz.strings_Split s ⟨#[46]⟩ m w hs hm (by decide)
  obtain ⟨P, hP⟩ : ∃ P, Lib.splitB ⟨#[46]⟩ 0 (Lib.countB s ⟨#[46]⟩) s = P := ⟨_, rfl⟩
  have hdata : P.map (fun p => p.data.toList) = piecesAt 46 s.data.toList := by
    rw [← hP, ← split_one]
    exact Lib.splitB_data _ _ _ _
  have hcnt : Lib.countB s ⟨#[46]⟩ + 1 = P.length := by
    have h1 := count_pieces 46 (s.data.toList.length + 1) s.data.toList (by omega)
    have h2 := congrArg List.length hdata
    rw [List.length_map] at h2
    rw [h2, ← h1]; rfl
  rw [hP, hcnt] at hsp
  have hlen : s.size = s.data.toList.length := size_len s
  have hlab : ∀ (j : Nat) (x : ByteArray), P[j]? = some x → ∀ W, Calls Tryz.prog 107 #[.string x] W fun e w' => e = .returned (.bool (labelB x.data.toList)) ∧ Below W.heap.size W w' := by
    intro j x hx W
    have hmem : x.data.toList ∈ piecesAt 46 s.data.toList := by rw [← hdata]; exact List.mem_map.2 ⟨x, List.mem_of_getElem? hx, rfl⟩
    have := pieces_le 46 _ _ hmem
    have hxl := size_len x
    exact addrLabel_calls x W (by omega)
  have hres : domainB s.data.toList = (P.all (fun x => labelB x.data.toList) && decide (s.size ≤ 64)) := by
    unfold domainB
    rw [← hdata, List.all_map, hlen]; rfl
  rw [hres]
  have hPl : P.length ≤ 4294967281 := by
    have h2 := congrArg List.length hdata
    rw [List.length_map] at h2
    have := count_pieces 46 (s.data.toList.length + 1) s.data.toList (by omega)
    have hle := Lib.countB_le ⟨#[46]⟩ (by decide) s.size s (Nat.le_refl _)
    omega
  have hPi : (P.length : Int) ≤ 4294967281 := by omega
  have hcell0 := fun (j : Nat) (x : ByteArray) (hx : P[j]? = some x) => (show (w.alloc (.cells (P.map Value.string).toArray 9)).cell? ⟨w.heap.size, j, none⟩ = some (.string x) by
    rw [cell_of_row _ _ _ _ _ _ (heap_alloc_new w _)]
    simp [hx])
  have Hsp := Lib.hid hsp
  have Hlab := Lib.hid hlab
  have Hcell := Lib.hid hcell0
  clear hsp hlab hcell0 hcnt hdata hres hP hlen hm
  go_enter Tryz.func96, Tryz.ntmps96
  go_wp2_with fail
  refine (Hsp.out).mono ?_; rintro e w1 ⟨rfl, rfl⟩
  go_wp2
  go_loopw [8] (fun i wr => ∃ j : Nat, j ≤ P.length ∧ i = .int .i64 j ∧ (P.take j).all (fun x => labelB x.data.toList) = true ∧ Below (w.alloc (.cells (P.map Value.string).toArray 9)).heap.size (w.alloc (.cells (P.map Value.string).toArray 9)) wr) (fun i _ => P.length - (intOf i).toNat)
  case atStart => exact ⟨0, Nat.zero_le _, rfl, rfl, Below.refl _ _⟩
  case round =>
    obtain ⟨j, hj, rfl, hall, hbw⟩ := hrel
    have hbw0 : Below w.heap.size w wr := ((Below.refl _ _).alloc (Nat.le_refl _) _).trans (hbw.mono (by simp))
    by_cases hlt : j < P.length
    · obtain ⟨x, hx⟩ : ∃ x, P[j]? = some x := ⟨_, List.getElem?_eq_getElem hlt⟩
      have hc := (hbw.cell (p := ⟨w.heap.size, j, none⟩) (by show w.heap.size < _; simp)).trans (Hcell.out j x hx)
      have hl := Hlab.out j x hx
      have htk : (P.take (j + 1)).all (fun x => labelB x.data.toList) = labelB x.data.toList := by
        rw [take_snoc hx, List.all_append, hall]; simp
      have hno : labelB x.data.toList = false → P.all (fun x => labelB x.data.toList) = false := by
        intro h; rw [List.all_eq_false]; exact ⟨x, List.mem_of_getElem? hx, by rw [h]; simp⟩
      generalize labelB x.data.toList = v at hl htk hno
      have Hl := Lib.hid hl
      have Htk := Lib.hid htk
      have Hno := Lib.hid hno
      have hj0 : (0 : Int) ≤ (j : Int) := by omega
      have hj1 : (j : Int) < (P.length : Int) := by omega
      have Hb0 := Lib.hid hbw0
      have Hbw := Lib.hid hbw
      clear hl htk hno hall hx hbw0 hbw
      cases v
      · go_wp2_with fail
        refine (Hl.out _).mono ?_; rintro e w2 ⟨rfl, hb2⟩
        go_wp2
        go_ret
        exact ⟨by rw [Hno.out (by trivial)]; rfl, Hb0.out.trans (hb2.mono Hb0.out.size)⟩
      · go_wp2_with fail
        refine (Hl.out _).mono ?_; rintro e w2 ⟨rfl, hb2⟩
        go_wp2
        go_roundw
        case rel => exact ⟨j + 1, by omega, by simp, Htk.out, Hbw.out.trans (hb2.mono Hbw.out.size)⟩
        case measure => simp [intOf] <;> omega
    · have hje : j = P.length := by omega
      subst hje
      rw [List.take_of_length_le (Nat.le_refl _)] at hall
      have Hall := Lib.hid hall
      clear hall
      by_cases h64 : (s.size : Int) ≤ 64
      · have hd : decide (s.size ≤ 64) = true := decide_eq_true (by omega)
        have Hd := Lib.hid hd
        clear hd
        go_wp2
        go_ret
        exact ⟨by rw [Hall.out, Hd.out]; simp, hbw0⟩
      · have hd : decide (s.size ≤ 64) = false := decide_eq_false (by omega)
        have Hd := Lib.hid hd
        clear hd
        go_wp2
        go_ret
        exact ⟨by rw [Hall.out, Hd.out]; simp <;> omega, hbw0⟩
end Go.Proofs.YtjddicoigbidlaaGreatDoor

set_option linter.unusedSimpArgs false
set_option linter.unusedVariables false
namespace Go.Proofs.YtjddicoigbidlaaGreatDoor
open Go.RowKit
/-- A text of bytes. -/
def strL (l : List UInt8) : ByteArray := ⟨l.toArray⟩
theorem strL_data (l : List UInt8) : (strL l).data.toList = l := by simp [strL]
theorem strL_of (s : ByteArray) : strL s.data.toList = s := by cases s; simp [strL]
theorem strL_size (l : List UInt8) : (strL l).size = l.length := by rw [size_len, strL_data]
theorem strL_inj {a b : List UInt8} (h : strL a = strL b) : a = b := by have := congrArg (fun s : ByteArray => s.data.toList) h; simpa [strL_data] using this
theorem strL_append (a b : List UInt8) : strL a ++ strL b = strL (a ++ b) := by
  have h : (strL a ++ strL b).data.toList = a ++ b := by
    rw [ByteArray.data_append, Array.toList_append, strL_data, strL_data]
  rw [← strL_of (strL a ++ strL b), h]
theorem only_ascii {o l : List UInt8} (ho : ∀ c ∈ o, c.toNat < 128) (h : onlyB o l = true) : ∀ c ∈ l, c.toNat < 128 := by
  intro c hc
  unfold onlyB at h
  have := List.all_eq_true.1 h c hc
  rcases Bool.or_eq_true _ _ ▸ this with h1 | h1
  · unfold plainB at h1
    simp only [Bool.or_eq_true, decide_eq_true_eq] at h1
    omega
  · exact ho c (by simpa using h1)
theorem pieces_all {c : UInt8} {l : List UInt8} {p : UInt8 → Prop} (hc : p c) (h : ∀ q ∈ piecesAt c l, ∀ x ∈ q, p x) : ∀ x ∈ l, p x := by
  induction l with
  | nil => intro x hx; cases hx
  | cons y ys ih =>
    by_cases hy : y = c
    · subst hy
      simp only [piecesAt, if_pos] at h
      intro x hx
      rcases List.mem_cons.1 hx with rfl | hx
      · exact hc
      · exact ih (fun q hq => h q (List.mem_cons_of_mem _ hq)) x hx
    · simp only [piecesAt, if_neg hy] at h
      cases he : piecesAt c ys with
      | nil => have := pieces_pos c ys; rw [he] at this; simp at this
      | cons q qs =>
        rw [he] at h ih
        simp only at h
        intro x hx
        have h0 := h (y :: q) List.mem_cons_self
        rcases List.mem_cons.1 hx with rfl | hx
        · exact h0 _ List.mem_cons_self
        · refine ih (fun r hr z hz => ?_) x hx
          rcases List.mem_cons.1 hr with rfl | hr
          · exact h0 z (List.mem_cons_of_mem _ hz)
          · exact h r (List.mem_cons_of_mem _ hr) z hz
theorem domain_ascii {l : List UInt8} (h : domainB l = true) : ∀ c ∈ l, c.toNat < 128 := by
  unfold domainB at h
  rw [Bool.and_eq_true] at h
  refine pieces_all (c := 46) (by decide) (fun q hq => ?_)
  have := List.all_eq_true.1 h.1 q hq
  unfold labelB at this
  rw [Bool.and_eq_true, Bool.and_eq_true] at this
  exact only_ascii (by decide) this.1.2
/-- What Split answers. -/
def splitVal : Option (List UInt8 × List UInt8) → Value
  | some p => .tuple #[.string (strL p.1), .string (strL p.2), .bool true]
  | none => .tuple #[.string ⟨#[]⟩, .string ⟨#[]⟩, .bool false]
set_option maxRecDepth 100000 in
set_option maxHeartbeats 4000000 in
theorem addrSplit_calls (s : ByteArray) (w : World) (hs : s.size < 4294967281) (hmax : MaxOk w) :
    Calls Tryz.prog 87 #[.string s] w fun e w' => e = .returned (splitVal (splitBox s.data.toList)) ∧ Below w.heap.size w w' := by
  obtain ⟨m, hm⟩ := id hmax
  have hcut := Tryz.strings_Cut s ⟨#[64]⟩ m w hs hm
  rw [show (⟨#[64]⟩ : ByteArray).data.toList = [64] from rfl, cut_one] at hcut
  have hl := size_len s
  have hix := index_one 64 s.data.toList
  unfold splitBox
  have Hmax := Lib.hid hmax
  clear hmax hm
  cases hca : cutAt 64 s.data.toList with
  | none =>
    rw [hca] at hcut
    simp only at hcut
    have Hcut := Lib.hid hcut
    clear hcut hca hix hl
    go_enter Tryz.func87, Tryz.ntmps87
    go_wp2_with fail
    refine (Hcut.out).mono ?_; rintro e w1 ⟨rfl, n, rfl⟩
    go_wp2
    go_ret3
    exact ⟨rfl, below_drewN (Below.refl _ _) _⟩
  | some p =>
    obtain ⟨a, d⟩ := p
    rw [hca] at hcut
    simp only at hcut ⊢
    have hsp : s.data.toList = a ++ 64 :: d := by
      rcases hix with ⟨h1, _⟩ | ⟨x, y, h1, h2, _⟩
      · rw [hca] at h1; cases h1
      · rw [hca] at h1; cases h1; exact h2
    have hla : (strL a).size < 4294967281 := by rw [strL_size]; have := congrArg List.length hsp; simp at this; omega
    have hld : (strL d).size < 4294967281 := by rw [strL_size]; have := congrArg List.length hsp; simp at this; omega
    have h1 := fun W hM => addrLocal_calls (strL a) W hla hM
    have h2 := fun W hM => addrDomain_calls (strL d) W hld hM
    rw [strL_data] at h1 h2
    have h3 : domainB d = true → ∀ W, Calls Tryz.prog 97 #[.string (strL d)] W fun e w' => e = .returned (.string (strL (Lib.toLowerA d))) ∧ Below W.heap.size W w' := by
      intro hd W
      have := Tryz.strings_ToLower_ascii (strL d) W (by omega) (fun j b hb => by rw [strL_data] at hb; exact domain_ascii hd b (List.mem_of_getElem? hb))
      rw [strL_data] at this
      exact this
    rw [show (⟨a.toArray⟩ : ByteArray) = strL a from rfl, show (⟨d.toArray⟩ : ByteArray) = strL d from rfl] at hcut
    have hlen : s.data.toList.length = s.size := hl.symm
    rw [hlen]
    generalize hlow : strL (Lib.toLowerA d) = low at h3
    generalize localB a = p at h1
    generalize domainB d = q at h2 h3
    have Hcut := Lib.hid hcut
    have H1 := Lib.hid h1
    have H2 := Lib.hid h2
    have Hlow := Lib.hid hlow
    have Hla := Lib.hid hla
    generalize hsa : strL a = sa at Hcut H1
    generalize hsd : strL d = sd at Hcut H2 h3
    have H3 := Lib.hid h3
    have Hsa := Lib.hid hsa
    clear hcut h1 h2 h3 hca hix hl hsp hla hld hlen hlow hsa hsd Hla
    cases p
    · go_enter Tryz.func87, Tryz.ntmps87
      go_wp2_with fail
      refine (Hcut.out).mono ?_; rintro e w1 ⟨rfl, n, rfl⟩
      have hb1 : Below w.heap.size w (w.drewN n) := below_drewN (Below.refl _ _) _
      go_wp2_with fail
      refine (H1.out _ (Hmax.out.below hb1)).mono ?_; rintro e w2 ⟨rfl, hb2⟩
      go_wp2
      go_ret3
      exact ⟨rfl, hb1.trans (hb2.mono hb1.size)⟩
    · cases q
      · go_enter Tryz.func87, Tryz.ntmps87
        go_wp2_with fail
        refine (Hcut.out).mono ?_; rintro e w1 ⟨rfl, n, rfl⟩
        have hb1 : Below w.heap.size w (w.drewN n) := below_drewN (Below.refl _ _) _
        go_wp2_with fail
        refine (H1.out _ (Hmax.out.below hb1)).mono ?_; rintro e w2 ⟨rfl, hb2⟩
        have hb2' := hb1.trans (hb2.mono hb1.size)
        go_wp2_with fail
        refine (H2.out _ (Hmax.out.below hb2')).mono ?_; rintro e w3 ⟨rfl, hb3⟩
        go_wp2
        go_ret3
        exact ⟨rfl, hb2'.trans (hb3.mono hb2'.size)⟩
      · by_cases h64 : (64 : Int) < (s.size : Int)
        · have hd : decide (s.size ≤ 64) = false := decide_eq_false (by omega)
          rw [hd]
          clear hd
          go_enter Tryz.func87, Tryz.ntmps87
          go_wp2_with fail
          refine (Hcut.out).mono ?_; rintro e w1 ⟨rfl, n, rfl⟩
          have hb1 : Below w.heap.size w (w.drewN n) := below_drewN (Below.refl _ _) _
          go_wp2_with fail
          refine (H1.out _ (Hmax.out.below hb1)).mono ?_; rintro e w2 ⟨rfl, hb2⟩
          have hb2' := hb1.trans (hb2.mono hb1.size)
          go_wp2_with fail
          refine (H2.out _ (Hmax.out.below hb2')).mono ?_; rintro e w3 ⟨rfl, hb3⟩
          go_wp2
          go_ret3
          exact ⟨rfl, hb2'.trans (hb3.mono hb2'.size)⟩
        · have hd : decide (s.size ≤ 64) = true := decide_eq_true (by omega)
          rw [hd]
          clear hd
          go_enter Tryz.func87, Tryz.ntmps87
          go_wp2_with fail
          refine (Hcut.out).mono ?_; rintro e w1 ⟨rfl, n, rfl⟩
          have hb1 : Below w.heap.size w (w.drewN n) := below_drewN (Below.refl _ _) _
          go_wp2_with fail
          refine (H1.out _ (Hmax.out.below hb1)).mono ?_; rintro e w2 ⟨rfl, hb2⟩
          have hb2' := hb1.trans (hb2.mono hb1.size)
          go_wp2_with fail
          refine (H2.out _ (Hmax.out.below hb2')).mono ?_; rintro e w3 ⟨rfl, hb3⟩
          have hb3' := hb2'.trans (hb3.mono hb2'.size)
          go_wp2_with fail
          refine (H3.out (by trivial) _).mono ?_; rintro e w4 ⟨rfl, hb4⟩
          go_wp2
          go_ret3
          exact ⟨by rw [← Hlow.out, ← Hsa.out]; rfl, hb3'.trans (hb4.mono hb3'.size)⟩
end Go.Proofs.YtjddicoigbidlaaGreatDoor

set_option linter.unusedSimpArgs false
set_option linter.unusedVariables false
namespace Go.Proofs.YtjddicoigbidlaaGreatDoor
open Go.RowKit
/-- What Parse answers. -/
def parseVal : Option (List UInt8) → Value
  | some t => .tuple #[.string (strL t), .bool true]
  | none => .tuple #[.string ⟨#[]⟩, .bool false]
theorem splitBox_len {s : List UInt8} {p : List UInt8 × List UInt8} (h : splitBox s = some p) : p.1.length ≤ 64 ∧ p.2.length ≤ 64 := by
  unfold splitBox at h
  rcases index_one 64 s with ⟨h1, _⟩ | ⟨a, d, h1, h2, _⟩
  · rw [h1] at h; cases h
  · rw [h1] at h
    simp only at h
    split at h
    · next hc =>
      cases h
      rw [Bool.and_eq_true, decide_eq_true_eq] at hc
      have := congrArg List.length h2
      simp at this
      simp only [Lib.toLowerA, List.length_map]
      omega
    · cases h
set_option maxRecDepth 100000 in
set_option maxHeartbeats 4000000 in
theorem addrParse_calls (s : ByteArray) (w : World) (hs : s.size < 4294967281) (hmax : MaxOk w) :
    Calls Tryz.prog 72 #[.string s] w fun e w' => e = .returned (parseVal (parseBox s.data.toList)) ∧ Below w.heap.size w w' := by
  have h1 := addrSplit_calls s w hs hmax
  unfold parseBox
  cases hp : splitBox s.data.toList with
  | none =>
    rw [hp] at h1
    simp only [splitVal] at h1
    have H1 := Lib.hid h1
    clear h1 hp
    go_enter Tryz.func72, Tryz.ntmps72
    go_wp2_with fail
    refine (H1.out).mono ?_; rintro e w1 ⟨rfl, hb1⟩
    go_wp2
    go_ret2
    exact ⟨rfl, hb1⟩
  | some p =>
    obtain ⟨ln1, ln2⟩ := splitBox_len hp
    obtain ⟨n, d⟩ := p
    rw [hp] at h1
    simp only [splitVal] at h1 ln1 ln2
    have e1 : ((strL n).size : Int) ≤ 8388608 := by rw [strL_size]; omega
    have e2 : ((strL d).size : Int) ≤ 8388608 := by rw [strL_size]; omega
    have e3 : ((strL n ++ ⟨#[64]⟩).size : Int) ≤ 8388608 := by
      rw [show (⟨#[64]⟩ : ByteArray) = strL [64] from rfl, strL_append, strL_size]; simp; omega
    have hsum : strL n ++ ⟨#[64]⟩ ++ strL d = strL (n ++ 64 :: d) := by
      rw [show (⟨#[64]⟩ : ByteArray) = strL [64] from rfl, strL_append, strL_append]; simp
    have Hsum := Lib.hid hsum
    have H1 := Lib.hid h1
    generalize hsn : strL n = sn at H1 e1 e3 Hsum
    generalize hsd : strL d = sd at H1 e2 Hsum
    clear h1 hp hsum hsn hsd ln1 ln2
    go_enter Tryz.func72, Tryz.ntmps72
    go_wp2_with fail
    refine (H1.out).mono ?_; rintro e w1 ⟨rfl, hb1⟩
    go_wp2
    go_ret2
    refine ⟨?_, hb1⟩
    show _ = Ending.returned (.tuple #[.string (strL (n ++ 64 :: d)), .bool true])
    rw [← Hsum.out]; rfl
theorem boxB_eq (l : List UInt8) : boxB l = (parseBox l == some l) := rfl
set_option maxRecDepth 100000 in
set_option maxHeartbeats 4000000 in
theorem envBox_calls (s : ByteArray) (w : World) (hs : s.size < 4294967281) (hmax : MaxOk w) :
    Calls Tryz.prog 48 #[.string s] w fun e w' => e = .returned (.bool (boxB s.data.toList)) ∧ Below w.heap.size w w' := by
  have h1 := addrParse_calls s w hs hmax
  unfold boxB
  cases hp : parseBox s.data.toList with
  | none =>
    rw [hp] at h1
    simp only [parseVal] at h1
    have H1 := Lib.hid h1
    clear h1 hp
    go_enter Tryz.func48, Tryz.ntmps48
    go_wp2_with fail
    refine (H1.out).mono ?_; rintro e w1 ⟨rfl, hb1⟩
    go_wp2
    go_ret
    exact ⟨rfl, hb1⟩
  | some t =>
    rw [hp] at h1
    simp only [parseVal] at h1
    have H1 := Lib.hid h1
    have hd : (some t == some s.data.toList) = ((strL t).toList == s.toList) := by
      by_cases h : t = s.data.toList
      · have h2 : strL t = s := by rw [h]; exact strL_of s
        rw [h2, h]; simp
      · have h2 : strL t ≠ s := fun e => h (by rw [← e, strL_data])
        rw [(Lib.bytes_beq_false_iff _ _).2 h2]
        simp [h]
    have Hd := Lib.hid hd
    clear h1 hp hd
    generalize strL t = st at H1 Hd
    go_enter Tryz.func48, Tryz.ntmps48
    go_wp2_with fail
    refine (H1.out).mono ?_; rintro e w1 ⟨rfl, hb1⟩
    go_wp2
    go_ret
    exact ⟨by rw [Hd.out]; rfl, hb1⟩
end Go.Proofs.YtjddicoigbidlaaGreatDoor

set_option linter.unusedSimpArgs false
set_option linter.unusedVariables false
namespace Go.Proofs.YtjddicoigbidlaaGreatDoor
open Go.RowKit
/-- Bytes, in a row of the call's own. -/
def RowDone (w : World) (bs : List UInt8) (e : Ending) (w' : World) : Prop :=
  ∃ v', e = .returned v' ∧ w'.ownsRow w.heap.size 5 1 v' bs.length (bs.map u8v) ∧ Below w.heap.size w w'
theorem num8_part (n j : Nat) (hj : j < 8) : (List.replicate (8 - j) 0 ++ (num8 n).drop (8 - j)).set (7 - j) (UInt8.ofNat (n / 2 ^ (8 * j))) = List.replicate (8 - (j + 1)) 0 ++ (num8 n).drop (8 - (j + 1)) := by
  have h1 : 8 - j = (7 - j) + 1 := by omega
  have h2 : 8 - (j + 1) = 7 - j := by omega
  have hg := num8_get n (7 - j) (by omega)
  rw [show 7 - (7 - j) = j by omega] at hg
  have hl : 7 - j < (num8 n).length := by rw [num8_length]; omega
  have hge : (num8 n)[7 - j] = UInt8.ofNat (n / 2 ^ (8 * j)) := by have := List.getElem?_eq_getElem hl; rw [this] at hg; exact Option.some.inj hg
  rw [h2, List.drop_eq_getElem_cons hl, hge, show 7 - j + 1 = 8 - j by omega, h1, List.replicate_succ', List.append_assoc, List.set_append_right _ _ (by simp)]
  simp
set_option maxRecDepth 100000 in
set_option maxHeartbeats 400000 in
theorem refNum_calls (n : Nat) (hn : n ≤ 9223372036854775807) (w : World) :
    Calls Tryz.prog 55 #[.int .i64 n] w (RowDone w (num8 n)) := by
  obtain ⟨i0, hi, hz0, hz1, hz2⟩ := info_parts infoU8
  obtain ⟨w1, hrun, hown1, hg1⟩ := run_make_full (P := Tryz.prog) w w.heap.size 23 5 i0 (.int .u8 0) 1 Tryz.underlying23 hi hz0 hz1 .i64 .i64 8 (by rw [hz2]; omega) (by decide) (Nat.le_refl _)
  have hrunL : (Instr.makeSlice 23 (.int .i64 8) (.int .i64 8)).run Tryz.prog w = .ok (.slice (some ⟨w.heap.size, 0, none⟩) 8 8) w1 := hrun
  go_enter Tryz.func55, Tryz.ntmps55
  go_wp2
  go_loopw [0, 4] (fun a i wr => ∃ j : Nat, j ≤ 8 ∧ i = .int .i64 (7 - (j : Int)) ∧ a = .int .i64 ((n / 2 ^ (8 * j) : Nat) : Int) ∧ wr.ownsRow w.heap.size 5 1 (.slice (some ⟨w.heap.size, 0, none⟩) 8 8) 8 ((List.replicate (8 - j) 0 ++ (num8 n).drop (8 - j)).map u8v) ∧ Below w.heap.size w wr) (fun _ i _ => (intOf i + 1).toNat)
  case atStart =>
    refine ⟨0, by omega, rfl, by simp, ?_, (Below.refl _ _).grown hg1 (Nat.le_refl _) (fun _ h => by cases h)⟩
    have e : (madeCells (Value.int .u8 0).cells (8 * 1)).toList = (List.replicate (8 - 0) 0 ++ (num8 n).drop (8 - 0)).map u8v := by
      rw [show (Value.int .u8 0).cells = #[Value.int .u8 0] from rfl, toList_madeCells_one, List.drop_of_length_le (by simp [num8])]; simp
    rw [← e]; exact hown1
  case round =>
    obtain ⟨j, hj, rfl, rfl, hown, hbw⟩ := hrel
    by_cases hlt : j < 8
    · obtain ⟨m, hm⟩ : ∃ m : Nat, 7 - j = m := ⟨_, rfl⟩
      have hmI : (7 : Int) - (j : Int) = (m : Int) := by omega
      have hset := num8_part n j hlt
      have hq : n / 2 ^ (8 * j) / 256 = n / 2 ^ (8 * (j + 1)) := by rw [Nat.div_div_eq_div_mul, show 8 * (j + 1) = 8 * j + 8 by omega, Nat.pow_add]
      have hqn : n / 2 ^ (8 * j) ≤ n := Nat.div_le_self _ _
      generalize n / 2 ^ (8 * j) = q at hset hq hqn
      have hu : (q : Int) % 256 = ((UInt8.ofNat q).toNat : Int) := by rw [UInt8.toNat_ofNat']; simp
      rw [hm] at hset
      have hcell := hown.cellAt m (by omega)
      have hfr := hown.frozenAt m
      obtain ⟨old, hold⟩ : ∃ old, ((List.replicate (8 - j) 0 ++ (num8 n).drop (8 - j)).map u8v)[m]? = some old := ⟨_, List.getElem?_eq_getElem (by simp [num8_length]; omega)⟩
      rw [hold] at hcell
      obtain ⟨hst, hgr⟩ := hown.stored m (u8v (UInt8.ofNat q))
      rw [← List.map_set, hset] at hst
      generalize UInt8.ofNat q = x at hu hst hgr
      have hbw3 := hbw.grown hgr (by have := hbw.size; omega) (fun q hq => by cases hq; exact Nat.le_refl _)
      have Hq := Lib.hid hq
      clear hq hset hold hown
      rw [hmI]
      go_wp2
      go_roundw
      case rel => exact ⟨j + 1, by omega, by congr 1; omega, by rw [← Hq.out]; rfl, hst, hbw3⟩
      case measure => simp [intOf] <;> omega
    · have hj8 : j = 8 := by omega
      subst hj8
      go_wp2
      go_ret
      refine ⟨_, rfl, ?_, hbw⟩
      rw [num8_length]; simpa using hown

theorem and255 (c : BitVec 32) (k : Nat) : bits .and .u32 ((c.toNat : Int) / 2 ^ k) 255 = ((UInt8.ofNat (c.toNat / 2 ^ k)).toNat : Int) := by
  have h : (c.toNat : Int) / 2 ^ k = ((c >>> k).toNat : Int) := by rw [BitVec.toNat_ushiftRight, Nat.shiftRight_eq_div_pow]; simp
  have h2 : (255 : Int) = ((255#32 : BitVec 32).toNat : Int) := rfl
  rw [h, h2, bits_and32, BitVec.toNat_and, BitVec.toNat_ushiftRight, Nat.shiftRight_eq_div_pow, UInt8.toNat_ofNat']
  congr 1
  exact Nat.and_two_pow_sub_one_eq_mod _ 8
set_option maxRecDepth 100000 in
set_option maxHeartbeats 400000 in
theorem refSum_calls (v : Value) (bs : List UInt8) (w : World) (hv : RdB w v bs) :
    Calls Tryz.prog 57 #[v] w (RowDone w (be4 (PbCrc.sum bs))) := by
  go_enter Tryz.func57, Tryz.ntmps57
  go_wp2_with fail
  refine (refCRC_calls _ _ _ hv).mono ?_; rintro e w1 ⟨rfl, rfl⟩
  obtain ⟨c, hcs⟩ : ∃ c, PbCrc.sum bs = c := ⟨_, rfl⟩
  rw [hcs]
  have hlt := c.isLt
  have u24 : (c.toNat : Int) / 16777216 = ((UInt8.ofNat (c.toNat / 2 ^ 24)).toNat : Int) := by rw [UInt8.toNat_ofNat', Nat.mod_eq_of_lt (by omega)]; simp
  have u16 : bits .and .u32 ((c.toNat : Int) / 65536) 255 = ((UInt8.ofNat (c.toNat / 2 ^ 16)).toNat : Int) := and255 c 16
  have u8' : bits .and .u32 ((c.toNat : Int) / 256) 255 = ((UInt8.ofNat (c.toNat / 2 ^ 8)).toNat : Int) := and255 c 8
  have u0 : bits .and .u32 (c.toNat : Int) 255 = ((UInt8.ofNat c.toNat).toNat : Int) := by have := and255 c 0; simpa using this
  have hfin : be4 (PbCrc.sum bs) = [UInt8.ofNat (c.toNat / 2 ^ 24), UInt8.ofNat (c.toNat / 2 ^ 16), UInt8.ofNat (c.toNat / 2 ^ 8), UInt8.ofNat c.toNat] := by rw [hcs]; rfl
  have i1 := (UInt8.ofNat (c.toNat / 2 ^ 16)).toNat_lt
  have i2 := (UInt8.ofNat (c.toNat / 2 ^ 8)).toNat_lt
  have i3 := (UInt8.ofNat c.toNat).toNat_lt
  generalize UInt8.ofNat (c.toNat / 2 ^ 24) = b0 at u24 hfin
  generalize UInt8.ofNat (c.toNat / 2 ^ 16) = b1 at u16 i1 hfin
  generalize UInt8.ofNat (c.toNat / 2 ^ 8) = b2 at u8' i2 hfin
  generalize UInt8.ofNat c.toNat = b3 at u0 i3 hfin
  have Hfin := Lib.hid hfin
  clear hfin hcs
  go_wp2
  go_ret
  refine ⟨_, rfl, by rw [Hfin.out]; exact World.ownsRow_lit w #[u8v b0, u8v b1, u8v b2, u8v b3] 4 (Nat.le_refl _) (by decide) rfl, (Below.refl _ _).alloc (Nat.le_refl _) _⟩

/-- Eight bytes, in a row of the call's own, written out. -/
def Row8 (w : World) (bs : List UInt8) (e : Ending) (w' : World) : Prop :=
  ∃ g cap, e = .returned (.slice (some ⟨g, 0, none⟩) 8 cap) ∧ w'.ownsRow w.heap.size 5 1 (.slice (some ⟨g, 0, none⟩) 8 cap) 8 (bs.map u8v) ∧ Below w.heap.size w w' ∧ w.heap.size ≤ g
theorem refNum8 (n : Nat) (hn : n ≤ 9223372036854775807) (w : World) : Calls Tryz.prog 55 #[.int .i64 n] w (Row8 w (num8 n)) := by
  refine (refNum_calls n hn w).mono ?_
  rintro e w1 ⟨v, rfl, hown, hb⟩
  rw [num8_length] at hown
  obtain ⟨g, cap, rfl, hg, _, _, _⟩ := own_form hown (by decide)
  exact ⟨g, cap, rfl, hown, hb, hg⟩
/-- Three cells below what a call has made, and nothing old has turned. -/
def Cells3 (w0 w : World) (x y z : Value) : Prop := w.cell? ⟨w0.heap.size, 0, none⟩ = some x ∧ w.cell? ⟨w0.heap.size, 1, none⟩ = some y ∧ w.cell? ⟨w0.heap.size, 2, none⟩ = some z ∧ Below w0.heap.size w0 w
theorem Cells3.lt {w0 w : World} {x y z : Value} (h : Cells3 w0 w x y z) : w0.heap.size < w.heap.size := World.block_lt_of_cell? w ⟨w0.heap.size, 0, none⟩ h.1
theorem keep3 {w0 w1 w2 : World} {x y z : Value} (h : Cells3 w0 w1 x y z) (hb : Below w1.heap.size w1 w2) : Cells3 w0 w2 x y z := by
  have hl := h.lt
  obtain ⟨h1, h2, h3, h4⟩ := h
  have hc := (below_cell hb).1
  exact ⟨by rw [hc _ _ hl]; exact h1, by rw [hc _ _ hl]; exact h2, by rw [hc _ _ hl]; exact h3, h4.trans (hb.mono h4.size)⟩
theorem keep3g {w0 w1 w2 : World} {row : Option Nat} {x y z : Value} (h : Cells3 w0 w1 x y z) (hg : w1.grownBy w2 row) (hr : ∀ k, row = some k → w0.heap.size < k) : Cells3 w0 w2 x y z := by
  have hne : some w0.heap.size ≠ row := fun e => by have := hr _ e.symm; omega
  exact ⟨hg.cell h.1 hne, hg.cell h.2.1 hne, hg.cell h.2.2.1 hne, h.2.2.2.grown hg h.2.2.2.size (fun k hk => Nat.le_of_lt (hr k hk))⟩
/-- The cells of an owned row, as an append takes them. -/
theorem news_own {w : World} {base g n cap : Nat} {xs : List Value} (h : w.ownsRow base 5 1 (.slice (some ⟨g, 0, none⟩) n cap) n xs) : ∀ j u, xs[j]? = some u → w.cell? ((⟨g, 0, none⟩ : Addr).add j) = some u := by
  intro j u hu
  rw [add_at, Nat.zero_add, h.cellAt j (by have := (List.getElem?_eq_some_iff.1 hu).1; rw [h.1] at this; exact this)]
  exact hu
/-- One owned row of bytes appended to another one, at a step of a region that draws its order. -/
theorem step_app_own {ops : Array Oper} {o : Oper} {a : Act} {K : Act → World → Prop} {Q : Exit → Act → World → Prop} {E : Prop} (hgd : o.guard = none) (s x : Operand)
    (ho : o.op = .call { callee := .builtin .append, args := #[s, x], argTypes := #[23, 23] }) {w : World} {base base2 n1 n2 g1 g2 cap1 cap2 : Nat} {xs ys : List UInt8}
    (hs : a.eval s = .slice (some ⟨g1, 0, none⟩) n1 cap1) (hx : a.eval x = .slice (some ⟨g2, 0, none⟩) n2 cap2)
    (hown1 : w.ownsRow base 5 1 (.slice (some ⟨g1, 0, none⟩) n1 cap1) n1 (xs.map u8v)) (hown2 : w.ownsRow base2 5 1 (.slice (some ⟨g2, 0, none⟩) n2 cap2) n2 (ys.map u8v)) (hm : 0 < n2) (hsmall : n1 + n2 ≤ 1099511627776)
    (h : ∀ g cap w', w'.ownsRow base 5 1 (.slice (some ⟨g, 0, none⟩) (n1 + n2) cap) (n1 + n2) ((xs ++ ys).map u8v) → w.grownBy w' (some g1) → (g = g1 ∨ g = w.heap.size) → g < w'.heap.size → K (a.put o.dst (.slice (some ⟨g, 0, none⟩) (n1 + n2) cap)) w') :
    if Region.wanted o (yielded ops a.tmps) = true then Oper.wp Tryz.prog o a w K Q else E := by
  obtain ⟨i0, hi, hz0, hz1, hz2⟩ := info_parts infoU8
  have hl := hown2.1
  have hb1 := (hown1.lt g1 rfl)
  refine step_append_lies w hgd s x 23 ho base 5 i0 (.int .u8 0) 1 1 Tryz.underlying23 hi hz0 hz1 hz2 rfl (by decide) _ n1 (xs.map u8v) hs hown1 ⟨g2, 0, none⟩ n2 cap2 (ys.map u8v) hx hl (news_own hown2) (one_u8 ys) hm (by unfold maxLen; omega) (by omega) (by omega) w.heap.size rfl ?_
  intro g cap w' h2 h3 h4 h5
  refine h g cap w' (by rw [List.map_append]; exact h2) h3 ?_ h5
  rcases h4 with h4 | h4
  · cases h4; exact .inl rfl
  · exact .inr h4
set_option maxRecDepth 100000 in
set_option maxHeartbeats 1000000 in
theorem refMark_calls (k : MarkD) (w : World) (h1 : 0 ≤ k.kind) (h2 : k.kind ≤ 9223372036854775807) (h3 : 0 ≤ k.rcpt) (h4 : k.rcpt ≤ 9223372036854775807) (h5 : 0 ≤ k.n) (h6 : k.n ≤ 9223372036854775807) :
    Calls Tryz.prog 28 #[k.val] w (RowDone w k.bytes) := by
  obtain ⟨kind, rcpt, n⟩ := k
  obtain ⟨kn, rfl⟩ := Int.eq_ofNat_of_zero_le h1
  obtain ⟨rn, rfl⟩ := Int.eq_ofNat_of_zero_le h3
  obtain ⟨nn, rfl⟩ := Int.eq_ofNat_of_zero_le h5
  simp only at h1 h2 h3 h4 h5 h6
  obtain ⟨i0, hi, hz0, hz1, hz2⟩ := info_parts infoU8
  have hl := num8_length
  go_enter Tryz.func28, Tryz.ntmps28
  go_wp2
  go_region_held3 (fun w' => w'.cell? ⟨w.heap.size, 0, none⟩ = some (.int .i64 (kn : Int)) ∧ w'.cell? ⟨w.heap.size, 1, none⟩ = some (.int .i64 (rn : Int)) ∧ w'.cell? ⟨w.heap.size, 2, none⟩ = some (.int .i64 (nn : Int)) ∧ Below w.heap.size w w') (first | exact ⟨by go_simp, by go_simp, by go_simp, ((Below.refl _ _).alloc (Nat.le_refl _) _).drew⟩ | exact keep3 (by assumption) (by assumption) | exact keep3g (by assumption) (by assumption) (by intro k hk; cases hk; omega))
    (first
      | (go_at_call 55; refine (refNum8 _ (by omega) _).mono ?_; rintro e w2 ⟨g, cap, rfl, hown, hb, hg⟩; have hBg := Nat.lt_of_lt_of_le (Cells3.lt (x := .int .i64 (kn : Int)) (y := .int .i64 (rn : Int)) (z := .int .i64 (nn : Int)) (by assumption)) hg)
      | (refine step_app_own rfl (.tmp 6) (.tmp 9) rfl (by rfl) (by rfl) (by first | assumption | exact own_below (by assumption) (by assumption) (Nat.le_refl _)) (by assumption) (by decide) (by decide) ?_; rintro g cap w4 hown4 hg4 hat4 hlt4; have hBc := Cells3.lt (x := .int .i64 (kn : Int)) (y := .int .i64 (rn : Int)) (z := .int .i64 (nn : Int)) (by assumption); have hBg4 : w.heap.size < g := by omega)
      | (refine step_app_own rfl (.tmp 10) (.tmp 13) rfl (by rfl) (by rfl) (by first | assumption | exact own_below (by assumption) (by assumption) (Nat.le_refl _)) (by assumption) (by decide) (by decide) ?_; rintro g cap w4 hown4 hg4 hat4 hlt4; have hBc := Cells3.lt (x := .int .i64 (kn : Int)) (y := .int .i64 (rn : Int)) (z := .int .i64 (nn : Int)) (by assumption); have hBg4 : w.heap.size < g := by omega))
  obtain ⟨_, _, _, hbel⟩ := (by assumption : Cells3 w w4 (.int .i64 (kn : Int)) (.int .i64 (rn : Int)) (.int .i64 (nn : Int)))
  have hown5 : w4.ownsRow w.heap.size 5 1 (.slice (some ⟨g, 0, none⟩) 24 cap) 24 ((MarkD.body ⟨kn, rn, nn⟩).map u8v) := own_mono hown4 (by simp)
  go_wp2_with fail
  refine (refSum_calls _ _ _ (rdB_ofOwn hown5)).mono ?_; rintro e w5 ⟨v5, rfl, hown6, hb6⟩
  have hs4 := hbel.size
  have hs5 := hb6.size
  have hown7 := own_below hown5 hb6 (Nat.le_refl _)
  have hl4 : (be4 (PbCrc.sum (MarkD.body ⟨kn, rn, nn⟩))).length = 4 := rfl
  rw [hl4] at hown6
  obtain ⟨g6, cap6, rfl, _, _, _, _⟩ := own_form hown6 (by decide)
  have h63 : 24 + 4 ≤ maxLen := by decide
  have hbs : w.heap.size ≤ w5.heap.size := by omega
  go_wp2_with (at_builtin; go_must (refine wpList_append_own _ rfl (.tmp 15) (.tmp 17) 23 rfl w.heap.size 5 i0 (.int .u8 0) 1 1 Tryz.underlying23 hi hz0 hz1 hz2 rfl (by decide) _ _ _ rfl hown7 ⟨g6, 0, none⟩ 4 cap6 ((be4 (PbCrc.sum (MarkD.body ⟨kn, rn, nn⟩))).map u8v) rfl rfl (news_own hown6) (one_u8 _) h63 (by decide) hbs ?_); rintro v3 w6 hown8 hg8 _)
  go_ret
  refine ⟨v3, rfl, ?_, ?_⟩
  · rw [bytes_length]; simpa [MarkD.bytes] using hown8
  · exact Below.grown (hbel.trans (hb6.mono hs4)) hg8 (by omega) (fun k hk => own_base hown7 k hk)
end Go.Proofs.YtjddicoigbidlaaGreatDoor

set_option linter.unusedSimpArgs false
set_option linter.unusedVariables false
namespace Go.Proofs.YtjddicoigbidlaaGreatDoor
open Go.RowKit
theorem run_index_at {s : ByteArray} {j : Nat} {c : UInt8} (h : s.data.toList[j]? = some c) (w : World) :
    (Instr.index 9 (.string s) (.int .i64 (j : Int))).run Tryz.prog w = .ok (.int .u8 c.toNat) w := by
  have hj : j < s.size := by rw [size_len]; exact (List.getElem?_eq_some_iff.1 h).1
  have hg := get_byte s j hj
  rw [h] at hg
  have hc : s[j]'hj = c := (Option.some.inj hg).symm
  have hq : s[j]? = some c := by rw [getElem?_pos s j hj, hc]
  simp [Instr.index, asIntOf, run_underlying Tryz.underlying9, go_sem, hq]
theorem run_slice_at {s : ByteArray} {a b : Nat} (hab : a ≤ b) (hb : b ≤ s.size) (w : World) :
    (Instr.slice 9 (.string s) (some (.int .i64 (a : Int))) (some (.int .i64 (b : Int))) none).run Tryz.prog w = .ok (.string (strL ((s.data.toList.take b).drop a))) w := by
  rw [run_slice_string_if w 9 s .i64 .i64 a b Tryz.underlying9]
  rw [if_pos ⟨by omega, by omega⟩, if_pos ⟨by omega, by omega⟩]
  congr 2
  have : (s.extract a b).data.toList = (s.data.toList.take b).drop a := by
    rw [ByteArray.data_extract, Array.toList_extract, List.extract_eq_take_drop, List.drop_take]
  rw [Int.toNat_natCast, Int.toNat_natCast, ← this, strL_of]
set_option maxRecDepth 100000 in
set_option maxHeartbeats 4000000 in
theorem refPlain_calls (c : UInt8) (w : World) :
    Calls Tryz.prog 98 #[.int .u8 c.toNat] w fun e w' => e = .returned (.bool (plainB c)) ∧ w' = w := by
  rw [plain_iff]
  have hc := c.toNat_lt
  generalize c.toNat = r at hc
  by_cases a1 : 97 ≤ r <;> by_cases a2 : r ≤ 122 <;> by_cases b1 : 65 ≤ r <;> by_cases b2 : r ≤ 90 <;> by_cases c1 : 48 ≤ r <;> by_cases c2 : r ≤ 57
  all_goals first | omega | skip
  all_goals
    have hv : plainR r = (decide (97 ≤ r ∧ r ≤ 122) || decide (65 ≤ r ∧ r ≤ 90) || decide (48 ≤ r ∧ r ≤ 57)) := rfl
    simp only [a1, a2, b1, b2, c1, c2, and_self, and_true, true_and, and_false, false_and, decide_true, decide_false, Bool.or_true, Bool.true_or, Bool.or_false, Bool.false_or] at hv
    rw [hv]
    clear hv
    go_enter Tryz.func98, Tryz.ntmps98
    go_wp2
    go_ret
    first
    | exact ⟨rfl, rfl⟩
    | (refine ⟨?_, rfl⟩; congr 2; simp; omega)
theorem pieces_snoc (c x : UInt8) (l : List UInt8) : ∃ ms m, piecesAt c l = ms ++ [m] ∧ piecesAt c (l ++ [x]) = if x = c then ms ++ [m] ++ [[]] else ms ++ [m ++ [x]] := by
  induction l with
  | nil =>
    refine ⟨[], [], rfl, ?_⟩
    by_cases h : x = c <;> simp [piecesAt, h]
  | cons y ys ih =>
    obtain ⟨ms, m, h1, h2⟩ := ih
    by_cases hy : y = c
    · refine ⟨[] :: ms, m, by simp [piecesAt, hy, h1], ?_⟩
      simp only [List.cons_append, piecesAt, if_pos hy, h2]
      split <;> simp
    · cases ms with
      | nil =>
        refine ⟨[], y :: m, by simp [piecesAt, hy, h1], ?_⟩
        by_cases hx : x = c
        · rw [if_pos hx] at h2 ⊢; simp [piecesAt, hy, h2]
        · rw [if_neg hx] at h2 ⊢; simp [piecesAt, hy, h2]
      | cons q qs =>
        refine ⟨(y :: q) :: qs, m, by simp [piecesAt, hy, h1], ?_⟩
        by_cases hx : x = c
        · rw [if_pos hx] at h2 ⊢; simp [piecesAt, hy, h2]
        · rw [if_neg hx] at h2 ⊢; simp [piecesAt, hy, h2]
theorem nil_row0 (w : World) (base size : Nat) (e : TypeId) : w.ownsRow base e size (.slice none 0 0) 0 [] := ⟨by simp, .inl ⟨rfl, rfl⟩⟩
def s1 (l : List UInt8) : List Value := [.string (strL l)]
theorem s1_len (l : List UInt8) : (s1 l).length = 1 := rfl
theorem s1_one (ls : List (List UInt8)) : ∀ c ∈ ls.flatMap s1, c.oneCell' = true := by
  intro c hc
  obtain ⟨l, _, h⟩ := List.mem_flatMap.1 hc
  rw [s1, List.mem_singleton] at h
  subst h; rfl
theorem infoStr : (Tryz.prog.info? 9).map (fun i => (i.zero, i.size, i.bytes)) = some (some (.string ByteArray.empty), 1, 16) := by kernel_rfl
/-- Texts in a row of the call's own. -/
def StrsDone (w : World) (ls : List (List UInt8)) (e : Ending) (w' : World) : Prop :=
  ∃ v, e = .returned v ∧ w'.ownsRow w.heap.size 9 1 v ls.length (ls.flatMap s1) ∧ Below w.heap.size w w'
set_option maxRecDepth 100000 in
set_option maxHeartbeats 4000000 in
theorem refCut_calls (s : ByteArray) (c : UInt8) (w : World) (hs : s.size ≤ 4294967281) :
    Calls Tryz.prog 99 #[.string s, .int .u8 c.toNat] w (StrsDone w (piecesAt c s.data.toList)) := by
  obtain ⟨i0, hi, hz0, hz1, hz2⟩ := info_parts infoStr
  have hlen := size_len s
  obtain ⟨l, hl⟩ : ∃ l, s.data.toList = l := ⟨_, rfl⟩
  have hidx := fun (j : Nat) (x : UInt8) (h : s.data.toList[j]? = some x) => run_index_at h
  have hslc := fun (a b : Nat) (h1 : a ≤ b) (h2 : b ≤ s.size) => run_slice_at (s := s) h1 h2
  rw [hl] at hidx hslc hlen ⊢
  obtain ⟨n, hn⟩ : ∃ n, s.size = n := ⟨_, rfl⟩
  rw [hn] at hslc hlen hs
  have Hidx := Lib.hid hidx
  have Hslc := Lib.hid hslc
  have hni : (n : Int) ≤ 4294967281 := by omega
  have hsz : (s.size : Int) = (n : Int) := by rw [hn]
  have Hlen := Lib.hid hlen
  clear hidx hslc hl hn hlen
  go_enter Tryz.func99, Tryz.ntmps99
  go_wp2
  go_loopw [5, 6, 7] (fun o a i wr => ∃ (j : Nat) (out : List (List UInt8)), j ≤ n + 1 ∧ i = .int .i64 j ∧ wr.ownsRow w.heap.size 9 1 o out.length (out.flatMap s1) ∧ out.length ≤ j ∧ Below w.heap.size w wr ∧
      ((j = n + 1 ∧ out = piecesAt c l) ∨ (∃ b : Nat, j ≤ n ∧ b ≤ j ∧ a = .int .i64 b ∧ piecesAt c (l.take j) = out ++ [(l.take j).drop b]))) (fun _ _ i _ => n + 1 - (intOf i).toNat)
  case atStart => exact ⟨0, [], by omega, rfl, nil_row0 w _ _ _, Nat.le_refl _, Below.refl _ _, .inr ⟨0, Nat.zero_le _, Nat.le_refl _, rfl, rfl⟩⟩
  case round =>
    obtain ⟨j, out, hj, rfl, hown, hol, hbw, hst⟩ := hrel
    by_cases hjn : j ≤ n
    · obtain ⟨b, _, hbj, rfl, hpc⟩ := hst.resolve_left (fun h => by omega)
      have hsl := Hslc.out b j hbj hjn
      obtain ⟨pc, hpcd⟩ : ∃ pc, (l.take j).drop b = pc := ⟨_, rfl⟩
      rw [hpcd] at hsl hpc
      have Hpc := Lib.hid hpc
      have Hpcd := Lib.hid hpcd
      clear hpc hpcd hst
      have hji : (j : Int) ≤ (n : Int) := by omega
      by_cases hje : j = n
      · subst hje
        have hncell := news_new wr (s1 pc) 9 (0, 0)
        have Hncell := Lib.hid hncell
        have hcs1 : ∀ u ∈ s1 pc, u.oneCell' = true := by intro u hu; exact s1_one [pc] u (by simpa using hu)
        have Hcs1 := Lib.hid hcs1
        have hbd1 : out.length + 1 ≤ maxLen := by show out.length + 1 ≤ 9223372036854775807; omega
        have hbd2 : (out.length + 1) * 16 ≤ 140737488355328 := by omega
        have hbd3 : w.heap.size ≤ (wr.alloc (.cells #[.string (strL pc)] 9)).heap.size := by have := hbw.size; simp; omega
        have Hown := Lib.hid hown
        clear hncell hcs1
        go_wp2_with (at_builtin; go_must (refine wpList_append_own _ rfl _ _ 22 rfl w.heap.size 9 i0 _ 1 16 Tryz.underlying22 hi hz0 hz1 hz2 rfl (by decide) _ _ _ rfl (hown.alloc _) ⟨wr.heap.size, 0, none⟩ 1 1 (s1 pc) rfl rfl Hncell.out Hcs1.out hbd1 hbd2 hbd3 ?_); rintro v' w3 hown3 hg3 _)
        have hrow3 : w3.ownsRow w.heap.size 9 1 v' (out ++ [pc]).length ((out ++ [pc]).flatMap s1) := by
          rw [List.length_append, List.flatMap_append, List.flatMap_singleton]; exact hown3
        have hb3 : Below w.heap.size w w3 := Below.grown (hbw.alloc hbw.size _) hg3 (by have := hbw.size; simp; omega) (fun k hk => own_base hown k hk)
        go_roundw
        case rel =>
          refine ⟨j + 1, out ++ [pc], by omega, by simp, hrow3, by simp; omega, hb3, .inl ⟨rfl, ?_⟩⟩
          rw [← Hpc.out, List.take_of_length_le (by rw [← Hlen.out]; exact Nat.le_refl _)]
        case measure => simp [intOf] <;> omega
      · obtain ⟨x, hx⟩ : ∃ x, l[j]? = some x := ⟨_, List.getElem?_eq_getElem (by rw [← Hlen.out]; omega)⟩
        have hix := Hidx.out j x hx
        have hjl : (j : Int) < (n : Int) := by omega
        obtain ⟨ms, m, q1, q2⟩ := pieces_snoc c x (l.take j)
        rw [Hpc.out] at q1
        obtain ⟨hms, hm⟩ := List.append_inj' q1 rfl
        have hm' : pc = m := by simpa using hm
        subst hms
        subst hm'
        rw [← take_snoc hx] at q2
        have Hq2 := Lib.hid q2
        have Hx := Lib.hid hx
        clear q1 q2 hm hx
        by_cases hxc : x = c
        · subst hxc
          have hncell := news_new wr (s1 pc) 9 (0, 0)
          have Hncell := Lib.hid hncell
          have hcs1 : ∀ u ∈ s1 pc, u.oneCell' = true := by intro u hu; exact s1_one [pc] u (by simpa using hu)
          have Hcs1 := Lib.hid hcs1
          have hbd1 : out.length + 1 ≤ maxLen := by show out.length + 1 ≤ 9223372036854775807; omega
          have hbd2 : (out.length + 1) * 16 ≤ 140737488355328 := by omega
          have hbd3 : w.heap.size ≤ (wr.alloc (.cells #[.string (strL pc)] 9)).heap.size := by have := hbw.size; simp; omega
          have Hown := Lib.hid hown
          clear hncell hcs1
          go_wp2_with (at_builtin; go_must (refine wpList_append_own _ rfl _ _ 22 rfl w.heap.size 9 i0 _ 1 16 Tryz.underlying22 hi hz0 hz1 hz2 rfl (by decide) _ _ _ rfl (hown.alloc _) ⟨wr.heap.size, 0, none⟩ 1 1 (s1 pc) rfl rfl Hncell.out Hcs1.out hbd1 hbd2 hbd3 ?_); rintro v' w3 hown3 hg3 _)
          have hrow3 : w3.ownsRow w.heap.size 9 1 v' (out ++ [pc]).length ((out ++ [pc]).flatMap s1) := by
            rw [List.length_append, List.flatMap_append, List.flatMap_singleton]; exact hown3
          have hb3 : Below w.heap.size w w3 := Below.grown (hbw.alloc hbw.size _) hg3 (by have := hbw.size; simp; omega) (fun k hk => own_base hown k hk)
          go_roundw
          case rel =>
            refine ⟨j + 1, out ++ [pc], by omega, by simp, hrow3, by simp; omega, hb3, .inr ⟨j + 1, by omega, Nat.le_refl _, by simp, ?_⟩⟩
            have h := Hq2.out
            rw [if_pos rfl] at h
            rw [h, List.drop_of_length_le (by rw [List.length_take]; omega)]
          case measure => simp [intOf] <;> omega
        · have hne : ¬ ((x.toNat : Int) = (c.toNat : Int)) := fun h => hxc (UInt8.toNat.inj (by omega))
          have hq1 : ((j : Int) == (n : Int)) = false := by simp; omega
          have hq2 : ((x.toNat : Int) == (c.toNat : Int)) = false := by simpa using hne
          have Hxc := Lib.hid hxc
          clear hxc
          go_wp2
          go_roundw
          case rel =>
            refine ⟨j + 1, out, by omega, by simp, hown, by omega, hbw, .inr ⟨b, by omega, by omega, rfl, ?_⟩⟩
            have h := Hq2.out
            rw [if_neg Hxc.out] at h
            rw [h, take_snoc Hx.out, List.drop_append_of_le_length (by rw [List.length_take, ← Hlen.out]; omega), Hpcd.out]
          case measure => simp [intOf] <;> omega
    · obtain ⟨hje, hout⟩ := hst.resolve_right (fun ⟨b, h, _⟩ => hjn h)
      have Hout := Lib.hid hout
      have hji : (n : Int) < (j : Int) := by omega
      clear hout hst hje
      go_wp2
      go_ret
      exact ⟨_, rfl, by rw [← Hout.out]; exact hown, hbw⟩
end Go.Proofs.YtjddicoigbidlaaGreatDoor

set_option linter.unusedSimpArgs false
set_option linter.unusedVariables false
namespace Go.Proofs.YtjddicoigbidlaaGreatDoor
open Go.RowKit
theorem s1_flat (ls : List (List UInt8)) : ls.flatMap s1 = ls.map fun l => Value.string (strL l) := by
  induction ls with
  | nil => rfl
  | cons x xs ih => rw [List.flatMap_cons, ih]; rfl
theorem eq45 (c k : UInt8) : ((c.toNat : Int) == (k.toNat : Int)) = (c == k) := by
  by_cases h : c = k
  · subst h; simp
  · have h1 : ¬ ((c.toNat : Int) = (k.toNat : Int)) := fun e => h (UInt8.toNat.inj (by omega))
    rw [show (c == k) = false by simpa using h]
    simpa using h1
def okB (k c : UInt8) : Bool := plainB c || c == k
theorem only_one (k : UInt8) (l : List UInt8) : onlyB [k] l = l.all (okB k) := by
  unfold onlyB okB
  congr 1
  funext c
  simp
  by_cases h : c = k <;> simp [h]
set_option maxRecDepth 100000 in
set_option maxHeartbeats 8000000 in
theorem refDomain_calls (s : ByteArray) (w : World) (hs : s.size ≤ 4294967280) :
    Calls Tryz.prog 92 #[.string s] w fun e w' => e = .returned (.bool (domainB s.data.toList)) ∧ Below w.heap.size w w' := by
  have hcut := refCut_calls s 46 w (by omega)
  have hlen := size_len s
  have hpos := pieces_pos 46 s.data.toList
  have hple := pieces_le 46 s.data.toList
  have hcnt := count_pieces 46 (s.data.toList.length + 1) s.data.toList (by omega)
  have hcle := Lib.countB_le ⟨#[46]⟩ (by decide) s.size s (Nat.le_refl _)
  have hres : domainB s.data.toList = ((piecesAt 46 s.data.toList).all labelB && decide (s.size ≤ 64)) := by rw [hlen]; rfl
  have hPl : (piecesAt 46 s.data.toList).length ≤ 4294967281 := by
    have : Lib.countB s ⟨#[46]⟩ = Lib.countFrom [46] (s.data.toList.length + 1) s.data.toList := rfl
    omega
  rw [hres]
  generalize piecesAt 46 s.data.toList = ls at hcut hpos hple hPl
  have Hcut := Lib.hid hcut
  have Hple := Lib.hid hple
  have Hlen := Lib.hid hlen
  clear hcut hple hlen hcnt hcle hres
  have hPi : (ls.length : Int) ≤ 4294967281 := by omega
  go_enter Tryz.func92, Tryz.ntmps92
  go_wp2_with fail
  refine (Hcut.out).mono ?_; rintro e w1 ⟨v, rfl, hown, hb1⟩
  obtain ⟨g, cap, rfl, _, _, _, _⟩ := own_form hown hpos
  have hcell : ∀ (j : Nat) x, ls[j]? = some x → w1.cell? ⟨g, j, none⟩ = some (.string (strL x)) := by
    intro j x hx
    rw [hown.cellAt j (by have := (List.getElem?_eq_some_iff.1 hx).1; omega), s1_flat, List.getElem?_map, hx]; rfl
  have Hcell := Lib.hid hcell
  clear hcell hown
  go_wp2
  go_loop [4] (fun i => ∃ j : Nat, j ≤ ls.length ∧ i = .int .i64 j ∧ (ls.take j).all labelB = true) (fun i => ls.length - (intOf i).toNat)
  case atStart => exact ⟨0, Nat.zero_le _, rfl, rfl⟩
  case round =>
    obtain ⟨j, hj, rfl, hall⟩ := hrel
    by_cases hlt : j < ls.length
    · obtain ⟨x, hx⟩ : ∃ x, ls[j]? = some x := ⟨_, List.getElem?_eq_getElem hlt⟩
      have hc := Hcell.out j x hx
      have hxl := Hple.out x (List.mem_of_getElem? hx)
      have hsx := strL_size x
      have htk : labelB x = true → (ls.take (j + 1)).all labelB = true := fun h => by rw [take_snoc hx, List.all_append, hall]; simpa using h
      have hno : labelB x = false → (ls.all labelB && decide (s.size ≤ 64)) = false := by
        intro h
        have : ls.all labelB = false := by rw [List.all_eq_false]; exact ⟨x, List.mem_of_getElem? hx, by rw [h]; simp⟩
        rw [this]; rfl
      have Htk := Lib.hid htk
      have Hno := Lib.hid hno
      have hidx : ∀ (k : Nat) (c : UInt8), x[k]? = some c → ∀ W, (Instr.index 9 (.string (strL x)) (.int .i64 (k : Int))).run Tryz.prog W = .ok (.int .u8 c.toNat) W := fun k c h => run_index_at (by rw [strL_data]; exact h)
      have Hidx := Lib.hid hidx
      have hj0 : (0 : Int) ≤ (j : Int) := by omega
      have hj1 : (j : Int) < (ls.length : Int) := by omega
      have hxs : x.length ≤ 4294967280 := by have := Hlen.out; omega
      clear hidx htk hno hall hx hxl
      generalize hsd : strL x = sx at hc hsx Hidx
      clear hsd
      by_cases h0 : x.length = 0
      · have hlab : labelB x = false := by unfold labelB; rw [decide_eq_false (by omega)]; rfl
        have Hr := Lib.hid (Hno.out hlab)
        rw [h0] at hsx
        clear hlab h0
        go_wp2
        go_ret
        exact ⟨by rw [Hr.out]; rfl, hb1⟩
      · obtain ⟨n, hm⟩ : ∃ n, x.length = n := ⟨_, rfl⟩
        rw [hm] at hsx hxs h0
        have hmi : (n : Int) ≤ 4294967280 := by omega
        have hn1 : (1 : Int) ≤ (n : Int) := by omega
        clear hxs
        by_cases h32 : (32 : Int) < (n : Int)
        · have hlab : labelB x = false := by unfold labelB; rw [decide_eq_false (by omega)]; rfl
          have Hr := Lib.hid (Hno.out hlab)
          clear hlab h0 hm
          go_wp2
          go_ret
          exact ⟨by rw [Hr.out]; rfl, hb1⟩
        · obtain ⟨c0, hc0⟩ : ∃ c, x[0]? = some c := ⟨_, List.getElem?_eq_getElem (by omega)⟩
          obtain ⟨c1, hc1⟩ : ∃ c, x[n - 1]? = some c := ⟨_, List.getElem?_eq_getElem (by omega)⟩
          have hi0 : ∀ W, (Instr.index 9 (.string sx) (.int .i64 0)).run Tryz.prog W = .ok (.int .u8 c0.toNat) W := Hidx.out 0 c0 hc0
          have hi1 : ∀ W, (Instr.index 9 (.string sx) (.int .i64 ((n : Int) - 1))).run Tryz.prog W = .ok (.int .u8 c1.toNat) W := by
            have h := Hidx.out (n - 1) c1 hc1
            rw [show ((n - 1 : Nat) : Int) = (n : Int) - 1 by omega] at h
            exact h
          have hq0 : ((c0.toNat : Int) == 45) = (c0 == 45) := eq45 c0 45
          have hq1 : ((c1.toNat : Int) == 45) = (c1 == 45) := eq45 c1 45
          have hends : endsB 45 x = (c0 == 45 || c1 == 45) := by
            unfold endsB
            rw [List.head?_eq_getElem?, hc0, List.getLast?_eq_getElem?, hm, hc1]; rfl
          have hlab : labelB x = (x.all (okB 45) && !(c0 == 45 || c1 == 45)) := by
            unfold labelB
            rw [decide_eq_true (by omega), only_one, hends]; simp
          have hlab2 : labelB x = (x.all (okB 45) && !(c0 == 45 || c1 == 45)) := hlab
          have Hlab := Lib.hid hlab2
          clear hlab hlab2 hends hc0 hc1 h0
          cases hv0 : (c0 == 45)
          · cases hv1 : (c1 == 45)
            · rw [hv0] at hq0
              rw [hv1] at hq1
              have hlx : labelB x = x.all (okB 45) := by rw [Hlab.out, hv0, hv1]; simp
              have Hlx := Lib.hid hlx
              have Hm := Lib.hid hm
              clear hlx hv0 hv1 hm Hlab
              go_wp2
              go_loop [6] (fun i => ∃ k : Nat, k ≤ n ∧ i = .int .i64 k ∧ (x.take k).all (okB 45) = true) (fun i => n - (intOf i).toNat)
              case atStart => exact ⟨0, Nat.zero_le _, rfl, rfl⟩
              case round =>
                obtain ⟨k, hk, rfl, hka⟩ := hrel
                by_cases hkl : k < n
                · obtain ⟨c, hcx⟩ : ∃ c, x[k]? = some c := ⟨_, List.getElem?_eq_getElem (by rw [Hm.out]; exact hkl)⟩
                  have hik := Hidx.out k c hcx
                  have hpl := fun W => refPlain_calls c W
                  have hqc : ((c.toNat : Int) == 45) = (c == 45) := eq45 c 45
                  have hstep : okB 45 c = true → (x.take (k + 1)).all (okB 45) = true := fun h => by rw [take_snoc hcx, List.all_append, hka]; simpa using h
                  have hbad : okB 45 c = false → x.all (okB 45) = false := fun h => by rw [List.all_eq_false]; exact ⟨c, List.mem_of_getElem? hcx, by rw [h]; simp⟩
                  unfold okB at hstep hbad
                  have Hstep := Lib.hid hstep
                  have Hbad := Lib.hid hbad
                  have hki : (k : Int) < (n : Int) := by omega
                  clear hstep hbad hcx hka
                  generalize plainB c = p at hpl Hstep Hbad
                  have Hpl := Lib.hid hpl
                  clear hpl
                  cases p
                  · cases hvc : (c == 45)
                    · rw [hvc] at hqc
                      have hres : x.all (okB 45) = false := Hbad.out (by rw [hvc]; rfl)
                      have Hr := Lib.hid (Hno.out (by rw [Hlx.out]; exact hres))
                      clear hres hvc
                      go_wp2_with fail
                      refine (Hpl.out _).mono ?_; rintro e w2 ⟨rfl, rfl⟩
                      go_wp2
                      go_ret
                      exact ⟨by rw [Hr.out]; rfl, hb1⟩
                    · rw [hvc] at hqc
                      have Hn := Lib.hid (Hstep.out (by rw [hvc]; rfl))
                      clear hvc
                      go_wp2_with fail
                      refine (Hpl.out _).mono ?_; rintro e w2 ⟨rfl, rfl⟩
                      go_wp2
                      go_round
                      case rel => exact ⟨k + 1, by omega, by go_num, Hn.out⟩
                      case measure => simp [intOf] <;> omega
                  · have Hn := Lib.hid (Hstep.out (by rfl))
                    go_wp2_with fail
                    refine (Hpl.out _).mono ?_; rintro e w2 ⟨rfl, rfl⟩
                    go_wp2
                    go_round
                    case rel => exact ⟨k + 1, by omega, by go_num, Hn.out⟩
                    case measure => simp [intOf] <;> omega
                · have hke : k = n := by omega
                  subst hke
                  rw [List.take_of_length_le (by rw [Hm.out]; exact Nat.le_refl _)] at hka
                  have Hn := Lib.hid (Htk.out (by rw [Hlx.out]; exact hka))
                  clear hka
                  go_wp2
                  go_round
                  case rel => exact ⟨j + 1, by omega, by go_num, Hn.out⟩
                  case measure => simp [intOf] <;> omega
            · rw [hv0] at hq0
              rw [hv1] at hq1
              have Hr := Lib.hid (Hno.out (by rw [Hlab.out, hv0, hv1]; simp))
              clear hv0 hv1 hm
              go_wp2
              go_ret
              exact ⟨by rw [Hr.out]; rfl, hb1⟩
          · rw [hv0] at hq0
            have Hr := Lib.hid (Hno.out (by rw [Hlab.out, hv0]; simp))
            clear hv0 hm hq1
            go_wp2
            go_ret
            exact ⟨by rw [Hr.out]; rfl, hb1⟩
    · have hje : j = ls.length := by omega
      subst hje
      rw [List.take_of_length_le (Nat.le_refl _)] at hall
      have Hall := Lib.hid hall
      clear hall
      by_cases h64 : (s.size : Int) ≤ 64
      · go_wp2
        go_ret
        exact ⟨by rw [Hall.out, decide_eq_true (by omega)]; rfl, hb1⟩
      · go_wp2
        go_ret
        exact ⟨by rw [Hall.out, decide_eq_false (by omega)]; rfl, hb1⟩
end Go.Proofs.YtjddicoigbidlaaGreatDoor

set_option linter.unusedSimpArgs false
set_option linter.unusedVariables false
namespace Go.Proofs.YtjddicoigbidlaaGreatDoor
open Go.RowKit
def dotBad (l : List UInt8) (i : Nat) : Prop := l[i]? = some 46 ∧ (i = 0 ∨ i + 1 = l.length ∨ l[i - 1]? = some 46)
theorem twoB_iff (x : UInt8) (l : List UInt8) : twoB x l = true ↔ ∃ i : Nat, l[i]? = some x ∧ l[i + 1]? = some x := by
  induction l with
  | nil => simp [twoB]
  | cons a r ih =>
    cases r with
    | nil => simp [twoB]
    | cons b r =>
      rw [twoB, Bool.or_eq_true, ih]
      constructor
      · rintro (h | ⟨i, h1, h2⟩)
        · rw [Bool.and_eq_true] at h
          exact ⟨0, by simpa using h.1, by simpa using h.2⟩
        · exact ⟨i + 1, by simpa using h1, by simpa using h2⟩
      · rintro ⟨i, h1, h2⟩
        cases i with
        | zero => left; rw [Bool.and_eq_true]; exact ⟨by simpa using h1, by simpa using h2⟩
        | succ i => right; exact ⟨i, by simpa using h1, by simpa using h2⟩
theorem ends_iff (x : UInt8) (l : List UInt8) : endsB x l = true ↔ l[0]? = some x ∨ (0 < l.length ∧ l[l.length - 1]? = some x) := by
  unfold endsB
  rw [Bool.or_eq_true, List.head?_eq_getElem?, List.getLast?_eq_getElem?, beq_iff_eq, beq_iff_eq]
  constructor
  · rintro (h | h)
    · exact .inl h
    · refine .inr ⟨?_, h⟩
      have := (List.getElem?_eq_some_iff.1 h).1
      omega
  · rintro (h | ⟨_, h⟩)
    · exact .inl h
    · exact .inr h
def okL (c : UInt8) : Bool := plainB c || ([46, 95, 43, 45] : List UInt8).contains c
theorem local_bad {l : List UInt8} {i : Nat} (h : dotBad l i) : localB l = false := by
  have : endsB 46 l = true ∨ twoB 46 l = true := by
    obtain ⟨h1, h2 | h2 | h2⟩ := h
    · subst h2; exact .inl ((ends_iff _ _).2 (.inl h1))
    · refine .inl ((ends_iff _ _).2 (.inr ⟨by omega, ?_⟩))
      rw [show l.length - 1 = i by omega]; exact h1
    · by_cases h0 : i = 0
      · subst h0; exact .inl ((ends_iff _ _).2 (.inl h1))
      · exact .inr ((twoB_iff _ _).2 ⟨i - 1, h2, by rw [show i - 1 + 1 = i by omega]; exact h1⟩)
  unfold localB
  rcases this with h | h <;> simp [h]
theorem local_char {l : List UInt8} {i : Nat} {c : UInt8} (hc : l[i]? = some c) (h : okL c = false) : localB l = false := by
  have : onlyB [46, 95, 43, 45] l = false := onlyB_false hc h
  unfold localB; simp [this]
theorem local_good {l : List UInt8} (h : ∀ (i : Nat) c, l[i]? = some c → okL c = true ∧ ¬ dotBad l i) : localB l = decide (1 ≤ l.length ∧ l.length ≤ 32) := by
  have h1 : onlyB [46, 95, 43, 45] l = true := by
    unfold onlyB; rw [List.all_eq_true]
    intro c hc
    obtain ⟨i, hi⟩ := List.getElem?_of_mem hc
    exact (h i c hi).1
  have h2 : endsB 46 l = false := by
    cases he : endsB 46 l with
    | false => rfl
    | true =>
      rcases (ends_iff _ _).1 he with h3 | ⟨h4, h3⟩
      · exact absurd ⟨h3, .inl rfl⟩ (h 0 46 h3).2
      · exact absurd ⟨h3, .inr (.inl (by omega))⟩ (h _ 46 h3).2
  have h3 : twoB 46 l = false := by
    cases he : twoB 46 l with
    | false => rfl
    | true =>
      obtain ⟨i, h4, h5⟩ := (twoB_iff _ _).1 he
      exact absurd ⟨h5, .inr (.inr (by simpa using h4))⟩ (h (i + 1) 46 h5).2
  unfold localB
  rw [h1, h2, h3]; simp
theorem eqB (c k : UInt8) : ((c.toNat : Int) == (k.toNat : Int)) = (c == k) := eq45 c k
set_option maxRecDepth 100000 in
set_option maxHeartbeats 8000000 in
theorem refLocal_calls (s : ByteArray) (w : World) (hs : s.size ≤ 4294967280) :
    Calls Tryz.prog 91 #[.string s] w fun e w' => e = .returned (.bool (localB s.data.toList)) ∧ w' = w := by
  have hlen := size_len s
  have hidx := fun (j : Nat) (x : UInt8) (h : s.data.toList[j]? = some x) => run_index_at h
  obtain ⟨l, hl⟩ : ∃ l, s.data.toList = l := ⟨_, rfl⟩
  rw [hl] at hidx hlen ⊢
  obtain ⟨n, hn⟩ : ∃ n, l.length = n := ⟨_, rfl⟩
  rw [hn] at hlen
  rw [hlen] at hs
  have Hidx := Lib.hid hidx
  have Hn := Lib.hid hn
  have hni : (n : Int) ≤ 4294967280 := by omega
  clear hidx hl hn hs
  go_enter Tryz.func91, Tryz.ntmps91
  go_wp2
  go_loop [3] (fun i => ∃ j : Nat, j ≤ n ∧ i = .int .i64 j ∧ (∀ (k : Nat) c, k < j → l[k]? = some c → okL c = true ∧ ¬ dotBad l k)) (fun i => n - (intOf i).toNat)
  case atStart => exact ⟨0, Nat.zero_le _, rfl, fun k c hk => absurd hk (Nat.not_lt_zero _)⟩
  case round =>
    obtain ⟨j, hj, rfl, hinv⟩ := hrel
    by_cases hlt : j < n
    · obtain ⟨c, hc⟩ : ∃ c, l[j]? = some c := ⟨_, List.getElem?_eq_getElem (by rw [Hn.out]; exact hlt)⟩
      have hix := Hidx.out j c hc
      have hnext : okL c = true → ¬ dotBad l j → ∀ (k : Nat) c, k < j + 1 → l[k]? = some c → okL c = true ∧ ¬ dotBad l k := by
        intro h1 h2 k c' hk hc'
        rcases (by omega : k < j ∨ k = j) with h | rfl
        · exact hinv k c' h hc'
        · rw [hc] at hc'; cases hc'; exact ⟨h1, h2⟩
      have Hnext := Lib.hid hnext
      have hbad : dotBad l j → localB l = false := local_bad
      have hchr : okL c = false → localB l = false := local_char hc
      have Hbad := Lib.hid hbad
      have Hchr := Lib.hid hchr
      have Hc := Lib.hid hc
      have hj0 : (0 : Int) ≤ (j : Int) := by omega
      have hj1 : (j : Int) < (n : Int) := by omega
      have q46 : ((c.toNat : Int) == 46) = (c == 46) := eqB c 46
      have q95 : ((c.toNat : Int) == 95) = (c == 95) := eqB c 95
      have q43 : ((c.toNat : Int) == 43) = (c == 43) := eqB c 43
      have q45 : ((c.toNat : Int) == 45) = (c == 45) := eqB c 45
      have hpl := fun W => refPlain_calls c W
      have hok : okL c = (plainB c || (c == 46 || (c == 95 || (c == 43 || c == 45)))) := by
        unfold okL
        rw [List.contains_cons, List.contains_cons, List.contains_cons, List.contains_cons, List.contains_nil, Bool.or_false]
      have Hok := Lib.hid hok
      clear hnext hbad hchr hc hinv hok
      generalize plainB c = p at hpl Hok
      have Hpl := Lib.hid hpl
      clear hpl
      cases v46 : (c == 46)
      · have hnd : ¬ dotBad l j := fun h => by
          have := h.1; rw [Hc.out] at this; cases this; revert v46; decide
        rw [v46] at q46
        have rq46 : ((c.toNat : Int) != 46) = true := by rw [bne, q46]; rfl
        have Hnd := Lib.hid hnd
        clear hnd
        cases p
        · cases v95 : (c == 95)
          · rw [v95] at q95
            have rq95 : ((c.toNat : Int) != 95) = true := by rw [bne, q95]; rfl
            cases v43 : (c == 43)
            · rw [v43] at q43
              have rq43 : ((c.toNat : Int) != 43) = true := by rw [bne, q43]; rfl
              cases v45 : (c == 45)
              · rw [v45] at q45
                have rq45 : ((c.toNat : Int) != 45) = true := by rw [bne, q45]; rfl
                have Hr := Lib.hid (Hchr.out (by rw [Hok.out, v46, v95, v43, v45]; rfl))
                clear v46 v95 v43 v45
                go_wp2_with fail
                refine (Hpl.out _).mono ?_; rintro e w2 ⟨rfl, rfl⟩
                go_wp2
                go_ret
                exact ⟨by rw [Hr.out]; rfl, rfl⟩
              · rw [v45] at q45
                have rq45 : ((c.toNat : Int) != 45) = false := by rw [bne, q45]; rfl
                have Hr := Lib.hid (Hnext.out (by rw [Hok.out, v45]; simp) Hnd.out)
                clear v46 v95 v43 v45
                go_wp2_with fail
                refine (Hpl.out _).mono ?_; rintro e w2 ⟨rfl, rfl⟩
                go_wp2
                go_round
                case rel => exact ⟨j + 1, by omega, by go_num, Hr.out⟩
                case measure => simp [intOf] <;> omega
            · rw [v43] at q43
              have rq43 : ((c.toNat : Int) != 43) = false := by rw [bne, q43]; rfl
              have Hr := Lib.hid (Hnext.out (by rw [Hok.out, v43]; simp) Hnd.out)
              clear v46 v95 v43 q45
              go_wp2_with fail
              refine (Hpl.out _).mono ?_; rintro e w2 ⟨rfl, rfl⟩
              go_wp2
              go_round
              case rel => exact ⟨j + 1, by omega, by go_num, Hr.out⟩
              case measure => simp [intOf] <;> omega
          · rw [v95] at q95
            have rq95 : ((c.toNat : Int) != 95) = false := by rw [bne, q95]; rfl
            have Hr := Lib.hid (Hnext.out (by rw [Hok.out, v95]; simp) Hnd.out)
            clear v46 v95 q43 q45
            go_wp2_with fail
            refine (Hpl.out _).mono ?_; rintro e w2 ⟨rfl, rfl⟩
            go_wp2
            go_round
            case rel => exact ⟨j + 1, by omega, by go_num, Hr.out⟩
            case measure => simp [intOf] <;> omega
        · have Hr := Lib.hid (Hnext.out (by rw [Hok.out]; rfl) Hnd.out)
          clear v46 q95 q43 q45
          go_wp2_with fail
          refine (Hpl.out _).mono ?_; rintro e w2 ⟨rfl, rfl⟩
          go_wp2
          go_round
          case rel => exact ⟨j + 1, by omega, by go_num, Hr.out⟩
          case measure => simp [intOf] <;> omega
      · have hc46 : c = 46 := by simpa using v46
        rw [v46] at q46
        have rq46 : ((c.toNat : Int) != 46) = false := by rw [bne, q46]; rfl
        have hcl : l[j]? = some 46 := by rw [← hc46]; exact Hc.out
        have Hcl := Lib.hid hcl
        have Hok2 := Lib.hid (show okL c = true by rw [Hok.out, v46]; simp)
        clear v46 hc46 hcl q95 q43 q45
        by_cases hz : j = 0
        · have Hr := Lib.hid (Hbad.out ⟨Hcl.out, .inl hz⟩)
          have hz1 : ((j : Int) == 0) = true := by simpa using hz
          clear hz
          go_wp2
          go_ret
          exact ⟨by rw [Hr.out]; rfl, rfl⟩
        · have hz1 : ((j : Int) == 0) = false := by simpa using hz
          have hj2 : (1 : Int) ≤ (j : Int) := by omega
          by_cases hlast : j + 1 = n
          · have Hr := Lib.hid (Hbad.out ⟨Hcl.out, .inr (.inl (by rw [Hn.out]; exact hlast))⟩)
            have hz2 : ((j : Int) == (n : Int) - 1) = true := by simp; omega
            clear hlast hz
            go_wp2
            go_ret
            exact ⟨by rw [Hr.out]; rfl, rfl⟩
          · have hz2 : ((j : Int) == (n : Int) - 1) = false := by simp; omega
            obtain ⟨d, hd⟩ : ∃ d, l[j - 1]? = some d := ⟨_, List.getElem?_eq_getElem (by rw [Hn.out]; omega)⟩
            have hip : ∀ W, (Instr.index 9 (.string s) (.int .i64 ((j : Int) - 1))).run Tryz.prog W = .ok (.int .u8 d.toNat) W := by
              have h := Hidx.out (j - 1) d hd
              rw [show ((j - 1 : Nat) : Int) = (j : Int) - 1 by omega] at h
              exact h
            have qd : ((d.toNat : Int) == 46) = (d == 46) := eqB d 46
            cases vd : (d == 46)
            · have hnd : ¬ dotBad l j := by
                rintro ⟨_, h | h | h⟩
                · exact hz h
                · exact hlast (by rw [← Hn.out]; exact h)
                · rw [hd] at h; cases h; revert vd; decide
              have Hr := Lib.hid (Hnext.out Hok2.out hnd)
              rw [vd] at qd
              have rqd : ((d.toNat : Int) != 46) = true := by rw [bne, qd]; rfl
              clear hnd vd hd hlast hz
              cases p
              · go_wp2_with fail
                refine (Hpl.out _).mono ?_; rintro e w2 ⟨rfl, rfl⟩
                go_wp2
                go_round
                case rel => exact ⟨j + 1, by omega, by go_num, Hr.out⟩
                case measure => simp [intOf] <;> omega
              · go_wp2_with fail
                refine (Hpl.out _).mono ?_; rintro e w2 ⟨rfl, rfl⟩
                go_wp2
                go_round
                case rel => exact ⟨j + 1, by omega, by go_num, Hr.out⟩
                case measure => simp [intOf] <;> omega
            · have hd46 : d = 46 := by simpa using vd
              have Hr := Lib.hid (Hbad.out ⟨Hcl.out, .inr (.inr (by rw [hd, hd46]))⟩)
              rw [vd] at qd
              have rqd : ((d.toNat : Int) != 46) = false := by rw [bne, qd]; rfl
              clear hd46 vd hd hlast hz
              go_wp2
              go_ret
              exact ⟨by rw [Hr.out]; rfl, rfl⟩
    · have hje : j = n := by omega
      subst hje
      have hres : localB l = decide (1 ≤ j ∧ j ≤ 32) := by
        rw [← Hn.out]
        exact local_good fun i c hc => hinv i c (by rw [← Hn.out]; exact (List.getElem?_eq_some_iff.1 hc).1) hc
      have Hres := Lib.hid hres
      clear hres hinv
      by_cases h1 : (1 : Int) ≤ (j : Int)
      · by_cases h32 : (j : Int) ≤ 32
        · go_wp2
          go_ret
          exact ⟨by rw [Hres.out, decide_eq_true (by omega)]; rfl, rfl⟩
        · go_wp2
          go_ret
          exact ⟨by rw [Hres.out, decide_eq_false (by omega)]; rfl, rfl⟩
      · go_wp2
        go_ret
        exact ⟨by rw [Hres.out, decide_eq_false (by omega)]; rfl, rfl⟩
end Go.Proofs.YtjddicoigbidlaaGreatDoor

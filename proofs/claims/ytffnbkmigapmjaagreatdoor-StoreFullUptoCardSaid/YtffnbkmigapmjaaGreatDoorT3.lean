/- Printed out of the texts of wip/tpl. -/
import Derived.Test.YtffnbkmigapmjaaGreatDoorT2
import Derived.Lib.RuneCountTail
import Derived.Lib.SlicesS
import Derived.Lib.SplitLaws
set_option linter.unusedSimpArgs false
set_option linter.unusedVariables false
namespace Go.Proofs.YtffnbkmigapmjaaGreatDoor
open Go.RowKit
def plainR (r : Nat) : Bool := decide (97 ≤ r ∧ r ≤ 122) || decide (65 ≤ r ∧ r ≤ 90) || decide (48 ≤ r ∧ r ≤ 57)
set_option maxRecDepth 100000 in
set_option maxHeartbeats 4000000 in
theorem addrPlain_calls (r : Nat) (w : World) (hr : r ≤ 1114111) :
 Calls Tryz.prog 258 #[.int .i32 r] w fun e w' => e = .returned (.bool (plainR r)) ∧ w' = w := by
 by_cases a1 : 97 ≤ r <;> by_cases a2 : r ≤ 122 <;> by_cases b1 : 65 ≤ r <;> by_cases b2 : r ≤ 90 <;> by_cases c1 : 48 ≤ r <;> by_cases c2 : r ≤ 57
 all_goals first | omega | skip
 all_goals
  have hp : ∃ v, plainR r = v := ⟨_, rfl⟩
  have hv : plainR r = (decide (97 ≤ r ∧ r ≤ 122) || decide (65 ≤ r ∧ r ≤ 90) || decide (48 ≤ r ∧ r ≤ 57)) := rfl
  simp only [a1, a2, b1, b2, c1, c2, and_self, and_true, true_and, and_false, false_and, decide_true, decide_false, Bool.or_true, Bool.true_or, Bool.or_false, Bool.false_or] at hv
  rw [hv]
  clear hp hv
  go_enter Tryz.func258, Tryz.ntmps258
  go_wp2
  go_ret
  first
  | exact ⟨rfl, rfl⟩
  | (refine ⟨?_, rfl⟩; congr 2; simp; omega)
theorem plain_iff (c : UInt8) : plainB c = plainR c.toNat := rfl
theorem plainR_high (r : Nat) (h : 128 ≤ r) : plainR r = false := by
 unfold plainR
 rw [decide_eq_false (by omega), decide_eq_false (by omega), decide_eq_false (by omega)]; rfl
theorem size_len (s : ByteArray) : s.size = s.data.toList.length := by rw [Array.length_toList]; rfl
theorem get_byte (s : ByteArray) (pos : Nat) (h : pos < s.size) : s.data.toList[pos]? = some (s[pos]'h) := by
 rw [Array.getElem?_toList]
 exact Array.getElem?_eq_getElem h
theorem onlyB_false {o l : List UInt8} {i : Nat} {c : UInt8} (hc : l[i]? = some c) (h : (plainB c || o.contains c) = false) : onlyB o l = false := by
 unfold onlyB
 rw [List.all_eq_false]
 exact ⟨c, List.mem_of_getElem? hc, by rw [h]; simp⟩
set_option maxRecDepth 100000 in
set_option maxHeartbeats 4000000 in
theorem addrOnly_calls (s o : ByteArray) (w : World) (ho : oneOf o) :
 Calls Tryz.prog 249 #[.string s, .string o] w fun e w' => e = .returned (.bool (onlyB o.data.toList s.data.toList)) ∧ Below w.heap.size w w' := by
 have hoa : ∀ c : UInt8, 128 ≤ c.toNat → o.data.toList.contains c = false := by
  intro c hc
  rcases ho with rfl | rfl
  ·have : ¬ (c = 45) := fun h => by rw [h] at hc; revert hc; decide
   simp [this]
  ·have h1 : ¬ (c = 45) := fun h => by rw [h] at hc; revert hc; decide
   have h2 : ¬ (c = 46) := fun h => by rw [h] at hc; revert hc; decide
   have h3 : ¬ (c = 95) := fun h => by rw [h] at hc; revert hc; decide
   have h4 : ¬ (c = 43) := fun h => by rw [h] at hc; revert hc; decide
   simp [h1, h2, h3, h4]
 obtain ⟨os, hos⟩ : ∃ os, o.data.toList = os := ⟨_, rfl⟩
 have hcr := fun (r : Nat) W hr hv => containsRune_calls o r W ho hr hv
 rw [hos] at hoa ⊢
 rw [hos] at hcr
 have Hcr := Lib.hid hcr
 have Hoa := Lib.hid hoa
 clear hcr hoa hos ho
 go_enter Tryz.func249, Tryz.ntmps249
 go_wp2
 go_loopw [6] (fun _ w' => ∃ pos : Nat, pos ≤ s.size ∧ w' = w.iter s pos ∧ onlyB os (s.data.toList.take pos) = true) (fun _ w' => s.size - w'.iterPos w.heap.size)
 case atStart => exact ⟨0, Nat.zero_le _, rfl, rfl⟩
 case round =>
  obtain ⟨pos, hps, rfl, hall⟩ := hrel
  by_cases hp : pos < s.size
  ·have hnx : ∀ ty, (Instr.next (.pointer (some ⟨w.heap.size, 0, none⟩)) true ty).run Tryz.prog (w.iter s pos) = _ := fun ty => run_next_any w s pos ty hp
   have hwd := width_pos s pos hp
   have hle := Lib.rune_le s pos
   have hval : Lib.validRune ((Utf8.decode s pos).1 : Int) = true := by
    have h1 := Lib.rune_valid (s.extract pos s.size)
    rw [Lib.tail_decode, Nat.add_zero] at h1
    exact h1
   have hb := get_byte s pos hp
   obtain ⟨c, hc⟩ : ∃ c, s[pos]'hp = c := ⟨_, rfl⟩
   rw [hc] at hb
   have hcase : (c.toNat < 128 ∧ (Utf8.decode s pos) = (c.toNat, 1)) ∨ (128 ≤ c.toNat ∧ 128 ≤ (Utf8.decode s pos).1) := by
    by_cases h : (s[pos]'hp).toNat < 128
    ·left; rw [← hc]; exact ⟨h, decode_ascii s pos hp h⟩
    ·right; rw [← hc]; exact ⟨by omega, (decode_high s pos hp (by omega)).1⟩
   generalize hde : Utf8.decode s pos = d at hnx hwd hle hval hcase
   obtain ⟨r, k⟩ := d
   simp only at hwd hle hval hcase
   have Hval := Lib.hid hval
   have Hb := Lib.hid hb
   have Hall := Lib.hid hall
   have hpl := fun W => addrPlain_calls r W hle
   have Hpl := Lib.hid hpl
   have hcrr := Hcr.out r
   clear hb hall hval hpl hde hcrr
   rcases hcase with ⟨hlow, hd⟩ | ⟨hhigh, hrh⟩
   ·obtain ⟨rfl, rfl⟩ : r = c.toNat ∧ k = 1 := by cases hd; exact ⟨rfl, rfl⟩
    have hofn : UInt8.ofNat c.toNat = c := by simp
    have hstep : ∀ v, (plainB c || os.contains c) = v → onlyB os (s.data.toList.take (pos + 1)) = v := by
     intro v hv
     unfold onlyB
     rw [take_snoc Hb.out, List.all_append]
     have h := Hall.out
     unfold onlyB at h
     rw [h, Bool.true_and]
     simpa using hv
    have hfalse : (plainB c || os.contains c) = false → onlyB os s.data.toList = false := fun h => onlyB_false Hb.out h
    have hcr := fun W => Hcr.out c.toNat W hle Hval.out
    rw [decide_eq_true hlow, Bool.true_and, hofn] at hcr
    rw [plain_iff] at hstep hfalse
    have Hcr2 := Lib.hid hcr
    have Hstep := Lib.hid hstep
    have Hfalse := Lib.hid hfalse
    generalize hg1 : plainR c.toNat = p at Hpl Hstep Hfalse
    generalize hg2 : os.contains c = q at Hcr2 Hstep Hfalse
    clear hcr hstep hfalse hd hg1 hg2 hofn
    cases p
    ·cases q
     ·go_wp2_with fail
      refine (Hpl.out _).mono ?_; rintro e w2 ⟨rfl, rfl⟩
      go_wp2_with fail
      refine (Hcr2.out _).mono ?_; rintro e w3 ⟨rfl, hb3, heq⟩
      obtain rfl := heq hlow
      go_wp2
      go_ret
      exact ⟨by rw [Hfalse.out rfl]; rfl, below_iter _ _ _⟩
     ·go_wp2_with fail
      refine (Hpl.out _).mono ?_; rintro e w2 ⟨rfl, rfl⟩
      go_wp2_with fail
      refine (Hcr2.out _).mono ?_; rintro e w3 ⟨rfl, hb3, heq⟩
      obtain rfl := heq hlow
      go_wp2
      go_roundw
      case rel => exact ⟨pos + 1, by omega, rfl, Hstep.out true rfl⟩
      case measure => simp; omega
    ·go_wp2_with fail
     refine (Hpl.out _).mono ?_; rintro e w2 ⟨rfl, rfl⟩
     go_wp2
     go_roundw
     case rel => exact ⟨pos + 1, by omega, rfl, Hstep.out true (by simp)⟩
     case measure => simp; omega
   ·have hf : onlyB os s.data.toList = false := onlyB_false Hb.out (by rw [plain_iff, plainR_high _ hhigh, Hoa.out c hhigh]; rfl)
    have hcr := fun W => Hcr.out r W hle Hval.out
    rw [decide_eq_false (by omega : ¬ r < 128), Bool.false_and] at hcr
    have Hcr2 := Lib.hid hcr
    have Hf := Lib.hid hf
    have hpr := plainR_high r hrh
    rw [hpr] at Hpl
    clear hcr hf hpr
    go_wp2_with fail
    refine (Hpl.out _).mono ?_; rintro e w2 ⟨rfl, rfl⟩
    go_wp2_with fail
    refine (Hcr2.out _).mono ?_; rintro e w3 ⟨rfl, hb3, _⟩
    go_wp2
    go_ret
    exact ⟨by rw [Hf.out]; rfl, (below_iter w s (pos + k)).trans (hb3.mono (by simp [World.iter]))⟩
  ·have hnx : ∀ ty, (Instr.next (.pointer (some ⟨w.heap.size, 0, none⟩)) true ty).run Tryz.prog (w.iter s pos) = _ := fun ty => run_next_end w s pos ty hp
   have hpe : pos = s.size := by omega
   have hfin : onlyB os s.data.toList = true := by
    rw [List.take_of_length_le (by rw [← size_len]; omega)] at hall; exact hall
   have Hfin := Lib.hid hfin
   clear hall hfin hpe
   go_wp2
   go_ret
   exact ⟨by rw [Hfin.out]; rfl, below_iter _ _ _⟩
theorem prefix_one (c : UInt8) (l : List UInt8) : Lib.hasPrefix l [c] = (l.head? == some c) := by
 unfold Lib.hasPrefix
 cases l with
 | nil => rfl
 | cons x xs =>
  by_cases h : c = x
  ·subst h; simp [List.isPrefixOf]
  ·have h' : ¬ (x = c) := fun e => h e.symm
   have e1 : (c == x) = false := by simpa using h
   have e2 : (x == c) = false := by simpa using h'
   simp [List.isPrefixOf, e1, e2]
theorem suffix_one (c : UInt8) (l : List UInt8) : Lib.hasSuffix l [c] = (l.getLast? == some c) := by
 unfold Lib.hasSuffix
 have h1 : ([c] : List UInt8).isSuffixOf l = (([c] : List UInt8).reverse.isPrefixOf l.reverse) := rfl
 rw [h1]
 have h2 := prefix_one c l.reverse
 unfold Lib.hasPrefix at h2
 rw [show ([c] : List UInt8).reverse = [c] from rfl, h2, List.head?_reverse]
set_option maxRecDepth 100000 in
set_option maxHeartbeats 4000000 in
theorem addrEnds_calls (s : ByteArray) (c : UInt8) (w : World) (hs : s.size ≤ 9223372036854775807) :
 Calls Tryz.prog 250 #[.string s, .string ⟨#[c]⟩] w fun e w' => e = .returned (.bool (endsB c s.data.toList)) ∧ w' = w := by
 have h1 := fun W => Tryz.strings_HasPrefix s ⟨#[c]⟩ W
 have h2 := fun W => Tryz.strings_HasSuffix s ⟨#[c]⟩ W hs
 rw [show (⟨#[c]⟩ : ByteArray).data.toList = [c] from rfl] at h1 h2
 rw [prefix_one] at h1
 rw [suffix_one] at h2
 have H1 := Lib.hid h1
 have H2 := Lib.hid h2
 clear h1 h2
 unfold endsB
 generalize (s.data.toList.head? == some c) = p at H1
 generalize (s.data.toList.getLast? == some c) = q at H2
 cases p
 ·go_enter Tryz.func250, Tryz.ntmps250
  go_wp2_with fail
  refine (H1.out _).mono ?_; rintro e w2 ⟨rfl, rfl⟩
  go_wp2_with fail
  refine (H2.out _).mono ?_; rintro e w3 ⟨rfl, rfl⟩
  go_wp2
  go_ret
  exact ⟨by simp, rfl⟩
 ·go_enter Tryz.func250, Tryz.ntmps250
  go_wp2_with fail
  refine (H1.out _).mono ?_; rintro e w2 ⟨rfl, rfl⟩
  go_wp2
  go_ret
  exact ⟨by simp, rfl⟩
theorem empty_of_size {s : ByteArray} (h : s.size = 0) : s = ⟨#[]⟩ := by
 obtain ⟨d⟩ := s
 have : d.size = 0 := h
 rw [Array.size_eq_zero_iff.1 this]
theorem empty_beq {s : ByteArray} (h : s.size ≠ 0) : (s.toList == (⟨#[]⟩ : ByteArray).toList) = false :=
 (Lib.bytes_beq_false_iff _ _).2 (fun e => h (by rw [e]; rfl))
theorem empty_ne {s : ByteArray} (h : s.size ≠ 0) : ¬ s.toList = [] := by
 have := empty_beq h
 intro e
 rw [e] at this
 simp at this
set_option maxRecDepth 100000 in
set_option maxHeartbeats 4000000 in
theorem addrLabel_calls (s : ByteArray) (w : World) (hs : s.size ≤ 9223372036854775807) :
 Calls Tryz.prog 252 #[.string s] w fun e w' => e = .returned (.bool (labelB s.data.toList)) ∧ Below w.heap.size w w' := by
 have hl := size_len s
 have h1 := fun W => addrOnly_calls s ⟨#[45]⟩ W (.inl rfl)
 have h2 := fun W => addrEnds_calls s 45 W hs
 rw [show (⟨#[45]⟩ : ByteArray).data.toList = [45] from rfl] at h1
 have hlab : labelB s.data.toList = (decide (1 ≤ s.size ∧ s.size ≤ 32) && onlyB [45] s.data.toList && !endsB 45 s.data.toList) := by rw [hl]; rfl
 rw [hlab]
 generalize onlyB [45] s.data.toList = p at h1
 generalize endsB 45 s.data.toList = q at h2
 have H1 := Lib.hid h1
 have H2 := Lib.hid h2
 clear h1 h2 hlab hl
 by_cases h0 : s.size = 0
 ·obtain rfl := empty_of_size h0
  clear h0
  go_enter Tryz.func252, Tryz.ntmps252
  go_wp2
  go_ret
  exact ⟨rfl, Below.refl _ _⟩
 ·have hb := empty_ne h0
  have hb2 : s.toList.isEmpty = false := by simpa using hb
  by_cases h32 : (s.size : Int) ≤ 32
  ·have hd : decide (1 ≤ s.size ∧ s.size ≤ 32) = true := decide_eq_true ⟨by omega, by omega⟩
   rw [hd]
   clear hd
   cases p
   ·go_enter Tryz.func252, Tryz.ntmps252
    go_wp2_with fail
    refine (H1.out _).mono ?_; rintro e w2 ⟨rfl, hb2⟩
    go_wp2
    go_ret
    exact ⟨rfl, hb2⟩
   ·go_enter Tryz.func252, Tryz.ntmps252
    go_wp2_with fail
    refine (H1.out _).mono ?_; rintro e w2 ⟨rfl, hb2⟩
    go_wp2_with fail
    refine (H2.out _).mono ?_; rintro e w3 ⟨rfl, rfl⟩
    go_wp2
    go_ret
    exact ⟨rfl, hb2⟩
  ·have hd : decide (1 ≤ s.size ∧ s.size ≤ 32) = false := decide_eq_false (by omega)
   rw [hd]
   clear hd
   go_enter Tryz.func252, Tryz.ntmps252
   go_wp2
   go_ret
   exact ⟨rfl, Below.refl _ _⟩
def MaxOk (w : World) : Prop := ∃ m, w.cell? ⟨0, 0, none⟩ = some (.int .i64 m)
theorem MaxOk.below {w w' : World} (hb : Below w.heap.size w w') (h : MaxOk w) : MaxOk w' := by
 obtain ⟨m, hm⟩ := h
 obtain ⟨c, f⟩ := below_cell hb
 exact ⟨m, (c _ _ (World.block_lt_of_cell? w ⟨0, 0, none⟩ hm)).trans hm⟩
set_option maxRecDepth 100000 in
set_option maxHeartbeats 4000000 in
theorem addrLocal_calls (s : ByteArray) (w : World) (hs : s.size < 4294967281) (hmax : MaxOk w) :
 Calls Tryz.prog 237 #[.string s] w fun e w' => e = .returned (.bool (localB s.data.toList)) ∧ Below w.heap.size w w' := by
 have hl := size_len s
 have h1 := fun W => addrOnly_calls s ⟨#[46, 95, 43, 45]⟩ W (.inr rfl)
 have h2 := fun W => addrEnds_calls s 46 W (by omega)
 have h3 := fun W m hm => Tryz.strings_Contains s ⟨#[46, 46]⟩ m W hs hm
 rw [show (⟨#[46, 95, 43, 45]⟩ : ByteArray).data.toList = [46, 95, 43, 45] from rfl] at h1
 rw [show (⟨#[46, 46]⟩ : ByteArray).data.toList = [46, 46] from rfl, contains_two] at h3
 have hlab : localB s.data.toList = (decide (1 ≤ s.size ∧ s.size ≤ 32) && onlyB [46, 95, 43, 45] s.data.toList && !endsB 46 s.data.toList && !twoB 46 s.data.toList) := by rw [hl]; rfl
 rw [hlab]
 generalize onlyB [46, 95, 43, 45] s.data.toList = p at h1
 generalize endsB 46 s.data.toList = q at h2
 generalize twoB 46 s.data.toList = r at h3
 have H1 := Lib.hid h1
 have H2 := Lib.hid h2
 have H3 := Lib.hid h3
 have Hmax := Lib.hid hmax
 clear h1 h2 h3 hlab hl hmax
 by_cases h0 : s.size = 0
 ·obtain rfl := empty_of_size h0
  clear h0
  go_enter Tryz.func237, Tryz.ntmps237
  go_wp2
  go_ret
  exact ⟨rfl, Below.refl _ _⟩
 ·have hb := empty_ne h0
  have hb2 : s.toList.isEmpty = false := by simpa using hb
  by_cases h32 : (s.size : Int) ≤ 32
  ·have hd : decide (1 ≤ s.size ∧ s.size ≤ 32) = true := decide_eq_true ⟨by omega, by omega⟩
   rw [hd]
   clear hd
   cases p
   ·go_enter Tryz.func237, Tryz.ntmps237
    go_wp2_with fail
    refine (H1.out _).mono ?_; rintro e w2 ⟨rfl, hb2⟩
    go_wp2
    go_ret
    exact ⟨rfl, hb2⟩
   ·cases q
    ·go_enter Tryz.func237, Tryz.ntmps237
     go_wp2_with fail
     refine (H1.out _).mono ?_; rintro e w2 ⟨rfl, hb2⟩
     go_wp2_with fail
     refine (H2.out _).mono ?_; rintro e w3 ⟨rfl, rfl⟩
     obtain ⟨m, hm⟩ := Hmax.out.below hb2
     go_wp2_with fail
     refine (H3.out _ m hm).mono ?_; rintro e w4 ⟨rfl, rfl⟩
     go_wp2
     go_ret
     exact ⟨rfl, hb2⟩
    ·go_enter Tryz.func237, Tryz.ntmps237
     go_wp2_with fail
     refine (H1.out _).mono ?_; rintro e w2 ⟨rfl, hb2⟩
     go_wp2_with fail
     refine (H2.out _).mono ?_; rintro e w3 ⟨rfl, rfl⟩
     go_wp2
     go_ret
     exact ⟨rfl, hb2⟩
  ·have hd : decide (1 ≤ s.size ∧ s.size ≤ 32) = false := decide_eq_false (by omega)
   rw [hd]
   clear hd
   go_enter Tryz.func237, Tryz.ntmps237
   go_wp2
   go_ret
   exact ⟨rfl, Below.refl _ _⟩
theorem pieces_le (c : UInt8) (l : List UInt8) : ∀ p ∈ piecesAt c l, p.length ≤ l.length := by
 induction l with
 | nil => intro p hp; simp [piecesAt] at hp; subst hp; simp
 | cons x xs ih =>
  intro p hp
  by_cases hx : x = c
  ·simp only [piecesAt, if_pos hx, List.mem_cons] at hp
   rcases hp with rfl | hp
   ·simp
   ·have := ih p hp; simp; omega
  ·simp only [piecesAt, if_neg hx] at hp
   split at hp
   ·simp at hp; subst hp; simp
   ·next q ps he =>
    rcases List.mem_cons.1 hp with rfl | hp
    ·have := ih q (by rw [he]; exact List.mem_cons_self); simp; omega
    ·have := ih p (by rw [he]; exact List.mem_cons_of_mem _ hp); simp; omega
set_option maxRecDepth 100000 in
set_option maxHeartbeats 4000000 in
theorem addrDomain_calls (s : ByteArray) (w : World) (hs : s.size < 4294967281) (hmax : MaxOk w) :
 Calls Tryz.prog 238 #[.string s] w fun e w' => e = .returned (.bool (domainB s.data.toList)) ∧ Below w.heap.size w w' := by
 obtain ⟨m, hm⟩ := hmax
 have hsp := Tryz.strings_Split s ⟨#[46]⟩ m w hs hm (by decide)
 obtain ⟨P, hP⟩ : ∃ P, Lib.splitB ⟨#[46]⟩ 0 (Lib.countB s ⟨#[46]⟩) s = P := ⟨_, rfl⟩
 have hdata : P.map (fun p => p.data.toList) = piecesAt 46 s.data.toList := by
  rw [← hP, ← split_one]
  exact Lib.splitB_data _ _ _ _
 have hcnt : Lib.countB s ⟨#[46]⟩ + 1 = P.length := by
  have h1 := count_pieces 46 (s.data.toList.length + 1) s.data.toList (by omega)
  have h2 := congrArg List.length hdata
  rw [List.length_map] at h2
  rw [h2, ← h1]; rfl
 rw [hP, hcnt] at hsp
 have hlen : s.size = s.data.toList.length := size_len s
 have hlab : ∀ (j : Nat) (x : ByteArray), P[j]? = some x → ∀ W, Calls Tryz.prog 252 #[.string x] W fun e w' => e = .returned (.bool (labelB x.data.toList)) ∧ Below W.heap.size W w' := by
  intro j x hx W
  have hmem : x.data.toList ∈ piecesAt 46 s.data.toList := by rw [← hdata]; exact List.mem_map.2 ⟨x, List.mem_of_getElem? hx, rfl⟩
  have := pieces_le 46 _ _ hmem
  have hxl := size_len x
  exact addrLabel_calls x W (by omega)
 have hres : domainB s.data.toList = (P.all (fun x => labelB x.data.toList) && decide (s.size ≤ 64)) := by
  unfold domainB
  rw [← hdata, List.all_map, hlen]; rfl
 rw [hres]
 have hPl : P.length ≤ 4294967281 := by
  have h2 := congrArg List.length hdata
  rw [List.length_map] at h2
  have := count_pieces 46 (s.data.toList.length + 1) s.data.toList (by omega)
  have hle := Lib.countB_le ⟨#[46]⟩ (by decide) s.size s (Nat.le_refl _)
  omega
 have hPi : (P.length : Int) ≤ 4294967281 := by omega
 have hcell0 := fun (j : Nat) (x : ByteArray) (hx : P[j]? = some x) => (show (w.alloc (.cells (P.map Value.string).toArray 9)).cell? ⟨w.heap.size, j, none⟩ = some (.string x) by
  rw [cell_of_row _ _ _ _ _ _ (heap_alloc_new w _)]
  simp [hx])
 have Hsp := Lib.hid hsp
 have Hlab := Lib.hid hlab
 have Hcell := Lib.hid hcell0
 clear hsp hlab hcell0 hcnt hdata hres hP hlen hm
 go_enter Tryz.func238, Tryz.ntmps238
 go_wp2_with fail
 refine (Hsp.out).mono ?_; rintro e w1 ⟨rfl, rfl⟩
 go_wp2
 go_loopw [8] (fun i wr => ∃ j : Nat, j ≤ P.length ∧ i = .int .i64 j ∧ (P.take j).all (fun x => labelB x.data.toList) = true ∧ Below (w.alloc (.cells (P.map Value.string).toArray 9)).heap.size (w.alloc (.cells (P.map Value.string).toArray 9)) wr) (fun i _ => P.length - (intOf i).toNat)
 case atStart => exact ⟨0, Nat.zero_le _, rfl, rfl, Below.refl _ _⟩
 case round =>
  obtain ⟨j, hj, rfl, hall, hbw⟩ := hrel
  have hbw0 : Below w.heap.size w wr := ((Below.refl _ _).alloc (Nat.le_refl _) _).trans (hbw.mono (by simp))
  by_cases hlt : j < P.length
  ·obtain ⟨x, hx⟩ : ∃ x, P[j]? = some x := ⟨_, List.getElem?_eq_getElem hlt⟩
   have hc := (hbw.cell (p := ⟨w.heap.size, j, none⟩) (by show w.heap.size < _; simp)).trans (Hcell.out j x hx)
   have hl := Hlab.out j x hx
   have htk : (P.take (j + 1)).all (fun x => labelB x.data.toList) = labelB x.data.toList := by
    rw [take_snoc hx, List.all_append, hall]; simp
   have hno : labelB x.data.toList = false → P.all (fun x => labelB x.data.toList) = false := by
    intro h; rw [List.all_eq_false]; exact ⟨x, List.mem_of_getElem? hx, by rw [h]; simp⟩
   generalize labelB x.data.toList = v at hl htk hno
   have Hl := Lib.hid hl
   have Htk := Lib.hid htk
   have Hno := Lib.hid hno
   have hj0 : (0 : Int) ≤ (j : Int) := by omega
   have hj1 : (j : Int) < (P.length : Int) := by omega
   have Hb0 := Lib.hid hbw0
   have Hbw := Lib.hid hbw
   clear hl htk hno hall hx hbw0 hbw
   cases v
   ·go_wp2_with fail
    refine (Hl.out _).mono ?_; rintro e w2 ⟨rfl, hb2⟩
    go_wp2
    go_ret
    exact ⟨by rw [Hno.out (by trivial)]; rfl, Hb0.out.trans (hb2.mono Hb0.out.size)⟩
   ·go_wp2_with fail
    refine (Hl.out _).mono ?_; rintro e w2 ⟨rfl, hb2⟩
    go_wp2
    go_roundw
    case rel => exact ⟨j + 1, by omega, by simp, Htk.out, Hbw.out.trans (hb2.mono Hbw.out.size)⟩
    case measure => simp [intOf] <;> omega
  ·have hje : j = P.length := by omega
   subst hje
   rw [List.take_of_length_le (Nat.le_refl _)] at hall
   have Hall := Lib.hid hall
   clear hall
   by_cases h64 : (s.size : Int) ≤ 64
   ·have hd : decide (s.size ≤ 64) = true := decide_eq_true (by omega)
    have Hd := Lib.hid hd
    clear hd
    go_wp2
    go_ret
    exact ⟨by rw [Hall.out, Hd.out]; simp, hbw0⟩
   ·have hd : decide (s.size ≤ 64) = false := decide_eq_false (by omega)
    have Hd := Lib.hid hd
    clear hd
    go_wp2
    go_ret
    exact ⟨by rw [Hall.out, Hd.out]; simp <;> omega, hbw0⟩
end Go.Proofs.YtffnbkmigapmjaaGreatDoor
namespace PbCrc
abbrev B32 := BitVec 32
def poly : B32 := 0xedb88320#32
def step (c : B32) : B32 := if c.getLsbD 0 then (c >>> 1) ^^^ poly else c >>> 1
def steps : Nat → B32 → B32
 | 0, c => c
 | n + 1, c => steps n (step c)
theorem steps_succ (n : Nat) (c : B32) : steps (n + 1) c = step (steps n c) := by
 induction n generalizing c with
 | zero => rfl
 | succ n ih => rw [steps, ih]; rfl
def tab (n : Nat) : B32 := steps 8 (BitVec.ofNat 32 n)
def byteTab (c : B32) (x : UInt8) : B32 := tab (UInt8.ofNat c.toNat ^^^ x).toNat ^^^ (c >>> 8)
def byteStep (c : B32) (x : UInt8) : B32 := steps 8 (c ^^^ BitVec.ofNat 32 x.toNat)
def run (c : B32) (l : List UInt8) : B32 := l.foldl byteStep c
def sum (l : List UInt8) : B32 := ~~~ (run (BitVec.allOnes 32) l)
theorem step_xor (a b : B32) : step (a ^^^ b) = step a ^^^ step b := by
 unfold step
 rw [BitVec.getLsbD_xor, BitVec.ushiftRight_xor_distrib]
 cases ha : a.getLsbD 0 <;> cases hb : b.getLsbD 0
 ·simp
 ·simp [BitVec.xor_assoc]
 ·simp only [Bool.xor_false, if_true, Bool.false_eq_true, if_false]
  ac_rfl
 ·simp only [Bool.xor_self, Bool.false_eq_true, if_false, if_true]
  rw [show a >>> 1 ^^^ poly ^^^ (b >>> 1 ^^^ poly) = a >>> 1 ^^^ b >>> 1 ^^^ (poly ^^^ poly) by ac_rfl]
  simp
theorem steps_xor (n : Nat) (a b : B32) : steps n (a ^^^ b) = steps n a ^^^ steps n b := by
 induction n generalizing a b with
 | zero => rfl
 | succ n ih => rw [steps, step_xor, ih]; rfl
theorem steps_shift (n : Nat) (c : B32) (h : ∀ i, i < n → c.getLsbD i = false) : steps n c = c >>> n := by
 induction n generalizing c with
 | zero => simp [steps]
 | succ n ih =>
  rw [steps, step, if_neg (by rw [h 0 (by omega)]; decide), ih]
  ·rw [← BitVec.shiftRight_add, Nat.add_comm]
  ·intro i hi
   rw [BitVec.getLsbD_ushiftRight, Nat.add_comm]
   exact h (i + 1) (by omega)
theorem lowByte (c : B32) (x : UInt8) (i : Nat) : (BitVec.ofNat 32 (UInt8.ofNat c.toNat ^^^ x).toNat).getLsbD i = (decide (i < 8) && ((c ^^^ BitVec.ofNat 32 x.toNat).getLsbD i)) := by
 rw [BitVec.getLsbD_xor, BitVec.getLsbD_ofNat, BitVec.getLsbD_ofNat, UInt8.toNat_xor, UInt8.toNat_ofNat', Nat.testBit_xor, Nat.testBit_mod_two_pow, ← BitVec.testBit_toNat]
 by_cases h : i < 8
 ·simp [h, show i < 32 by omega]
 ·have : x.toNat.testBit i = false := Nat.testBit_lt_two_pow (Nat.lt_of_lt_of_le x.toNat_lt (Nat.pow_le_pow_right (by omega) (by omega)))
  simp [h, this]
theorem byteTab_eq (c : B32) (x : UInt8) : byteTab c x = byteStep c x := by
 unfold byteTab byteStep tab
 have e : c ^^^ BitVec.ofNat 32 x.toNat = BitVec.ofNat 32 (UInt8.ofNat c.toNat ^^^ x).toNat ^^^ ((c >>> 8) <<< 8) := by
  apply BitVec.eq_of_getLsbD_eq
  intro i hi
  rw [BitVec.getLsbD_xor (x := BitVec.ofNat 32 (UInt8.ofNat c.toNat ^^^ x).toNat), lowByte, BitVec.getLsbD_shiftLeft, BitVec.getLsbD_ushiftRight]
  by_cases h : i < 8
  ·simp [h]
  ·have : x.toNat.testBit i = false := Nat.testBit_lt_two_pow (Nat.lt_of_lt_of_le x.toNat_lt (Nat.pow_le_pow_right (by omega) (by omega)))
   rw [BitVec.getLsbD_xor, BitVec.getLsbD_ofNat, this]
   simp [h, hi, show 8 + (i - 8) = i by omega]
 rw [e, steps_xor, steps_shift 8 ((c >>> 8) <<< 8)]
 ·congr 1
  apply BitVec.eq_of_getLsbD_eq
  intro i hi
  simp only [BitVec.getLsbD_ushiftRight, BitVec.getLsbD_shiftLeft]
  by_cases h : i + 8 < 32
  ·simp [show 8 + i < 32 by omega]
  ·rw [BitVec.getLsbD_of_ge c (8 + i) (by omega)]; simp only [Bool.false_eq]; simp; intro h'; omega
 ·intro i hi
  simp [BitVec.getLsbD_shiftLeft, hi]
def bitStep (c : B32) (b : Bool) : B32 := if (c.getLsbD 0 ^^ b) then (c >>> 1) ^^^ poly else c >>> 1
def bitRun (c : B32) (x : UInt8) : Nat → B32
 | 0 => c
 | k + 1 => bitStep (bitRun c x k) (x.toNat.testBit k)
theorem bitStep_eq (c : B32) (b : Bool) : bitStep c b = step (c ^^^ BitVec.ofNat 32 b.toNat) := by
 have h : (c ^^^ BitVec.ofNat 32 b.toNat) >>> 1 = c >>> 1 := by
  rw [BitVec.ushiftRight_xor_distrib]
  cases b <;> simp
 unfold bitStep step
 rw [h, BitVec.getLsbD_xor]
 cases b <;> simp
theorem bitRun_eq (c : B32) (x : UInt8) (k : Nat) (hk : k ≤ 8) : bitRun c x k ^^^ BitVec.ofNat 32 (x.toNat >>> k) = steps k (c ^^^ BitVec.ofNat 32 x.toNat) := by
 induction k with
 | zero => rfl
 | succ k ih =>
  have ih := ih (by omega)
  rw [steps_succ, ← ih, bitRun, bitStep_eq]
  have e : BitVec.ofNat 32 (x.toNat >>> k) = BitVec.ofNat 32 (x.toNat.testBit k).toNat ^^^ (BitVec.ofNat 32 (x.toNat >>> (k + 1)) <<< 1) := by
   apply BitVec.eq_of_getLsbD_eq
   intro i hi
   rw [BitVec.getLsbD_xor, BitVec.getLsbD_shiftLeft, BitVec.getLsbD_ofNat, BitVec.getLsbD_ofNat, BitVec.getLsbD_ofNat, Nat.testBit_shiftRight, Nat.testBit_shiftRight]
   cases i with
   | zero => cases x.toNat.testBit k <;> simp
   | succ i =>
    have : (x.toNat.testBit k).toNat.testBit (i + 1) = false := by cases x.toNat.testBit k <;> simp [Nat.testBit_succ]
    simp [this, hi, show i < 32 by omega, show k + 1 + i = k + (i + 1) by omega]
  have e2 : step (BitVec.ofNat 32 (x.toNat >>> (k + 1)) <<< 1) = BitVec.ofNat 32 (x.toNat >>> (k + 1)) := by
   unfold step
   rw [if_neg (by simp)]
   apply BitVec.eq_of_getLsbD_eq
   intro i hi
   rw [BitVec.getLsbD_ushiftRight, BitVec.getLsbD_shiftLeft]
   have : (x.toNat >>> (k+1)).testBit i = false ∨ i < 31 := by
    by_cases h : i < 31
    ·exact .inr h
    ·left; apply Nat.testBit_lt_two_pow
     have := x.toNat_lt
     have h2 : x.toNat >>> (k+1) ≤ x.toNat := Nat.shiftRight_le ..
     exact Nat.lt_of_le_of_lt h2 (Nat.lt_of_lt_of_le this (Nat.pow_le_pow_right (by omega) (by omega)))
   rcases this with h | h
   ·rw [BitVec.getLsbD_ofNat, BitVec.getLsbD_ofNat]
    rw [show 1 + i - 1 = i by omega, h]; simp
   ·simp [show 1 + i < 32 by omega]
  rw [e, show bitRun c x k ^^^ (BitVec.ofNat 32 (x.toNat.testBit k).toNat ^^^ BitVec.ofNat 32 (x.toNat >>> (k + 1)) <<< 1) = (bitRun c x k ^^^ BitVec.ofNat 32 (x.toNat.testBit k).toNat) ^^^ (BitVec.ofNat 32 (x.toNat >>> (k + 1)) <<< 1) by ac_rfl, step_xor (bitRun c x k ^^^ BitVec.ofNat 32 (x.toNat.testBit k).toNat), e2]
theorem bitRun_byte (c : B32) (x : UInt8) : bitRun c x 8 = byteStep c x := by
 have h := bitRun_eq c x 8 (by omega)
 have hx : x.toNat >>> 8 = 0 := by have := x.toNat_lt; rw [Nat.shiftRight_eq_div_pow]; omega
 rw [hx] at h
 unfold byteStep
 rw [← h]; simp
theorem run_snoc (c : B32) (a : List UInt8) (x : UInt8) : run c (a ++ [x]) = byteStep (run c a) x := by simp [run]
def lay (a b : List UInt8) : List UInt8 := List.zipWith (· ^^^ ·) a b
end PbCrc

/-
  Slices of structs in memory; what mark.Fates and pillarboxref10.Fates compute, as plain data.
  Texts as lists of bytes.
  The walks of addr: Split, Parse.
  The walks of addr.Parse and env.box.
  What the reference computes of marks: their bytes.
  The walks of pillarboxref05: plain, Cut; strings' bytes and parts in the walk.
  The walk of pillarboxref05.Domain.
  The walk of pillarboxref05.Local.
  The walk of pillarboxref05.Small.
  The walk of pillarboxref05.Split.
  The walks of pillarboxref05.Parse and pillarboxref10.box.
  The walks of env.within, pillarboxref10.Body, dots.Lines.
-/
import Derived.Test.YtffnbkmigapmjaaGreatDoorT3
import Derived.Test.YtffnbkmigapmjaaGreatDoorT4
import Derived.Test.YtffnbkmigapmjaaGreatDoorT6
import Derived.Laws.Concat
import Derived.Laws.BytesArg
import Derived.Deep.RegionHeld3
import Derived.Laws.IdiomStrings
set_option linter.unusedSimpArgs false
set_option linter.unusedVariables false
namespace Go.Proofs.YtffnbkmigapmjaaGreatDoor
open Go.RowKit
/-- The slice value v holds the elements xs, each of s cells. -/
def RdL {α : Type} (s : Nat) (f : α → List Value) (w : World) (v : Value) (xs : List α) : Prop :=
  (∃ a c, v = .slice a 0 c ∧ c ≤ 9223372036854775807 ∧ xs = []) ∨ ∃ b off cap, v = .slice (some ⟨b, off, none⟩) xs.length cap ∧ xs ≠ [] ∧ xs.length ≤ cap ∧ cap ≤ 9223372036854775807 ∧ b < w.heap.size ∧ ∀ (i : Nat) x, xs[i]? = some x → ∀ (j : Nat) u, (f x)[j]? = some u → w.cell? ⟨b, off + (i * s + j), none⟩ = some u
section
variable {α : Type} {s : Nat} {f : α → List Value}
theorem RdL.below {B : Nat} {w w' : World} {v : Value} {xs : List α} (h : RdL s f w v xs) (hB : w.heap.size ≤ B) (hb : Below B w w') : RdL s f w' v xs := by
  rcases h with ⟨a, c, h1, h2⟩ | ⟨b, off, cap, h1, h0, h2, h3, h4, h5⟩
  · exact .inl ⟨a, c, h1, h2⟩
  · exact .inr ⟨b, off, cap, h1, h0, h2, h3, Nat.lt_of_lt_of_le h4 hb.size, fun i x hx j u hu => (hb.cell (p := ⟨b, off + (i * s + j), none⟩) (by exact Nat.lt_of_lt_of_le h4 hB)).trans (h5 i x hx j u hu)⟩
theorem RdL.form {w : World} {v : Value} {xs : List α} (h : RdL s f w v xs) : ∃ a cap, v = .slice a xs.length cap ∧ xs.length ≤ cap ∧ cap ≤ 9223372036854775807 := by
  rcases h with ⟨a, c, rfl, hc, rfl⟩ | ⟨b, off, cap, rfl, h0, h1, h2, _, _⟩
  · exact ⟨a, c, rfl, Nat.zero_le _, hc⟩
  · exact ⟨_, cap, rfl, h1, h2⟩
theorem RdL.lt {w : World} {v : Value} {xs : List α} (h : RdL s f w v xs) (hne : xs ≠ []) : ∀ k, v.ownBlock = some k → k < w.heap.size := by
  rcases h with ⟨_, _, _, _, h⟩ | ⟨b, off, cap, h, _, _, _, h4, _⟩
  · exact absurd h hne
  · subst h; intro k hk; cases hk; exact h4
theorem RdL.keeps {F : Nat → Prop} {w w' : World} {v : Value} {xs : List α} (h : RdL s f w v xs) (hk : Keeps F w w') (hF : ∀ b o l c, v = .slice (some ⟨b, o, none⟩) l c → ¬ F b) : RdL s f w' v xs := by
  rcases h with ⟨a, c, h1, h2⟩ | ⟨b, off, cap, h1, h0, h2, h3, h4, h5⟩
  · exact .inl ⟨a, c, h1, h2⟩
  · exact .inr ⟨b, off, cap, h1, h0, h2, h3, Nat.lt_of_lt_of_le h4 hk.size, fun i x hx j u hu => (World.cell?_of_block (hk.block b h4 (hF b off _ _ h1))).trans (h5 i x hx j u hu)⟩
/-- Where an element is read. -/
theorem RdL.at {w : World} {v : Value} {xs : List α} (h : RdL s f w v xs) {i : Nat} {x : α} (hx : xs[i]? = some x) : ∃ b off cap, v = .slice (some ⟨b, off, none⟩) xs.length cap ∧ b < w.heap.size ∧ ∀ (j : Nat) u, (f x)[j]? = some u → w.cell? ⟨b, off + (i * s + j), none⟩ = some u := by
  rcases h with ⟨_, _, _, _, rfl⟩ | ⟨b, off, cap, h1, h0, h2, h3, h4, h5⟩
  · cases hx
  · exact ⟨b, off, cap, h1, h4, h5 i x hx⟩
theorem flat_get (hf : ∀ x, (f x).length = s) (hs : 0 < s) : ∀ (xs : List α) (i : Nat) (x : α), xs[i]? = some x → ∀ j, j < s → (xs.flatMap f)[i * s + j]? = (f x)[j]? := by
  intro xs
  induction xs with
  | nil => intro i x h; cases h
  | cons y ys ih =>
    intro i x h j hj
    rw [List.flatMap_cons]
    cases i with
    | zero => simp at h; subst h; rw [Nat.zero_mul, Nat.zero_add, List.getElem?_append_left (by rw [hf]; exact hj)]
    | succ i =>
      rw [List.getElem?_append_right (by rw [hf, Nat.succ_mul]; omega), hf, show (i + 1) * s + j - s = i * s + j by rw [Nat.succ_mul]; omega]
      exact ih i x (by simpa using h) j hj
theorem flat_len (hf : ∀ x, (f x).length = s) (xs : List α) : (xs.flatMap f).length = xs.length * s := by
  induction xs with
  | nil => simp
  | cons y ys ih => rw [List.flatMap_cons, List.length_append, hf, ih, List.length_cons, Nat.succ_mul]; omega
/-- A row that the call owns. -/
theorem rdL_own (hf : ∀ x, (f x).length = s) (hs : 0 < s) {w : World} {base g n cap : Nat} {e : TypeId} {xs : List α} (h : w.ownsRow base e s (.slice (some ⟨g, 0, none⟩) n cap) n (xs.flatMap f)) (hm0 : cap ≤ maxLen) : RdL s f w (.slice (some ⟨g, 0, none⟩) n cap) xs := by
  have hn : n = xs.length := by
    have := h.1
    rw [flat_len hf] at this
    exact (Nat.eq_of_mul_eq_mul_right hs this).symm
  subst hn
  by_cases hne : xs = []
  · subst hne; exact .inl ⟨_, _, rfl, hm0, rfl⟩
  obtain ⟨h1, h2 | ⟨g', cap', cur, hv, hg, hh, hc, hm, hsz, _⟩⟩ := id h
  · cases h2.1
  · cases hv
    refine .inr ⟨g, 0, cap, rfl, hne, hc, hm, (Array.getElem?_eq_some_iff.1 hh).1, fun i x hx j u hu => ?_⟩
    have hj : j < s := by have := (List.getElem?_eq_some_iff.1 hu).1; rw [hf] at this; exact this
    have hi : i < xs.length := (List.getElem?_eq_some_iff.1 hx).1
    have hlt : i * s + j < xs.length * s := by
      calc i * s + j < i * s + s := by omega
        _ = (i + 1) * s := by rw [Nat.succ_mul]
        _ ≤ xs.length * s := Nat.mul_le_mul_right _ hi
    rw [Nat.zero_add, h.cellAt _ hlt, flat_get hf hs _ _ _ hx _ hj, hu]
theorem rdL_ofOwn (hf : ∀ x, (f x).length = s) (hs : 0 < s) {w : World} {base n : Nat} {e : TypeId} {xs : List α} {v : Value} (h : w.ownsRow base e s v n (xs.flatMap f)) : RdL s f w v xs := by
  obtain ⟨h1, h2 | ⟨g, cap, cur, hv, hg, hh, hc, hm, hsz, ht⟩⟩ := id h
  · refine .inl ⟨none, 0, h2.1, by omega, ?_⟩
    have := h.1
    rw [flat_len hf, h2.2] at this
    rcases Nat.mul_eq_zero.1 (this.trans (Nat.zero_mul _)) with h | h
    · exact List.length_eq_zero_iff.1 h
    · omega
  · subst hv; exact rdL_own hf hs h hm
end
theorem mark_len (k : MarkD) : k.cells.length = 3 := rfl
abbrev RdM := RdL 3 MarkD.cells
theorem RdL.at3 {w : World} {v : Value} {ks : List MarkD} (h : RdM w v ks) {i : Nat} {k : MarkD} (hk : ks[i]? = some k) :
    ∃ b off cap, v = .slice (some ⟨b, off, none⟩) ks.length cap ∧ b < w.heap.size ∧ w.cell? ⟨b, off + i * 3, none⟩ = some (.int .i64 k.kind) ∧ w.cell? ⟨b, off + i * 3 + 1, none⟩ = some (.int .i64 k.rcpt) ∧ w.cell? ⟨b, off + i * 3 + 2, none⟩ = some (.int .i64 k.n) := by
  obtain ⟨b, off, cap, h1, h2, h3⟩ := h.at hk
  exact ⟨b, off, cap, h1, h2, h3 0 _ rfl, h3 1 _ rfl, h3 2 _ rfl⟩
def FateD.zero : FateD := ⟨0, 0, 0, 0, false⟩
end Go.Proofs.YtffnbkmigapmjaaGreatDoor

set_option linter.unusedSimpArgs false
set_option linter.unusedVariables false
namespace Go.Proofs.YtffnbkmigapmjaaGreatDoor
open Go.RowKit
/-- A text of bytes. -/
def strL (l : List UInt8) : ByteArray := ⟨l.toArray⟩
theorem strL_data (l : List UInt8) : (strL l).data.toList = l := by simp [strL]
theorem strL_of (s : ByteArray) : strL s.data.toList = s := by cases s; simp [strL]
theorem strL_size (l : List UInt8) : (strL l).size = l.length := by rw [show (strL l).size = (strL l).data.toList.length by rw [Array.length_toList]; rfl, strL_data]
theorem strL_inj {a b : List UInt8} (h : strL a = strL b) : a = b := by have := congrArg (fun s : ByteArray => s.data.toList) h; simpa [strL_data] using this
theorem strL_append (a b : List UInt8) : strL a ++ strL b = strL (a ++ b) := by
  have h : (strL a ++ strL b).data.toList = a ++ b := by
    rw [ByteArray.data_append, Array.toList_append, strL_data, strL_data]
  rw [← strL_of (strL a ++ strL b), h]
def s1 (l : List UInt8) : List Value := [.string (strL l)]
theorem s1_len (l : List UInt8) : (s1 l).length = 1 := rfl
theorem s1_one (ls : List (List UInt8)) : ∀ c ∈ ls.flatMap s1, c.oneCell' = true := by
  intro c hc
  obtain ⟨l, _, h⟩ := List.mem_flatMap.1 hc
  rw [s1, List.mem_singleton] at h
  subst h; rfl
/-- A slice of texts. -/
abbrev RdS := RdL 1 s1
theorem RdS.at {w : World} {v : Value} {ls : List (List UInt8)} (h : RdS w v ls) {i : Nat} {l : List UInt8} (hl : ls[i]? = some l) :
    ∃ b off cap, v = .slice (some ⟨b, off, none⟩) ls.length cap ∧ b < w.heap.size ∧ w.cell? ⟨b, off + i, none⟩ = some (.string (strL l)) := by
  obtain ⟨b, off, cap, h1, h2, h3⟩ := RdL.at h hl
  have := h3 0 _ rfl
  rw [Nat.mul_one, Nat.add_zero] at this
  exact ⟨b, off, cap, h1, h2, this⟩
theorem run_strL {w : World} {v : Value} {bs : List UInt8} (h : RdB w v bs) : (convert 22 9 v).run Tryz.prog w = .ok (.string (strL bs)) w := by
  rcases h with ⟨a, c, rfl, _, rfl⟩ | ⟨b, off, cap, rfl, h0, h1, h2, h3, h4⟩
  · cases a with
    | none => simp [convert, run_underlying Tryz.underlying22, run_underlying Tryz.underlying9, run_underlying Tryz.underlying5, Conv.bytesToString, go_sem]; rfl
    | some a => simp [convert, run_underlying Tryz.underlying22, run_underlying Tryz.underlying9, run_underlying Tryz.underlying5, Conv.bytesToString, loadCells, go_sem]; rfl
  · have := run_convert_bytes_arg (P := Tryz.prog) w 22 5 Tryz.underlying22 Tryz.underlying5 b off bs.length cap (bs.map fun x => (x.toNat : Int)) (by simp) (fun i hi => by
      rw [h4 i bs[i] (List.getElem?_eq_getElem hi)]
      simp [List.getD, List.getElem?_eq_getElem hi]) 9 Tryz.underlying9
    rw [this]
    have e : strOfNums (bs.map fun x => (x.toNat : Int)) = strL bs := by simp [strL, strOfNums, Function.comp_def]
    rw [e]
end Go.Proofs.YtffnbkmigapmjaaGreatDoor

set_option linter.unusedSimpArgs false
set_option linter.unusedVariables false
namespace Go.Proofs.YtffnbkmigapmjaaGreatDoor
open Go.RowKit
theorem only_ascii {o l : List UInt8} (ho : ∀ c ∈ o, c.toNat < 128) (h : onlyB o l = true) : ∀ c ∈ l, c.toNat < 128 := by
  intro c hc
  unfold onlyB at h
  have := List.all_eq_true.1 h c hc
  rcases Bool.or_eq_true _ _ ▸ this with h1 | h1
  · unfold plainB at h1
    simp only [Bool.or_eq_true, decide_eq_true_eq] at h1
    omega
  · exact ho c (by simpa using h1)
theorem pieces_all {c : UInt8} {l : List UInt8} {p : UInt8 → Prop} (hc : p c) (h : ∀ q ∈ piecesAt c l, ∀ x ∈ q, p x) : ∀ x ∈ l, p x := by
  induction l with
  | nil => intro x hx; cases hx
  | cons y ys ih =>
    by_cases hy : y = c
    · subst hy
      simp only [piecesAt, if_pos] at h
      intro x hx
      rcases List.mem_cons.1 hx with rfl | hx
      · exact hc
      · exact ih (fun q hq => h q (List.mem_cons_of_mem _ hq)) x hx
    · simp only [piecesAt, if_neg hy] at h
      cases he : piecesAt c ys with
      | nil => have := pieces_pos c ys; rw [he] at this; simp at this
      | cons q qs =>
        rw [he] at h ih
        simp only at h
        intro x hx
        have h0 := h (y :: q) List.mem_cons_self
        rcases List.mem_cons.1 hx with rfl | hx
        · exact h0 _ List.mem_cons_self
        · refine ih (fun r hr z hz => ?_) x hx
          rcases List.mem_cons.1 hr with rfl | hr
          · exact h0 z (List.mem_cons_of_mem _ hz)
          · exact h r (List.mem_cons_of_mem _ hr) z hz
theorem domain_ascii {l : List UInt8} (h : domainB l = true) : ∀ c ∈ l, c.toNat < 128 := by
  unfold domainB at h
  rw [Bool.and_eq_true] at h
  refine pieces_all (c := 46) (by decide) (fun q hq => ?_)
  have := List.all_eq_true.1 h.1 q hq
  unfold labelB at this
  rw [Bool.and_eq_true, Bool.and_eq_true] at this
  exact only_ascii (by decide) this.1.2
/-- What Split answers. -/
def splitVal : Option (List UInt8 × List UInt8) → Value
  | some p => .tuple #[.string (strL p.1), .string (strL p.2), .bool true]
  | none => .tuple #[.string ⟨#[]⟩, .string ⟨#[]⟩, .bool false]
set_option maxRecDepth 100000 in
set_option maxHeartbeats 4000000 in
theorem addrSplit_calls (s : ByteArray) (w : World) (hs : s.size < 4294967281) (hmax : MaxOk w) :
    Calls Tryz.prog 219 #[.string s] w fun e w' => e = .returned (splitVal (splitBox s.data.toList)) ∧ Below w.heap.size w w' := by
  obtain ⟨m, hm⟩ := id hmax
  have hcut := Tryz.strings_Cut s ⟨#[64]⟩ m w hs hm
  rw [show (⟨#[64]⟩ : ByteArray).data.toList = [64] from rfl, cut_one] at hcut
  have hl := size_len s
  have hix := index_one 64 s.data.toList
  unfold splitBox
  have Hmax := Lib.hid hmax
  clear hmax hm
  cases hca : cutAt 64 s.data.toList with
  | none =>
    rw [hca] at hcut
    simp only at hcut
    have Hcut := Lib.hid hcut
    clear hcut hca hix hl
    go_enter Tryz.func219, Tryz.ntmps219
    go_wp2_with fail
    refine (Hcut.out).mono ?_; rintro e w1 ⟨rfl, n, rfl⟩
    go_wp2
    go_ret3
    exact ⟨rfl, below_drewN (Below.refl _ _) _⟩
  | some p =>
    obtain ⟨a, d⟩ := p
    rw [hca] at hcut
    simp only at hcut ⊢
    have hsp : s.data.toList = a ++ 64 :: d := by
      rcases hix with ⟨h1, _⟩ | ⟨x, y, h1, h2, _⟩
      · rw [hca] at h1; cases h1
      · rw [hca] at h1; cases h1; exact h2
    have hla : (strL a).size < 4294967281 := by rw [strL_size]; have := congrArg List.length hsp; simp at this; omega
    have hld : (strL d).size < 4294967281 := by rw [strL_size]; have := congrArg List.length hsp; simp at this; omega
    have h1 := fun W hM => addrLocal_calls (strL a) W hla hM
    have h2 := fun W hM => addrDomain_calls (strL d) W hld hM
    rw [strL_data] at h1 h2
    have h3 : domainB d = true → ∀ W, Calls Tryz.prog 239 #[.string (strL d)] W fun e w' => e = .returned (.string (strL (Lib.toLowerA d))) ∧ Below W.heap.size W w' := by
      intro hd W
      have := Tryz.strings_ToLower_ascii (strL d) W (by omega) (fun j b hb => by rw [strL_data] at hb; exact domain_ascii hd b (List.mem_of_getElem? hb))
      rw [strL_data] at this
      exact this
    rw [show (⟨a.toArray⟩ : ByteArray) = strL a from rfl, show (⟨d.toArray⟩ : ByteArray) = strL d from rfl] at hcut
    have hlen : s.data.toList.length = s.size := hl.symm
    rw [hlen]
    generalize hlow : strL (Lib.toLowerA d) = low at h3
    generalize localB a = p at h1
    generalize domainB d = q at h2 h3
    have Hcut := Lib.hid hcut
    have H1 := Lib.hid h1
    have H2 := Lib.hid h2
    have Hlow := Lib.hid hlow
    have Hla := Lib.hid hla
    generalize hsa : strL a = sa at Hcut H1
    generalize hsd : strL d = sd at Hcut H2 h3
    have H3 := Lib.hid h3
    have Hsa := Lib.hid hsa
    clear hcut h1 h2 h3 hca hix hl hsp hla hld hlen hlow hsa hsd Hla
    cases p
    · go_enter Tryz.func219, Tryz.ntmps219
      go_wp2_with fail
      refine (Hcut.out).mono ?_; rintro e w1 ⟨rfl, n, rfl⟩
      have hb1 : Below w.heap.size w (w.drewN n) := below_drewN (Below.refl _ _) _
      go_wp2_with fail
      refine (H1.out _ (Hmax.out.below hb1)).mono ?_; rintro e w2 ⟨rfl, hb2⟩
      go_wp2
      go_ret3
      exact ⟨rfl, hb1.trans (hb2.mono hb1.size)⟩
    · cases q
      · go_enter Tryz.func219, Tryz.ntmps219
        go_wp2_with fail
        refine (Hcut.out).mono ?_; rintro e w1 ⟨rfl, n, rfl⟩
        have hb1 : Below w.heap.size w (w.drewN n) := below_drewN (Below.refl _ _) _
        go_wp2_with fail
        refine (H1.out _ (Hmax.out.below hb1)).mono ?_; rintro e w2 ⟨rfl, hb2⟩
        have hb2' := hb1.trans (hb2.mono hb1.size)
        go_wp2_with fail
        refine (H2.out _ (Hmax.out.below hb2')).mono ?_; rintro e w3 ⟨rfl, hb3⟩
        go_wp2
        go_ret3
        exact ⟨rfl, hb2'.trans (hb3.mono hb2'.size)⟩
      · by_cases h64 : (64 : Int) < (s.size : Int)
        · have hd : decide (s.size ≤ 64) = false := decide_eq_false (by omega)
          rw [hd]
          clear hd
          go_enter Tryz.func219, Tryz.ntmps219
          go_wp2_with fail
          refine (Hcut.out).mono ?_; rintro e w1 ⟨rfl, n, rfl⟩
          have hb1 : Below w.heap.size w (w.drewN n) := below_drewN (Below.refl _ _) _
          go_wp2_with fail
          refine (H1.out _ (Hmax.out.below hb1)).mono ?_; rintro e w2 ⟨rfl, hb2⟩
          have hb2' := hb1.trans (hb2.mono hb1.size)
          go_wp2_with fail
          refine (H2.out _ (Hmax.out.below hb2')).mono ?_; rintro e w3 ⟨rfl, hb3⟩
          go_wp2
          go_ret3
          exact ⟨rfl, hb2'.trans (hb3.mono hb2'.size)⟩
        · have hd : decide (s.size ≤ 64) = true := decide_eq_true (by omega)
          rw [hd]
          clear hd
          go_enter Tryz.func219, Tryz.ntmps219
          go_wp2_with fail
          refine (Hcut.out).mono ?_; rintro e w1 ⟨rfl, n, rfl⟩
          have hb1 : Below w.heap.size w (w.drewN n) := below_drewN (Below.refl _ _) _
          go_wp2_with fail
          refine (H1.out _ (Hmax.out.below hb1)).mono ?_; rintro e w2 ⟨rfl, hb2⟩
          have hb2' := hb1.trans (hb2.mono hb1.size)
          go_wp2_with fail
          refine (H2.out _ (Hmax.out.below hb2')).mono ?_; rintro e w3 ⟨rfl, hb3⟩
          have hb3' := hb2'.trans (hb3.mono hb2'.size)
          go_wp2_with fail
          refine (H3.out (by trivial) _).mono ?_; rintro e w4 ⟨rfl, hb4⟩
          go_wp2
          go_ret3
          exact ⟨by rw [← Hlow.out, ← Hsa.out]; rfl, hb3'.trans (hb4.mono hb3'.size)⟩
end Go.Proofs.YtffnbkmigapmjaaGreatDoor

set_option linter.unusedSimpArgs false
set_option linter.unusedVariables false
namespace Go.Proofs.YtffnbkmigapmjaaGreatDoor
open Go.RowKit
/-- What Parse answers. -/
def parseVal : Option (List UInt8) → Value
  | some t => .tuple #[.string (strL t), .bool true]
  | none => .tuple #[.string ⟨#[]⟩, .bool false]
theorem splitBox_len {s : List UInt8} {p : List UInt8 × List UInt8} (h : splitBox s = some p) : p.1.length ≤ 64 ∧ p.2.length ≤ 64 := by
  unfold splitBox at h
  rcases index_one 64 s with ⟨h1, _⟩ | ⟨a, d, h1, h2, _⟩
  · rw [h1] at h; cases h
  · rw [h1] at h
    simp only at h
    split at h
    · next hc =>
      cases h
      rw [Bool.and_eq_true, decide_eq_true_eq] at hc
      have := congrArg List.length h2
      simp at this
      simp only [Lib.toLowerA, List.length_map]
      omega
    · cases h
set_option maxRecDepth 100000 in
set_option maxHeartbeats 4000000 in
theorem addrParse_calls (s : ByteArray) (w : World) (hs : s.size < 4294967281) (hmax : MaxOk w) :
    Calls Tryz.prog 199 #[.string s] w fun e w' => e = .returned (parseVal (parseBox s.data.toList)) ∧ Below w.heap.size w w' := by
  have h1 := addrSplit_calls s w hs hmax
  unfold parseBox
  cases hp : splitBox s.data.toList with
  | none =>
    rw [hp] at h1
    simp only [splitVal] at h1
    have H1 := Lib.hid h1
    clear h1 hp
    go_enter Tryz.func199, Tryz.ntmps199
    go_wp2_with fail
    refine (H1.out).mono ?_; rintro e w1 ⟨rfl, hb1⟩
    go_wp2
    go_ret2
    exact ⟨rfl, hb1⟩
  | some p =>
    obtain ⟨ln1, ln2⟩ := splitBox_len hp
    obtain ⟨n, d⟩ := p
    rw [hp] at h1
    simp only [splitVal] at h1 ln1 ln2
    have e1 : ((strL n).size : Int) ≤ 8388608 := by rw [strL_size]; omega
    have e2 : ((strL d).size : Int) ≤ 8388608 := by rw [strL_size]; omega
    have e3 : ((strL n ++ ⟨#[64]⟩).size : Int) ≤ 8388608 := by
      rw [show (⟨#[64]⟩ : ByteArray) = strL [64] from rfl, strL_append, strL_size]; simp; omega
    have hsum : strL n ++ ⟨#[64]⟩ ++ strL d = strL (n ++ 64 :: d) := by
      rw [show (⟨#[64]⟩ : ByteArray) = strL [64] from rfl, strL_append, strL_append]; simp
    have Hsum := Lib.hid hsum
    have H1 := Lib.hid h1
    generalize hsn : strL n = sn at H1 e1 e3 Hsum
    generalize hsd : strL d = sd at H1 e2 Hsum
    clear h1 hp hsum hsn hsd ln1 ln2
    go_enter Tryz.func199, Tryz.ntmps199
    go_wp2_with fail
    refine (H1.out).mono ?_; rintro e w1 ⟨rfl, hb1⟩
    go_wp2
    go_ret2
    refine ⟨?_, hb1⟩
    show _ = Ending.returned (.tuple #[.string (strL (n ++ 64 :: d)), .bool true])
    rw [← Hsum.out]; rfl
set_option maxRecDepth 100000 in
set_option maxHeartbeats 4000000 in
theorem envBox_calls (s : ByteArray) (w : World) (hs : s.size < 4294967281) (hmax : MaxOk w) :
    Calls Tryz.prog 162 #[.string s] w fun e w' => e = .returned (.bool (boxB s.data.toList)) ∧ Below w.heap.size w w' := by
  have h1 := addrParse_calls s w hs hmax
  unfold boxB
  cases hp : parseBox s.data.toList with
  | none =>
    rw [hp] at h1
    simp only [parseVal] at h1
    have H1 := Lib.hid h1
    clear h1 hp
    go_enter Tryz.func162, Tryz.ntmps162
    go_wp2_with fail
    refine (H1.out).mono ?_; rintro e w1 ⟨rfl, hb1⟩
    go_wp2
    go_ret
    exact ⟨rfl, hb1⟩
  | some t =>
    rw [hp] at h1
    simp only [parseVal] at h1
    have H1 := Lib.hid h1
    have hd : (some t == some s.data.toList) = ((strL t).toList == s.toList) := by
      by_cases h : t = s.data.toList
      · have h2 : strL t = s := by rw [h]; exact strL_of s
        rw [h2, h]; simp
      · have h2 : strL t ≠ s := fun e => h (by rw [← e, strL_data])
        rw [(Lib.bytes_beq_false_iff _ _).2 h2]
        simp [h]
    have Hd := Lib.hid hd
    clear h1 hp hd
    generalize strL t = st at H1 Hd
    go_enter Tryz.func162, Tryz.ntmps162
    go_wp2_with fail
    refine (H1.out).mono ?_; rintro e w1 ⟨rfl, hb1⟩
    go_wp2
    go_ret
    exact ⟨by rw [Hd.out]; rfl, hb1⟩
end Go.Proofs.YtffnbkmigapmjaaGreatDoor

set_option linter.unusedSimpArgs false
set_option linter.unusedVariables false
namespace Go.Proofs.YtffnbkmigapmjaaGreatDoor
open Go.RowKit
/-- Bytes, in a row of the call's own. -/
def RowDone (w : World) (bs : List UInt8) (e : Ending) (w' : World) : Prop :=
  ∃ v', e = .returned v' ∧ w'.ownsRow w.heap.size 5 1 v' bs.length (bs.map u8v) ∧ Below w.heap.size w w'
/-- Three cells below what a call has made, and nothing old has turned. -/
def Cells3 (w0 w : World) (x y z : Value) : Prop := w.cell? ⟨w0.heap.size, 0, none⟩ = some x ∧ w.cell? ⟨w0.heap.size, 1, none⟩ = some y ∧ w.cell? ⟨w0.heap.size, 2, none⟩ = some z ∧ Below w0.heap.size w0 w
theorem Cells3.lt {w0 w : World} {x y z : Value} (h : Cells3 w0 w x y z) : w0.heap.size < w.heap.size := World.block_lt_of_cell? w ⟨w0.heap.size, 0, none⟩ h.1
end Go.Proofs.YtffnbkmigapmjaaGreatDoor

set_option linter.unusedSimpArgs false
set_option linter.unusedVariables false
namespace Go.Proofs.YtffnbkmigapmjaaGreatDoor
open Go.RowKit
theorem nil_row0 (w : World) (base size : Nat) (e : TypeId) : w.ownsRow base e size (.slice none 0 0) 0 [] := ⟨by simp, .inl ⟨rfl, rfl⟩⟩
theorem infoStr : (Tryz.prog.info? 9).map (fun i => (i.zero, i.size, i.bytes)) = some (some (.string ByteArray.empty), 1, 16) := by kernel_rfl
end Go.Proofs.YtffnbkmigapmjaaGreatDoor

set_option linter.unusedSimpArgs false
set_option linter.unusedVariables false
namespace Go.Proofs.YtffnbkmigapmjaaGreatDoor
open Go.RowKit
end Go.Proofs.YtffnbkmigapmjaaGreatDoor

set_option linter.unusedSimpArgs false
set_option linter.unusedVariables false
namespace Go.Proofs.YtffnbkmigapmjaaGreatDoor
open Go.RowKit
end Go.Proofs.YtffnbkmigapmjaaGreatDoor

set_option linter.unusedSimpArgs false
set_option linter.unusedVariables false
namespace Go.Proofs.YtffnbkmigapmjaaGreatDoor
open Go.RowKit
/-- Bytes that were made of a text. -/
def BytesRow (w : World) (g : Nat) (bs : List UInt8) : Prop :=
  ∃ cs : Array Value, w.heap[g]? = some (.cells cs 5 (cs.size, cs.size + 1)) ∧ bs.length ≤ cs.size ∧ ∀ (i : Nat) x, bs[i]? = some x → cs[i]? = some (u8v x)
theorem BytesRow.cell {w : World} {g : Nat} {bs : List UInt8} (h : BytesRow w g bs) {i : Nat} {x : UInt8} (hx : bs[i]? = some x) :
    w.cell? ⟨g, i, none⟩ = some (.int .u8 x.toNat) ∧ w.frozen? ⟨g, i, none⟩ = false := by
  obtain ⟨cs, h1, h2, h3⟩ := h
  have hi := (List.getElem?_eq_some_iff.1 hx).1
  refine ⟨?_, ?_⟩
  · rw [cell_of_row _ _ _ _ _ _ h1]; exact h3 i x hx
  · unfold World.frozen?
    rw [h1]
    simp only [Bool.and_eq_false_iff, decide_eq_false_iff_not]
    left; omega
theorem BytesRow.store {w : World} {g : Nat} {bs : List UInt8} (h : BytesRow w g bs) (i : Nat) (x : UInt8) : BytesRow (w.setCell ⟨g, i, none⟩ (u8v x)) g (bs.set i x) := by
  obtain ⟨cs, h1, h2, h3⟩ := h
  refine ⟨cs.setIfInBounds i (u8v x), ?_, ?_, ?_⟩
  · rw [setCell_eq_setRow w g i cs 5 _ _ h1, Array.size_setIfInBounds]
    exact setRow_heap w g cs _ 5 _ h1
  · rw [List.length_set, Array.size_setIfInBounds]; exact h2
  · intro k y hy
    rw [List.getElem?_set] at hy
    rw [Array.getElem?_setIfInBounds]
    split at hy
    · next e =>
      subst e
      split at hy
      · next hlt =>
        cases hy
        rw [if_pos rfl, if_pos (by omega)]
      · cases hy
    · next e =>
      rw [if_neg e]; exact h3 k y hy
theorem set_same {α : Type} {l : List α} {i : Nat} {a : α} (h : l[i]? = some a) : l.set i a = l := by
  apply List.ext_getElem?
  intro k
  rw [List.getElem?_set]
  split
  · next e => subst e; rw [h, if_pos (List.getElem?_eq_some_iff.1 h).1]
  · rfl
end Go.Proofs.YtffnbkmigapmjaaGreatDoor

set_option linter.unusedSimpArgs false
set_option linter.unusedVariables false
namespace Go.Proofs.YtffnbkmigapmjaaGreatDoor
open Go.RowKit
end Go.Proofs.YtffnbkmigapmjaaGreatDoor

set_option linter.unusedSimpArgs false
set_option linter.unusedVariables false
namespace Go.Proofs.YtffnbkmigapmjaaGreatDoor
open Go.RowKit
end Go.Proofs.YtffnbkmigapmjaaGreatDoor

set_option linter.unusedSimpArgs false
set_option linter.unusedVariables false
namespace Go.Proofs.YtffnbkmigapmjaaGreatDoor
open Go.RowKit
set_option maxHeartbeats 1000000 in
theorem envWithin_calls (n a b : Int) (w : World) :
    Calls Tryz.prog 160 #[.int .i64 n, .int .i64 a, .int .i64 b] w fun e w' => e = .returned (.bool (decide (a ≤ n ∧ n ≤ b))) ∧ w' = w := by
  by_cases h1 : a ≤ n
  · by_cases h2 : n ≤ b
    · rw [decide_eq_true ⟨h1, h2⟩]
      go_enter Tryz.func160, Tryz.ntmps160
      go_wp2
      go_ret
      exact ⟨by first | rfl | simp [h1, h2], rfl⟩
    · rw [decide_eq_false (fun h => h2 h.2)]
      go_enter Tryz.func160, Tryz.ntmps160
      go_wp2
      go_ret
      exact ⟨by first | rfl | simp [h1, h2], rfl⟩
  · rw [decide_eq_false (fun h => h1 h.1)]
    go_enter Tryz.func160, Tryz.ntmps160
    go_wp2
    go_ret
    exact ⟨by first | rfl | simp [h1], rfl⟩
/-- A body: no CR, and whole lines. -/
def bodyB (bs : List UInt8) : Bool := !bs.contains 13 && (decide (bs.length = 0) || bs.getLast? == some 10)
end Go.Proofs.YtffnbkmigapmjaaGreatDoor

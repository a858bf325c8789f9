/-
  Slices of structs in memory; what mark.Fates and pillarboxref10.Fates compute, as plain data.
-/
import Derived.Test.YtfgmnachckbimaaStep
set_option linter.unusedSimpArgs false
set_option linter.unusedVariables false
namespace Go.Proofs.Ytfgmnachckbimaa
open Go.RowKit
/-- The slice value v holds the elements xs, each of s cells. -/
def RdL {α : Type} (s : Nat) (f : α → List Value) (w : World) (v : Value) (xs : List α) : Prop :=
  (∃ a c, v = .slice a 0 c ∧ c ≤ 9223372036854775807 ∧ xs = []) ∨ ∃ b off cap, v = .slice (some ⟨b, off, none⟩) xs.length cap ∧ xs ≠ [] ∧ xs.length ≤ cap ∧ cap ≤ 9223372036854775807 ∧ b < w.heap.size ∧ ∀ (i : Nat) x, xs[i]? = some x → ∀ (j : Nat) u, (f x)[j]? = some u → w.cell? ⟨b, off + (i * s + j), none⟩ = some u
section
variable {α : Type} {s : Nat} {f : α → List Value}
theorem RdL.below {B : Nat} {w w' : World} {v : Value} {xs : List α} (h : RdL s f w v xs) (hB : w.heap.size ≤ B) (hb : Below B w w') : RdL s f w' v xs := by
  rcases h with ⟨a, c, h1, h2⟩ | ⟨b, off, cap, h1, h0, h2, h3, h4, h5⟩
  · exact .inl ⟨a, c, h1, h2⟩
  · exact .inr ⟨b, off, cap, h1, h0, h2, h3, Nat.lt_of_lt_of_le h4 hb.size, fun i x hx j u hu => (hb.cell (p := ⟨b, off + (i * s + j), none⟩) (by exact Nat.lt_of_lt_of_le h4 hB)).trans (h5 i x hx j u hu)⟩
theorem RdL.form {w : World} {v : Value} {xs : List α} (h : RdL s f w v xs) : ∃ a cap, v = .slice a xs.length cap ∧ xs.length ≤ cap ∧ cap ≤ 9223372036854775807 := by
  rcases h with ⟨a, c, rfl, hc, rfl⟩ | ⟨b, off, cap, rfl, h0, h1, h2, _, _⟩
  · exact ⟨a, c, rfl, Nat.zero_le _, hc⟩
  · exact ⟨_, cap, rfl, h1, h2⟩
theorem RdL.lt {w : World} {v : Value} {xs : List α} (h : RdL s f w v xs) (hne : xs ≠ []) : ∀ k, v.ownBlock = some k → k < w.heap.size := by
  rcases h with ⟨_, _, _, _, h⟩ | ⟨b, off, cap, h, _, _, _, h4, _⟩
  · exact absurd h hne
  · subst h; intro k hk; cases hk; exact h4
theorem RdL.keeps {F : Nat → Prop} {w w' : World} {v : Value} {xs : List α} (h : RdL s f w v xs) (hk : Keeps F w w') (hF : ∀ b o l c, v = .slice (some ⟨b, o, none⟩) l c → ¬ F b) : RdL s f w' v xs := by
  rcases h with ⟨a, c, h1, h2⟩ | ⟨b, off, cap, h1, h0, h2, h3, h4, h5⟩
  · exact .inl ⟨a, c, h1, h2⟩
  · exact .inr ⟨b, off, cap, h1, h0, h2, h3, Nat.lt_of_lt_of_le h4 hk.size, fun i x hx j u hu => (World.cell?_of_block (hk.block b h4 (hF b off _ _ h1))).trans (h5 i x hx j u hu)⟩
/-- Where an element is read. -/
theorem RdL.at {w : World} {v : Value} {xs : List α} (h : RdL s f w v xs) {i : Nat} {x : α} (hx : xs[i]? = some x) : ∃ b off cap, v = .slice (some ⟨b, off, none⟩) xs.length cap ∧ b < w.heap.size ∧ ∀ (j : Nat) u, (f x)[j]? = some u → w.cell? ⟨b, off + (i * s + j), none⟩ = some u := by
  rcases h with ⟨_, _, _, _, rfl⟩ | ⟨b, off, cap, h1, h0, h2, h3, h4, h5⟩
  · cases hx
  · exact ⟨b, off, cap, h1, h4, h5 i x hx⟩
theorem flat_get (hf : ∀ x, (f x).length = s) (hs : 0 < s) : ∀ (xs : List α) (i : Nat) (x : α), xs[i]? = some x → ∀ j, j < s → (xs.flatMap f)[i * s + j]? = (f x)[j]? := by
  intro xs
  induction xs with
  | nil => intro i x h; cases h
  | cons y ys ih =>
    intro i x h j hj
    rw [List.flatMap_cons]
    cases i with
    | zero => simp at h; subst h; rw [Nat.zero_mul, Nat.zero_add, List.getElem?_append_left (by rw [hf]; exact hj)]
    | succ i =>
      rw [List.getElem?_append_right (by rw [hf, Nat.succ_mul]; omega), hf, show (i + 1) * s + j - s = i * s + j by rw [Nat.succ_mul]; omega]
      exact ih i x (by simpa using h) j hj
theorem flat_len (hf : ∀ x, (f x).length = s) (xs : List α) : (xs.flatMap f).length = xs.length * s := by
  induction xs with
  | nil => simp
  | cons y ys ih => rw [List.flatMap_cons, List.length_append, hf, ih, List.length_cons, Nat.succ_mul]; omega
/-- A row that the call owns. -/
theorem rdL_own (hf : ∀ x, (f x).length = s) (hs : 0 < s) {w : World} {base g n cap : Nat} {e : TypeId} {xs : List α} (h : w.ownsRow base e s (.slice (some ⟨g, 0, none⟩) n cap) n (xs.flatMap f)) (hm0 : cap ≤ maxLen) : RdL s f w (.slice (some ⟨g, 0, none⟩) n cap) xs := by
  have hn : n = xs.length := by
    have := h.1
    rw [flat_len hf] at this
    exact (Nat.eq_of_mul_eq_mul_right hs this).symm
  subst hn
  by_cases hne : xs = []
  · subst hne; exact .inl ⟨_, _, rfl, hm0, rfl⟩
  obtain ⟨h1, h2 | ⟨g', cap', cur, hv, hg, hh, hc, hm, hsz, _⟩⟩ := id h
  · cases h2.1
  · cases hv
    refine .inr ⟨g, 0, cap, rfl, hne, hc, hm, (Array.getElem?_eq_some_iff.1 hh).1, fun i x hx j u hu => ?_⟩
    have hj : j < s := by have := (List.getElem?_eq_some_iff.1 hu).1; rw [hf] at this; exact this
    have hi : i < xs.length := (List.getElem?_eq_some_iff.1 hx).1
    have hlt : i * s + j < xs.length * s := by
      calc i * s + j < i * s + s := by omega
        _ = (i + 1) * s := by rw [Nat.succ_mul]
        _ ≤ xs.length * s := Nat.mul_le_mul_right _ hi
    rw [Nat.zero_add, h.cellAt _ hlt, flat_get hf hs _ _ _ hx _ hj, hu]
theorem rdL_ofOwn (hf : ∀ x, (f x).length = s) (hs : 0 < s) {w : World} {base n : Nat} {e : TypeId} {xs : List α} {v : Value} (h : w.ownsRow base e s v n (xs.flatMap f)) : RdL s f w v xs := by
  obtain ⟨h1, h2 | ⟨g, cap, cur, hv, hg, hh, hc, hm, hsz, ht⟩⟩ := id h
  · refine .inl ⟨none, 0, h2.1, by omega, ?_⟩
    have := h.1
    rw [flat_len hf, h2.2] at this
    rcases Nat.mul_eq_zero.1 (this.trans (Nat.zero_mul _)) with h | h
    · exact List.length_eq_zero_iff.1 h
    · omega
  · subst hv; exact rdL_own hf hs h hm
end
theorem mark_len (k : MarkD) : k.cells.length = 3 := rfl
theorem fate_len (k : FateD) : k.cells.length = 5 := rfl
abbrev RdM := RdL 3 MarkD.cells
abbrev RdF := RdL 5 FateD.cells
theorem RdL.at3 {w : World} {v : Value} {ks : List MarkD} (h : RdM w v ks) {i : Nat} {k : MarkD} (hk : ks[i]? = some k) :
    ∃ b off cap, v = .slice (some ⟨b, off, none⟩) ks.length cap ∧ b < w.heap.size ∧ w.cell? ⟨b, off + i * 3, none⟩ = some (.int .i64 k.kind) ∧ w.cell? ⟨b, off + i * 3 + 1, none⟩ = some (.int .i64 k.rcpt) ∧ w.cell? ⟨b, off + i * 3 + 2, none⟩ = some (.int .i64 k.n) := by
  obtain ⟨b, off, cap, h1, h2, h3⟩ := h.at hk
  exact ⟨b, off, cap, h1, h2, h3 0 _ rfl, h3 1 _ rfl, h3 2 _ rfl⟩
theorem RdL.at5 {w : World} {v : Value} {fs : List FateD} (h : RdF w v fs) {i : Nat} {f : FateD} (hf : fs[i]? = some f) :
    ∃ b off cap, v = .slice (some ⟨b, off, none⟩) fs.length cap ∧ b < w.heap.size ∧ w.cell? ⟨b, off + i * 5, none⟩ = some (.int .i64 f.state) ∧ w.cell? ⟨b, off + i * 5 + 1, none⟩ = some (.int .i64 f.tries) ∧ w.cell? ⟨b, off + i * 5 + 2, none⟩ = some (.int .i64 f.next) ∧ w.cell? ⟨b, off + i * 5 + 3, none⟩ = some (.int .i64 f.crashes) ∧ w.cell? ⟨b, off + i * 5 + 4, none⟩ = some (.bool f.opened) := by
  obtain ⟨b, off, cap, h1, h2, h3⟩ := h.at hf
  exact ⟨b, off, cap, h1, h2, h3 0 _ rfl, h3 1 _ rfl, h3 2 _ rfl, h3 3 _ rfl, h3 4 _ rfl⟩
/-- The cells and the frozen marks of an owned row of fates. -/
theorem own_at5 {w : World} {base g m cap : Nat} {fs : List FateD} {e : TypeId} (h : w.ownsRow base e 5 (.slice (some ⟨g, 0, none⟩) m cap) m (fs.flatMap FateD.cells)) {i : Nat} {f : FateD} (hf : fs[i]? = some f) :
    w.cell? ⟨g, i * 5, none⟩ = some (.int .i64 f.state) ∧ w.cell? ⟨g, i * 5 + 1, none⟩ = some (.int .i64 f.tries) ∧ w.cell? ⟨g, i * 5 + 2, none⟩ = some (.int .i64 f.next) ∧ w.cell? ⟨g, i * 5 + 3, none⟩ = some (.int .i64 f.crashes) ∧ w.cell? ⟨g, i * 5 + 4, none⟩ = some (.bool f.opened) ∧ (∀ j, w.frozen? ⟨g, j, none⟩ = false) := by
  have hr := rdL_ofOwn fate_len (by decide) h
  obtain ⟨b, off, c, h1, h2, h3, h4, h5, h6, h7⟩ := RdL.at5 hr hf
  have hfz := fun j => h.frozenAt j
  cases h1
  simp only [Nat.zero_add] at h3 h4 h5 h6 h7
  exact ⟨h3, h4, h5, h6, h7, hfz⟩
def FateD.zero : FateD := ⟨0, 0, 0, 0, false⟩
def putD (fs : List FateD) (k : MarkD) : List FateD := if k.good then fs.modify k.rcpt.toNat (stepD · k) else fs
def fatesD (m : Nat) (ks : List MarkD) : List FateD := ks.foldl putD (List.replicate m .zero)
theorem putD_length (fs : List FateD) (k : MarkD) : (putD fs k).length = fs.length := by unfold putD; split <;> simp
theorem foldD_length (ks : List MarkD) : ∀ fs : List FateD, (ks.foldl putD fs).length = fs.length := by
  induction ks with
  | nil => intro fs; rfl
  | cons k ks ih => intro fs; rw [List.foldl_cons, ih, putD_length]
theorem fatesD_length (m : Nat) (ks : List MarkD) : (fatesD m ks).length = m := by rw [fatesD, foldD_length, List.length_replicate]
theorem fatesD_snoc (m : Nat) (ks : List MarkD) (k : MarkD) : fatesD m (ks ++ [k]) = putD (fatesD m ks) k := by rw [fatesD, List.foldl_append]; rfl
/-- The cells of a row of fates behind one step. -/
theorem fates_set (fs : List FateD) (r : Nat) (g : FateD) (hr : r < fs.length) :
    (((((fs.flatMap FateD.cells).set (r * 5 + 0) (.int .i64 g.state)).set (r * 5 + 1) (.int .i64 g.tries)).set (r * 5 + 2) (.int .i64 g.next)).set (r * 5 + 3) (.int .i64 g.crashes)).set (r * 5 + 4) (.bool g.opened) = (fs.set r g).flatMap FateD.cells := by
  induction fs generalizing r with
  | nil => cases hr
  | cons y ys ih =>
    cases r with
    | zero => simp [List.flatMap_cons]
    | succ r =>
      have hi := ih r (by simpa using hr)
      simp only [List.flatMap_cons, List.set_cons_succ]
      have e : ∀ j, (r + 1) * 5 + j = (y.cells).length + (r * 5 + j) := by intro j; simp; omega
      rw [← hi]
      simp only [e, List.set_append_right _ _ (Nat.le_add_right _ _), Nat.add_sub_cancel_left]
end Go.Proofs.Ytfgmnachckbimaa

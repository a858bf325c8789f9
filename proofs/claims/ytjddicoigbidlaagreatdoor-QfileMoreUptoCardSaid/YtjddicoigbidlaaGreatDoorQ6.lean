/-
  A mail that comes in by value, where the statement bounds how great the arguments are: its strings are not longer than that.
-/
import Derived.Test.YtjddicoigbidlaaGreatDoorQ5
import Derived.Test.YtjddicoigbidlaaGreatDoorRows
set_option linter.unusedSimpArgs false
set_option linter.unusedVariables false
set_option maxRecDepth 100000
namespace Go.Proofs.YtjddicoigbidlaaGreatDoor
open Go.ChangeShapes Go.WideShapes Go.Deep Go.RowKit
theorem bulk_in {H : Type} {x : DataW H} : ∀ {l : List (DataW H)}, x ∈ l → Rows.uptoBulk x ≤ Rows.uptoBulkAll l := by
  intro l
  induction l with
  | nil => intro h; cases h
  | cons a r ih =>
    intro h
    rw [Rows.uptoBulkAll]
    rcases List.mem_cons.1 h with rfl | h
    · omega
    · have := ih h; omega
theorem bulk_part {H : Type} {x : DataW H} {l : List (DataW H)} (h : x ∈ l) : Rows.uptoBulk x ≤ Rows.uptoBulk (.agg l) := by
  rw [Rows.uptoBulk]; have := bulk_in h; omega
theorem bulk_str {H : Type} (l : List UInt8) : Rows.uptoBulk (H := H) (.lit (.string l)) = l.length + 1 := by
  simp [Rows.uptoBulk]
theorem bulk_all {H : Type} {l : List (DataW H)} {x : DataW H} (h : Rows.uptoSmall H l = true) (hx : x ∈ l) : Rows.uptoBulk x ≤ 1048576 := by
  have h2 : Rows.uptoBulkAll l ≤ 1048576 := by simpa [Rows.uptoSmall] using h
  have := bulk_in hx
  omega
theorem bulk_strs {H : Type} {y : DataW H × List MemPlace} {ss : List ByteArray} {l : Nat} {q' : List (DataW H)} {pl : List MemPlace} (h : y = (.slice (strs (ss.take l)) q', pl)) : ∀ s ∈ (ss.take l).map (fun s => s.data.toList), s.length ≤ Rows.uptoBulk y.1 := by
  subst h
  intro s hs
  obtain ⟨b, hb, rfl⟩ := List.mem_map.1 hs
  have hm : (DataW.lit (.string b.data.toList) : DataW H) ∈ strs (ss.take l) := by unfold strs; exact List.mem_map.2 ⟨b, hb, rfl⟩
  have := bulk_in hm
  rw [bulk_str] at this
  show _ ≤ Rows.uptoBulk (.slice _ _)
  rw [Rows.uptoBulk]
  omega
section
variable {H : Type} {enc : TypeId × Value → H} {W : World} {base : Nat} {held : Bool} {n : Nat} {c : Value} {y : DataW H × List MemPlace}
theorem rdS_trodU (h : DataW.trod enc Tryz.prog W base (fun _ => true) held n 22 [c] = some y) : ∃ ls, RdS W c ls ∧ NilOk c ∧ ∀ l ∈ ls, l.length ≤ Rows.uptoBulk y.1 := by
  rcases open_strings Tryz.underlying22 Tryz.underlying9 (by kernel_rfl) h with ⟨hcs, _⟩ | ⟨x, l, cp, ss, hcs, _, hl, hm, hz, hyy, hcell, hwz⟩
  · cases hcs
    exact ⟨[], .inl ⟨_, _, rfl, by decide, rfl⟩, (fun l c e => by cases e; exact ⟨rfl, rfl⟩), fun l hl => by cases hl⟩
  · cases hcs
    rw [if_pos rfl] at hz
    by_cases h0 : l = 0
    · subst h0
      exact ⟨[], .inl ⟨_, _, rfl, hm, rfl⟩, (fun l c e => by cases e), fun l hl => by cases hl⟩
    · obtain ⟨b, off, s⟩ := x
      have hs : s = none := by
        cases s with
        | none => rfl
        | some q =>
          have := hcell 0 (by omega)
          rw [Addr.add, if_pos rfl] at this
          unfold World.cell? at this
          split at this <;> simp at this
      subst hs
      refine ⟨(ss.take l).map fun s => s.data.toList, .inr ⟨b, off, cp, ?_, ?_, ?_, hm, ?_, ?_⟩, (fun l c e => by cases e), bulk_strs hyy⟩
      · rw [List.length_map, List.length_take, Nat.min_eq_left (by omega)]
      · rw [← List.length_pos_iff, List.length_map, List.length_take]; omega
      · rw [List.length_map, List.length_take]; omega
      · have := hcell 0 (by omega)
        rw [add_at] at this
        exact World.block_lt_of_cell? W ⟨b, off + 0, none⟩ this
      · intro i q hq j u hu
        rw [List.getElem?_map] at hq
        obtain ⟨s, hs, rfl⟩ := Option.map_eq_some_iff.1 hq
        rw [List.getElem?_take] at hs
        split at hs
        · have hi : i < ss.length := (List.getElem?_eq_some_iff.1 hs).1
          have hc := hcell i hi
          rw [add_at, List.getD_eq_getElem?_getD, hs] at hc
          cases j with
          | zero =>
            rw [s1] at hu
            cases hu
            rw [Nat.mul_one, Nat.add_zero]
            rw [hc]; rfl
          | succ j => rw [s1] at hu; cases hu
        · cases hs
end
theorem mail_argU {H : Type} {enc : TypeId × Value → H} {W : World} {r : Reach} {b0 base : Nat} {held : Bool} {v : Value} {d : DataW H} {p : List MemPlace}
    (hv : Value.okWide Tryz.prog W r b0 25 v) (h : DataW.Trod enc Tryz.prog W base (fun _ => true) held 25 v d p) :
    ∃ m vr vb, v = mailVal m vr vb ∧ RdS W vr m.rcpts ∧ RdB W vb m.body ∧ NilOk vr ∧ NilOk vb ∧ (∀ l ∈ m.rcpts, l.length ≤ Rows.uptoBulk d) ∧ m.frm.length ≤ Rows.uptoBulk d := by
  obtain ⟨f0, f1, f2, f3, f4, f5, hu, ⟨t0, o0⟩, ⟨t1, o1⟩, ⟨t2, o2⟩, ⟨t3, o3⟩, ⟨t4, o4⟩, t5, o5⟩ := fieldsMail
  obtain ⟨cs, rfl, hsz⟩ := okWide_struct hu hv
  obtain ⟨fuel, hf⟩ := h
  obtain ⟨xs, m, _, hxx, hl, hxl, hat⟩ := DataW.trod_struct hu hf
  have hc : Tryz.prog.cellsOf 25 = 6 := by kernel_rfl
  have hi : Tryz.prog.cellsOf 3 = 1 := by kernel_rfl
  have hs : Tryz.prog.cellsOf 9 = 1 := by kernel_rfl
  have hss : Tryz.prog.cellsOf 22 = 1 := by kernel_rfl
  have hbb : Tryz.prog.cellsOf 23 = 1 := by kernel_rfl
  rw [hc] at hl
  obtain ⟨cs⟩ := cs
  have hl : cs.length = 6 := by simpa [Value.cells] using hl
  match cs, hl with
  | [c0, c1, c2, c3, c4, c5], _ =>
    match xs, hxl with
    | [y0, y1, y2, y3, y4, y5], _ =>
      have g0 := hat 0 f0 rfl
      have g1 := hat 1 f1 rfl
      have g2 := hat 2 f2 rfl
      have g3 := hat 3 f3 rfl
      have g4 := hat 4 f4 rfl
      have g5 := hat 5 f5 rfl
      rw [t0, o0, hi] at g0
      rw [t1, o1, hi] at g1
      rw [t2, o2, hi] at g2
      rw [t3, o3, hs] at g3
      rw [t4, o4, hss] at g4
      rw [t5, o5, hbb] at g5
      obtain ⟨n0, e0, _⟩ := DataW.trod_int (P := Tryz.prog) Tryz.underlying3 g0
      obtain ⟨n1, e1, _⟩ := DataW.trod_int (P := Tryz.prog) Tryz.underlying3 g1
      obtain ⟨n2, e2, _⟩ := DataW.trod_int (P := Tryz.prog) Tryz.underlying3 g2
      obtain ⟨s3, e3, y3', _⟩ := DataW.trod_string (P := Tryz.prog) Tryz.underlying9 g3
      simp only [Value.cells, List.drop_succ_cons, List.drop_zero, List.take_succ_cons, List.take_zero, List.cons.injEq, and_true] at e0 e1 e2 e3 g4 g5
      obtain ⟨ls, hr, hn, hls⟩ := rdS_trodU g4
      obtain ⟨bs, hb, hn2⟩ := rdB_trod g5
      subst e0 e1 e2 e3
      have hd : d = .agg [y0.1, y1.1, y2.1, y3.1, y4.1, y5.1] := by simpa using congrArg Prod.fst hxx
      have hb3 : Rows.uptoBulk y3.1 ≤ Rows.uptoBulk d := by rw [hd]; exact bulk_part (by simp)
      have hb4 : Rows.uptoBulk y4.1 ≤ Rows.uptoBulk d := by rw [hd]; exact bulk_part (by simp)
      refine ⟨⟨n0, n1, n2, s3.data.toList, ls, bs⟩, c4, c5, rfl, hr, hb, hn, hn2, fun l hl => Nat.le_trans (hls l hl) hb4, Nat.le_trans ?_ hb3⟩
      rw [y3', bulk_str]; exact Nat.le_succ _
end Go.Proofs.YtjddicoigbidlaaGreatDoor

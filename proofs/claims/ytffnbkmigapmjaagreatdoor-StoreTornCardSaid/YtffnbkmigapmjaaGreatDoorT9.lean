/-
  A mail that comes in by value: its parts, and what its slices hold; the world that a call begins in; a witness with tables laid.
  Arguments of a law as the walks want them: byte slices, slices of marks.
  A mail that comes in by value, where the statement bounds how great the arguments are: its strings are not longer than that.
  A mark that comes in by value.
  What the reading of a slice argument tells besides: nil is nil, and how long it may be.
  A directory of files as data, and as a map that the program holds.
  The disk of files (package fs): what it holds, as data; how it lies in memory; and how that stays.
  A directory in memory: look-up, length, store, delete.
  The walks of the closures that change a directory.
-/
import Derived.Test.YtffnbkmigapmjaaGreatDoorT1
import Derived.Test.YtffnbkmigapmjaaGreatDoorT7
import Derived.Test.YtffnbkmigapmjaaGreatDoorT8
import Derived.OpenShut
import Derived.Deep.Slices
import Derived.ChangeOld
import Derived.SliceStrings
import Derived.Lay
import Derived.MakeChecks
import Derived.Stop.Joined
import Derived.Shelf.Vars
import Derived.Test.YtffnbkmigapmjaaGreatDoorRows
import Derived.SizedLaws
import Derived.Maps.Own
import Derived.Maps.OwnSet
import Derived.StringKeys
set_option linter.unusedSimpArgs false
set_option linter.unusedVariables false
set_option maxRecDepth 100000
namespace Go.Proofs.YtffnbkmigapmjaaGreatDoor
open Go.ChangeShapes Go.WideShapes Go.Deep Go.RowKit
/-- The library's variable holds a number, whatever the world. -/
theorem maxOk_of {W : World} (h : W.ShapedOpen Tryz.prog) : MaxOk W :=
  Go.Proofs.cell_of_shapedOpen_int (zero := #[.int .i64 0]) (t := 3) h (of_decide_eq_true (by kernel_rfl)) (by kernel_rfl) rfl (by kernel_rfl) (by kernel_rfl) Tryz.underlying3
section
variable {H : Type} {enc : TypeId × Value → H} {W : World} {base : Nat} {held : Bool} {n : Nat} {c : Value} {y : DataW H × List MemPlace}
end
/-- A slice of bytes that comes in: its block is there. -/
theorem block_arg {W : World} {r : Reach} {b0 : Nat} {t e : TypeId} (ht : Tryz.prog.underlying t = some (.slice e)) {v : Value} (hv : Value.okWide Tryz.prog W r b0 t v) : ∀ k, v.ownBlock = some k → k < W.heap.size := by
  obtain ⟨a, len, cap, rfl⟩ := okWide_slice ht hv
  intro k hk
  cases a with
  | none => cases hk
  | some a =>
    cases hk
    simp only [Value.okWide, ht, Cell.okWide, Cell.ok] at hv
    obtain ⟨_, _, _, _, row, cells, hsh, _⟩ := hv
    unfold World.shape? at hsh
    rcases Nat.lt_or_ge a.block W.heap.size with h | h
    · exact h
    · rw [Array.getElem?_eq_none h] at hsh; cases hsh
section
variable {H : Type} {enc : TypeId × Value → H}
/-- 'There is an input that fits', where great tables are laid. -/
theorem witness_laid {C : Checked} {os : Os} {f : FuncId} {fn : Func} {s : OpenSpec} {conds : List PathCond} {apart : Bool} {laid : List (String × DataW Unit)} (w0 : World) (args : Array Value) (hos : w0.os = os)
    (hsh : (w0.forCall (fun _ _ => 0) ⟨#[], args, []⟩).Shaped C.prog)
    (hok : Input.okWideB C.prog (w0.forCall (fun _ _ => 0) ⟨#[], args, []⟩) f ⟨#[], args, []⟩ = true)
    (hrow : s.preRow enc C.prog fn conds apart laid (w0.forCall (fun _ _ => 0) ⟨#[], args, []⟩).memory args) :
    ∃ (w : World) (tape : Tape) (i : Input), w.os = os ∧ (w.forCall tape i).Shaped C.prog ∧ i.vars = [] ∧ Input.okWide C.prog (w.forCall tape i) .any w.heap.size f i ∧
      s.preRow enc C.prog fn conds apart laid (w.forCall tape i).memory i.args ∧ ({} : Assume).holds C.prog (lone (Frame.enter C.prog f i.args .normal) [] (w.forCall tape i)) :=
  ⟨w0, fun _ _ => 0, ⟨#[], args, []⟩, hos, hsh, (Input.okWide_of_okWideB (base := 0) hok).1, (Input.okWide_of_okWideB hok).2, hrow, by
    simp only [Assume.holds]
    exact ⟨by simp, by simp, (fun h => by cases h), by simp, by simp⟩⟩
end
end Go.Proofs.YtffnbkmigapmjaaGreatDoor

set_option linter.unusedSimpArgs false
set_option linter.unusedVariables false
set_option maxRecDepth 100000
namespace Go.Proofs.YtffnbkmigapmjaaGreatDoor
open Go.ChangeShapes Go.WideShapes Go.Deep Go.RowKit
theorem addr_plain {w : World} {x : Addr} {n : Nat} {v : Value} (h : w.cell? (x.add 0) = some v) : ∃ b off, x = ⟨b, off, none⟩ := by
  obtain ⟨b, off, s⟩ := x
  rw [Addr.add, if_pos rfl] at h
  cases s with
  | none => exact ⟨b, off, rfl⟩
  | some s => unfold World.cell? at h; split at h <;> simp at h
theorem add_plain (b off i : Nat) : Addr.add ⟨b, off, none⟩ i = ⟨b, off + i, none⟩ := by
  unfold Addr.add
  split
  · next h => subst h; rfl
  · rfl
section
variable {H : Type} {enc : TypeId × Value → H} {W : World} {r : Reach} {b0 base : Nat} {spare : Nat → Bool} {held : Bool} {v : Value} {d : DataW H} {p : List MemPlace}
theorem fieldsMark : ∃ f0 f1 f2 : Field, Tryz.prog.underlying 53 = some (.struct #[f0, f1, f2]) ∧ (f0.type = 3 ∧ f0.offset = 0) ∧ (f1.type = 3 ∧ f1.offset = 1) ∧ (f2.type = 3 ∧ f2.offset = 2) :=
  ⟨_, _, _, Tryz.underlying53, ⟨rfl, rfl⟩, ⟨rfl, rfl⟩, rfl, rfl⟩
/-- The cells of one mark. -/
theorem mark_cells {n : Nat} {cs : List Value} {x : DataW H × List MemPlace} (h : DataW.trod enc Tryz.prog W base spare held n 53 cs = some x) :
    ∃ k : MarkD, cs = k.cells := by
  obtain ⟨f0, f1, f2, hu, ⟨t0, o0⟩, ⟨t1, o1⟩, t2, o2⟩ := fieldsMark
  obtain ⟨xs, m, _, _, hl, hxl, hat⟩ := DataW.trod_struct hu h
  have hc : Tryz.prog.cellsOf 53 = 3 := by kernel_rfl
  have hi : Tryz.prog.cellsOf 3 = 1 := by kernel_rfl
  rw [hc] at hl
  match cs, hl with
  | [c0, c1, c2], _ =>
    match xs, hxl with
    | [y0, y1, y2], _ =>
      have g0 := hat 0 f0 rfl
      have g1 := hat 1 f1 rfl
      have g2 := hat 2 f2 rfl
      rw [t0, o0, hi] at g0
      rw [t1, o1, hi] at g1
      rw [t2, o2, hi] at g2
      obtain ⟨n0, e0, _⟩ := DataW.trod_int (P := Tryz.prog) Tryz.underlying3 g0
      obtain ⟨n1, e1, _⟩ := DataW.trod_int (P := Tryz.prog) Tryz.underlying3 g1
      obtain ⟨n2, e2, _⟩ := DataW.trod_int (P := Tryz.prog) Tryz.underlying3 g2
      simp only [List.drop_succ_cons, List.drop_zero, List.take_succ_cons, List.take_zero, List.cons.injEq, and_true] at e0 e1 e2
      subst e0 e1 e2
      exact ⟨⟨n0, n1, n2⟩, rfl⟩
theorem rdM_arg (hv : Value.okWide Tryz.prog W r b0 41 v) (h : DataW.Trod enc Tryz.prog W base (fun _ => true) held 41 v d p) : ∃ ks, RdM W v ks := by
  obtain ⟨a0, len0, cap0, rfl⟩ := okWide_slice Tryz.underlying41 hv
  obtain ⟨fuel, hf⟩ := h
  rcases open_slice Tryz.underlying41 hf with ⟨hcs, _⟩ | ⟨x, l, c, m, n, D, Pl, hcs, _, hl, hm, hmm, _, hcell⟩
  · simp [Value.cells] at hcs
    obtain ⟨rfl, rfl, rfl⟩ := hcs
    exact ⟨[], .inl ⟨_, _, rfl, by decide, rfl⟩⟩
  · simp [Value.cells] at hcs
    obtain ⟨rfl, rfl, rfl⟩ := hcs
    rw [if_pos rfl] at hmm
    subst hmm
    have hc : Tryz.prog.cellsOf 53 = 3 := by kernel_rfl
    have hall : ∀ i : Nat, i < m → ∃ k : MarkD, W.cells? base (x.add (i * 3)) 3 = some k.cells := by
      intro i hi
      obtain ⟨cs', h1, h2⟩ := hcell i hi
      rw [hc] at h1
      obtain ⟨k, rfl⟩ := mark_cells h2
      exact ⟨k, h1⟩
    by_cases hz : len0 = 0
    · subst hz; exact ⟨[], .inl ⟨_, _, rfl, hm, rfl⟩⟩
    · have hx : ∃ b off, x = ⟨b, off, none⟩ := by
        obtain ⟨k, hk⟩ := hall 0 (by omega)
        have := (World.cells?_some hk).2.2 0 (by omega)
        rw [Nat.zero_mul] at this
        obtain ⟨b, off, s⟩ := x
        refine addr_plain (n := 0) (v := .int .i64 k.kind) (w := W) ?_
        simpa [Addr.add] using this
      obtain ⟨b, off, rfl⟩ := hx
      refine ⟨(List.range len0).map fun i => if hi : i < m then (hall i hi).choose else ⟨0, 0, 0⟩, .inr ⟨b, off, m, by simp, by simp; omega, by simpa using hl, hm, ?_, ?_⟩⟩
      · obtain ⟨k, hk⟩ := hall 0 (by omega)
        have := (World.cells?_some hk).2.2 0 (by omega)
        rw [Nat.zero_mul, add_plain, add_plain] at this
        exact World.block_lt_of_cell? W _ this
      · intro i k hk j u hu
        have hi : i < len0 := by have := (List.getElem?_eq_some_iff.1 hk).1; simpa using this
        rw [List.getElem?_map, List.getElem?_range hi] at hk
        simp only [Option.map_some, Option.some.injEq] at hk
        have him : i < m := by omega
        rw [dif_pos him] at hk
        have hs := (hall i him).choose_spec
        rw [hk] at hs
        have hj : j < 3 := (List.getElem?_eq_some_iff.1 hu).1
        have := (World.cells?_some hs).2.2 j hj
        rw [add_plain, add_plain, Nat.add_assoc] at this
        rw [this, hu]
end
end Go.Proofs.YtffnbkmigapmjaaGreatDoor

set_option linter.unusedSimpArgs false
set_option linter.unusedVariables false
set_option maxRecDepth 100000
namespace Go.Proofs.YtffnbkmigapmjaaGreatDoor
open Go.ChangeShapes Go.WideShapes Go.Deep Go.RowKit
section
variable {H : Type} {enc : TypeId × Value → H} {W : World} {base : Nat} {held : Bool} {n : Nat} {c : Value} {y : DataW H × List MemPlace}
end
end Go.Proofs.YtffnbkmigapmjaaGreatDoor

set_option linter.unusedSimpArgs false
set_option linter.unusedVariables false
set_option maxRecDepth 100000
namespace Go.Proofs.YtffnbkmigapmjaaGreatDoor
open Go.ChangeShapes Go.WideShapes Go.Deep Go.RowKit
theorem mark_arg {H : Type} {enc : TypeId × Value → H} {W : World} {r : Reach} {b0 base : Nat} {held : Bool} {v : Value} {d : DataW H} {p : List MemPlace}
    (hv : Value.okWide Tryz.prog W r b0 53 v) (h : DataW.Trod enc Tryz.prog W base (fun _ => true) held 53 v d p) : ∃ k : MarkD, v = k.val := by
  obtain ⟨f0, f1, f2, hu, _⟩ := fieldsMark
  obtain ⟨cs, rfl, hsz⟩ := okWide_struct hu hv
  obtain ⟨fuel, hf⟩ := h
  obtain ⟨k, hk⟩ := mark_cells hf
  refine ⟨k, ?_⟩
  obtain ⟨cs⟩ := cs
  have hk' : cs = k.cells := by simpa [Value.cells] using hk
  rw [hk']
end Go.Proofs.YtffnbkmigapmjaaGreatDoor

set_option linter.unusedSimpArgs false
set_option linter.unusedVariables false
set_option maxRecDepth 100000
namespace Go.Proofs.YtffnbkmigapmjaaGreatDoor
open Go.ChangeShapes Go.WideShapes Go.Deep Go.RowKit
section
variable {H : Type} {enc : TypeId × Value → H} {W : World} {r : Reach} {b0 base : Nat} {spare : Nat → Bool} {held : Bool} {v : Value} {d : DataW H} {p : List MemPlace}
theorem slice_told {t e : TypeId} (ht : Tryz.prog.underlying t = some (.slice e)) (hv : Value.okWide Tryz.prog W r b0 t v) (h : DataW.Trod enc Tryz.prog W base spare held t v d p) :
    NilOk v ∧ ∀ a len cap, v = .slice a len cap → (d = .nil ∧ len = 0) ∨ ∃ el sp, d = .slice el sp ∧ el.length = len := by
  obtain ⟨a0, len0, cap0, rfl⟩ := okWide_slice ht hv
  obtain ⟨fuel, hf⟩ := h
  rcases DataW.trod_slice ht hf with ⟨hcs, hd⟩ | ⟨a, len, cap, elems, rest, n, _, hcs, hd, _, _, _, hlen, _⟩
  · simp [Value.cells] at hcs
    obtain ⟨rfl, rfl, rfl⟩ := hcs
    refine ⟨fun l c h => (by cases h; exact ⟨rfl, rfl⟩), fun a l c h => .inl ?_⟩
    cases h
    exact ⟨congrArg Prod.fst hd, rfl⟩
  · simp [Value.cells] at hcs
    obtain ⟨rfl, rfl, rfl⟩ := hcs
    refine ⟨fun l c h => (by cases h), fun a l c h => .inr ?_⟩
    cases h
    exact ⟨_, _, congrArg Prod.fst hd, by simpa using hlen⟩
end
end Go.Proofs.YtffnbkmigapmjaaGreatDoor

set_option linter.unusedSimpArgs false
set_option linter.unusedVariables false
set_option maxRecDepth 100000
namespace Go.Proofs.YtffnbkmigapmjaaGreatDoor
open Go.RowKit Go.Maps
/-- A file's name: its bytes. -/
abbrev Nm := List UInt8
/-- How a map's element that points to a block reads: the block's number. -/
def ptrElem : Value → Option (DataW Unit × List MemPlace)
  | .pointer (some ⟨b, 0, none⟩) => some (.lit (.int .i64 b), [])
  | .pointer none => some (.nil, [])
  | _ => none
theorem ptrElem_inv {v : Value} {z : DataW Unit × List MemPlace} (h : ptrElem v = some z) : (v = .pointer none ∧ z = (.nil, [])) ∨ ∃ b : Nat, v = .pointer (some ⟨b, 0, none⟩) ∧ z = (.lit (.int .i64 b), []) := by
  unfold ptrElem at h
  split at h
  · cases h; exact .inr ⟨_, rfl, rfl⟩
  · cases h; exact .inl ⟨rfl, rfl⟩
  · cases h
/-- A directory: names, and the blocks of their files. -/
abbrev Dir := List (Nm × Nat)
def entD (p : Nm × Nat) : Lit × DataW Unit := (.string p.1, .lit (.int .i64 p.2))
def dirD (l : Dir) : DataW Unit := .map (l.map entD)
def Dir.look (l : Dir) (n : Nm) : Option Nat := (l.find? (fun p => p.1 == n)).map (·.2)
def Dir.ins (x : Nm × Nat) : Dir → Dir
  | [] => [x]
  | y :: r => if Lit.before (.string x.1) (.string y.1) then x :: y :: r else y :: Dir.ins x r
def Dir.del (l : Dir) (n : Nm) : Dir := l.filter (fun p => !(p.1 == n))
def Dir.put (l : Dir) (n : Nm) (x : Nat) : Dir := (Dir.del l n).ins (n, x)
theorem same_str (a b : Nm) : (Lit.string a).sameKey (.string b) = (a == b) := by
  unfold Lit.sameKey; rfl
theorem dirD_ins (x : Nm × Nat) : ∀ l : Dir, DataW.insert (entD x) (l.map entD) = (l.ins x).map entD
  | [] => rfl
  | y :: r => by
    rw [List.map_cons, DataW.insert, Dir.ins]
    show (if Lit.before (.string x.1) (.string y.1) then _ else _) = _
    split
    · rfl
    · rw [List.map_cons, dirD_ins x r]
theorem dirD_del (l : Dir) (n : Nm) : (dirD l).del (.string n) = dirD (l.del n) := by
  unfold dirD Dir.del
  show DataW.map _ = DataW.map _
  rw [List.filter_map]
  congr 1
theorem dirD_put (l : Dir) (n : Nm) (x : Nat) : (dirD l).put (.string n) (.lit (.int .i64 x)) = dirD (l.put n x) := by
  unfold Dir.put
  show DataW.map (DataW.insert (entD (n, x)) _) = _
  unfold dirD
  rw [← dirD_ins]
  congr 2
  unfold Dir.del
  rw [List.filter_map]
  congr 1
theorem dirD_has (l : Dir) (n : Nm) : Maps.has (dirD l) (.string n) = (l.look n).isSome := by
  unfold dirD Dir.look
  rw [Maps.has_eq, List.any_map, Option.isSome_map]
  induction l with
  | nil => rfl
  | cons p r ih =>
    rw [List.any_cons, List.find?_cons, ih]
    show ((p.1 == n) || _) = _
    cases p.1 == n <;> rfl
theorem dirD_at (l : Dir) (n : Nm) (z : DataW Unit) : (dirD l).atKey (.string n) z = match l.look n with | some x => DataW.lit (.int .i64 (x : Int)) | none => z := by
  unfold dirD Dir.look
  unfold DataW.atKey
  dsimp only
  rw [List.find?_map]
  have : ((fun p : Lit × DataW Unit => p.1.sameKey (.string n)) ∘ entD) = (fun p : Nm × Nat => p.1 == n) := rfl
  rw [this]
  cases List.find? (fun p : Nm × Nat => p.1 == n) l <;> rfl
theorem dirD_size (l : Dir) : Maps.size (dirD l) = l.length := by unfold dirD; rw [Maps.size_eq, List.length_map]
end Go.Proofs.YtffnbkmigapmjaaGreatDoor

set_option linter.unusedSimpArgs false
set_option linter.unusedVariables false
set_option maxRecDepth 100000
namespace Go.Proofs.YtffnbkmigapmjaaGreatDoor
open Go.RowKit Go.Maps
/-- A change of the directory that is not sure. -/
inductive Chg where
  | create (n : Nm) (x : Nat)
  | rename (a b : Nm)
  | unlink (n : Nm)
def Chg.on (c : Chg) (l : Dir) : Dir :=
  match c with
  | .create n x => l.put n x
  | .rename a b => match l.look a with | some x => (l.put b x).del a | none => l
  | .unlink n => l.del n
/-- A file: its bytes, how many are sure, and the slice that holds them. -/
structure FileC where
  bytes : List UInt8
  sure : Nat
  row : Value
/-- What a block of a disk is for. -/
inductive Role where
  | fs | now | sure | loose | box | file
  | bytes (x : Nat)
deriving DecidableEq
structure FsD where
  mn : Nat
  ms : Nat
  now : Dir
  sure : Dir
  lv : Value
  loose : List (Chg × Value)
  room : Int
  fuse : Int
  down : Bool
  file : Nat → Option FileC
abbrev Rho := Nat → Option Role
def FsHd (w : World) (f : Nat) (d : FsD) : Prop :=
  w.heap[f]? = some (.cells #[.map (some d.mn), .map (some d.ms), d.lv, .int .i64 d.room, .int .i64 d.fuse, .bool d.down] 96 (0, 0))
/-- A closure that carries out a change. -/
def ChgAt (w : World) (ρ : Rho) : Chg → Value → Prop
  | .create n x, v => ∃ b1 b2, v = .func (.func 52) #[] #[.pointer (some ⟨b1, 0, none⟩), .pointer (some ⟨b2, 0, none⟩)] ∧ ρ b1 = some .box ∧ ρ b2 = some .box ∧ w.heap[b1]? = some (.cells #[.pointer (some ⟨x, 0, none⟩)] 98 (0, 0)) ∧ w.heap[b2]? = some (.cells #[.string (strL n)] 9 (0, 0)) ∧ n.length ≤ 80
  | .rename a b, v => ∃ b1 b2, v = .func (.func 159) #[] #[.pointer (some ⟨b1, 0, none⟩), .pointer (some ⟨b2, 0, none⟩)] ∧ ρ b1 = some .box ∧ ρ b2 = some .box ∧ w.heap[b1]? = some (.cells #[.string (strL a)] 9 (0, 0)) ∧ w.heap[b2]? = some (.cells #[.string (strL b)] 9 (0, 0)) ∧ a.length ≤ 80 ∧ b.length ≤ 80
  | .unlink n, v => ∃ b1, v = .func (.func 140) #[] #[.pointer (some ⟨b1, 0, none⟩)] ∧ ρ b1 = some .box ∧ w.heap[b1]? = some (.cells #[.string (strL n)] 9 (0, 0)) ∧ n.length ≤ 80
structure FileAt' (w : World) (ρ : Rho) (x : Nat) (c : FileC) : Prop where
  role : ρ x = some .file
  hd : w.heap[x]? = some (.cells #[c.row, .int .i64 c.sure] 101 (0, 0))
  own : w.ownsRow 0 5 1 c.row c.bytes.length (c.bytes.map u8v)
  rown : ∀ k, c.row.ownBlock = some k → ρ k = some (.bytes x)
  small : c.bytes.length ≤ 16777216
  sure : c.sure ≤ c.bytes.length
/-- All of a disk but its own block. -/
structure FsRest (w : World) (d : FsD) (ρ : Rho) : Prop where
  rnow : ρ d.mn = some .now
  rsure : ρ d.ms = some .sure
  dnow : w.ownsMap Tryz.prog 9 ptrElem d.mn d.now.length (dirD d.now)
  dsure : w.ownsMap Tryz.prog 9 ptrElem d.ms d.sure.length (dirD d.sure)
  rlv : ∀ k, d.lv.ownBlock = some k → ρ k = some .loose
  own : w.ownsRow 0 124 1 d.lv d.loose.length (d.loose.map (·.2))
  chg : ∀ p ∈ d.loose, ChgAt w ρ p.1 p.2
  files : ∀ x c, d.file x = some c → FileAt' w ρ x c
  fnow : ∀ p ∈ d.now, (d.file p.2).isSome = true
  fsure : ∀ p ∈ d.sure, (d.file p.2).isSome = true
  lt : ∀ k, (ρ k).isSome = true → k < w.heap.size
structure FsAt (w : World) (f : Nat) (d : FsD) (ρ : Rho) : Prop where
  role : ρ f = some .fs
  hd : FsHd w f d
  rest : FsRest w d ρ
/-- What a call leaves as it was: all blocks but the disk's. -/
def Rho.has (ρ : Rho) (k : Nat) : Prop := (ρ k).isSome = true
theorem Rho.has_of {ρ : Rho} {k : Nat} {r : Role} (h : ρ k = some r) : ρ.has k := by unfold Rho.has; rw [h]; rfl
theorem Rho.ne {ρ : Rho} {j k : Nat} {r s : Role} (h : ρ j = some r) (h' : ρ k = some s) (hrs : r ≠ s) : j ≠ k := fun e => hrs (by rw [e, h'] at h; exact (Option.some.inj h).symm)
section
variable {w w' : World} {ρ : Rho} {F : Nat → Prop} {f : Nat} {d : FsD}
theorem ownsMap_keeps {b n : Nat} {k : TypeId} {D : DataW Unit} {R : Value → Option (DataW Unit × List MemPlace)} (h : w.ownsMap Tryz.prog k R b n D) (hk : Keeps F w w') (hF : ¬ F b) : w'.ownsMap Tryz.prog k R b n D := by
  obtain ⟨es, clock, h1, h2⟩ := h
  exact ⟨es, clock, hk.heap h1 hF, h2⟩
theorem ChgAt.keeps {c : Chg} {v : Value} (h : ChgAt w ρ c v) (hk : Keeps F w w') (hF : ∀ k, F k → ρ k ≠ some .box) : ChgAt w' ρ c v := by
  cases c with
  | create n x => obtain ⟨b1, b2, h1, h2, h3, h4, h5, h6⟩ := h; exact ⟨b1, b2, h1, h2, h3, hk.heap h4 (fun e => hF _ e h2), hk.heap h5 (fun e => hF _ e h3), h6⟩
  | rename a b => obtain ⟨b1, b2, h1, h2, h3, h4, h5, h6⟩ := h; exact ⟨b1, b2, h1, h2, h3, hk.heap h4 (fun e => hF _ e h2), hk.heap h5 (fun e => hF _ e h3), h6⟩
  | unlink n => obtain ⟨b1, h1, h2, h3, h4⟩ := h; exact ⟨b1, h1, h2, hk.heap h3 (fun e => hF _ e h2), h4⟩
theorem FileAt'.keeps {x : Nat} {c : FileC} (h : FileAt' w ρ x c) (hk : Keeps F w w') (h1 : ¬ F x) (h2 : ∀ k, F k → ρ k ≠ some (.bytes x)) : FileAt' w' ρ x c :=
  ⟨h.role, hk.heap h.hd h1, own_keeps h.own hk (fun k e g => h2 k g (h.rown k e)), h.rown, h.small, h.sure⟩
/-- What turns none of the disk's blocks leaves the disk. -/
theorem FsRest.keeps (h : FsRest w d ρ) (hk : Keeps F w w') (hF : ∀ k, F k → ρ k = none ∨ ρ k = some .fs) : FsRest w' d ρ := by
  have hn : ∀ {k : Nat} {r : Role}, ρ k = some r → r ≠ .fs → ¬ F k := fun h1 h2 h3 => by
    rcases hF _ h3 with e | e
    · rw [e] at h1; cases h1
    · rw [e] at h1; exact h2 (Option.some.inj h1).symm
  exact ⟨h.rnow, h.rsure, ownsMap_keeps h.dnow hk (hn h.rnow (by decide)), ownsMap_keeps h.dsure hk (hn h.rsure (by decide)), h.rlv, own_keeps h.own hk (fun k e => hn (h.rlv k e) (by decide)),
    fun p hp => (h.chg p hp).keeps hk (fun k e g => hn g (by decide) e), fun x c hx => (h.files x c hx).keeps hk (hn (h.files x c hx).role (by decide)) (fun k e g => hn g (by intro q; cases q) e),
    h.fnow, h.fsure, fun k e => Nat.lt_of_lt_of_le (h.lt k e) hk.size⟩
theorem FsAt.keeps (h : FsAt w f d ρ) (hk : Keeps F w w') (hF : ∀ k, F k → ρ k = none) : FsAt w' f d ρ :=
  ⟨h.role, hk.heap h.hd (fun e => by have := hF _ e; rw [h.role] at this; cases this), h.rest.keeps hk (fun k e => .inl (hF k e))⟩
theorem FsAt.below (h : FsAt w f d ρ) (hb : Below w.heap.size w w') : FsAt w' f d ρ :=
  h.keeps (F := fun _ => False) (Keeps.ofBelow hb) (fun _ e => e.elim)
end
theorem cells2 {w : World} {b : Nat} {t : TypeId} {c0 c1 : Value} (hb : w.heap[b]? = some (.cells #[c0, c1] t (0, 0))) :
    (w.cell? ⟨b, 0, none⟩ = some c0 ∧ w.cell? ⟨b, 1, none⟩ = some c1) ∧ (w.frozen? ⟨b, 0, none⟩ = false ∧ w.frozen? ⟨b, 1, none⟩ = false) :=
  ⟨⟨by rw [cell_of_row _ _ _ _ _ _ hb]; rfl, by rw [cell_of_row _ _ _ _ _ _ hb]; rfl⟩, frozen_of_row _ _ _ _ _ hb, frozen_of_row _ _ _ _ _ hb⟩
theorem fsHd_cells {w : World} {f : Nat} {d : FsD} (hb : FsHd w f d) :
    (w.cell? ⟨f, 0, none⟩ = some (.map (some d.mn)) ∧ w.cell? ⟨f, 1, none⟩ = some (.map (some d.ms)) ∧ w.cell? ⟨f, 2, none⟩ = some d.lv ∧ w.cell? ⟨f, 3, none⟩ = some (.int .i64 d.room) ∧ w.cell? ⟨f, 4, none⟩ = some (.int .i64 d.fuse) ∧ w.cell? ⟨f, 5, none⟩ = some (.bool d.down)) ∧
    (∀ j, w.frozen? ⟨f, j, none⟩ = false) :=
  ⟨⟨by rw [cell_of_row _ _ _ _ _ _ hb]; rfl, by rw [cell_of_row _ _ _ _ _ _ hb]; rfl, by rw [cell_of_row _ _ _ _ _ _ hb]; rfl, by rw [cell_of_row _ _ _ _ _ _ hb]; rfl, by rw [cell_of_row _ _ _ _ _ _ hb]; rfl, by rw [cell_of_row _ _ _ _ _ _ hb]; rfl⟩, fun j => frozen_of_row _ _ _ _ _ hb⟩
end Go.Proofs.YtffnbkmigapmjaaGreatDoor

set_option linter.unusedSimpArgs false
set_option linter.unusedVariables false
set_option maxRecDepth 100000
namespace Go.Proofs.YtffnbkmigapmjaaGreatDoor
open Go.RowKit Go.Maps
abbrev DirAt (w : World) (b : Nat) (l : Dir) : Prop := w.ownsMap Tryz.prog 9 ptrElem b l.length (dirD l)
def ptrOf (o : Option Nat) : Value := match o with | some x => .pointer (some ⟨x, 0, none⟩) | none => .pointer none
theorem keyed_str : Keyed Tryz.prog 9 := string_keyed Tryz.underlying9
theorem zero_file (w : World) : (zeroValue 98).run Tryz.prog w = .ok (.pointer none) w := by kernel_rfl
theorem key_str (n : Nm) (hn : n.length ≤ maxLen) : keyOf Tryz.prog 9 (.string (strL n)) = some (.string n) := by
  have := Go.WideMaps.keyOf_string_mk (P := Tryz.prog) Tryz.underlying9 (s := strL n) (by rw [strL_size]; exact hn)
  rw [strL_data] at this; exact this
section
variable {w : World} {b n : Nat} {l : Dir}
theorem dir_fit (h : w.ownsMap Tryz.prog 9 ptrElem b n (dirD l)) : DirAt w b l := by
  obtain ⟨es, clock, h1, h2, h3, h4⟩ := h
  refine ⟨es, clock, h1, h2, ?_, h4⟩
  unfold dirD at h4
  have h5 : l.map entD = ((es.toList.map (Go.WideElems.rg Tryz.prog 9 ptrElem)).foldr DataW.insert []) := by injection h4
  have h6 := congrArg List.length h5
  rw [length_sorted] at h6
  simp at h6
  omega
theorem dir_look (h : DirAt w b l) (k : Nm) (hk : k.length ≤ maxLen) : (Instr.lookup 93 (.map (some b)) (.string (strL k)) true).run Tryz.prog w = .ok (.tuple #[ptrOf (l.look k), .bool (l.look k).isSome]) w := by
  obtain ⟨v, ps, hrun, hv⟩ := h.look_ok keyed_str Tryz.underlying93 (zero_file w) (zd := .nil) (zp := []) rfl (key_str k hk)
  rw [dirD_has, dirD_at] at *
  rw [hrun]
  cases hl : l.look k with
  | none =>
    rw [hl] at hv
    rcases ptrElem_inv hv with ⟨rfl, _⟩ | ⟨x, _, h2⟩
    · rfl
    · injection h2 with h3 h4; cases h3
  | some x =>
    rw [hl] at hv
    rcases ptrElem_inv hv with ⟨_, h2⟩ | ⟨y, rfl, h2⟩
    · injection h2 with h3 h4; cases h3
    · injection h2 with h3 h4
      have : (x : Int) = (y : Int) := by injection h3 with h3; injection h3
      rw [show y = x by omega]; rfl
theorem dir_len (h : DirAt w b l) (ty : TypeId) : (Builtin.len_ #[93] ty #[.map (some b)]).run Tryz.prog w = .ok (.int .i64 l.length) w := by
  rw [h.len Tryz.underlying93 ty, dirD_size]
theorem dir_put (h : DirAt w b l) (hl : l.length < maxLen) (k : Nm) (hk : k.length ≤ maxLen) (x : Nat) : ∃ w', (Instr.mapUpdate 93 (.map (some b)) (.string (strL k)) (.pointer (some ⟨x, 0, none⟩))).run Tryz.prog w = .ok () w' ∧ DirAt w' b (l.put k x) ∧ Keeps (fun j => j = b) w w' := by
  obtain ⟨w', h1, h2, h3⟩ := h.update keyed_str Tryz.underlying93 hl (key_str k hk) (val := .pointer (some ⟨x, 0, none⟩)) (d := .lit (.int .i64 x)) (ps := []) rfl
  rw [dirD_put] at h2
  exact ⟨w', h1, dir_fit h2, (Keeps.grown h3).mono (fun i _ e => (Option.some.inj e).symm)⟩
theorem dir_del (h : DirAt w b l) (k : Nm) (hk : k.length ≤ maxLen) (ty : TypeId) : ∃ w', (Builtin.delete_ #[93, 9] ty #[.map (some b), .string (strL k)]).run Tryz.prog w = .ok (.tuple #[]) w' ∧ DirAt w' b (l.del k) ∧ Keeps (fun j => j = b) w w' := by
  obtain ⟨w', h1, h2, h3⟩ := h.drop keyed_str Tryz.underlying93 (key_str k hk) ty
  rw [dirD_del] at h2
  exact ⟨w', h1, dir_fit h2, (Keeps.grown h3.grown).mono (fun i _ e => (Option.some.inj e).symm)⟩
end
end Go.Proofs.YtffnbkmigapmjaaGreatDoor

set_option linter.unusedSimpArgs false
set_option linter.unusedVariables false
set_option maxRecDepth 100000
namespace Go.Proofs.YtffnbkmigapmjaaGreatDoor
open Go.RowKit Go.Maps
set_option maxHeartbeats 4000000 in
theorem create1_calls (b b1 b2 x : Nat) (n : Nm) (l : Dir) (w : World) (hd : DirAt w b l) (h1 : w.heap[b1]? = some (.cells #[.pointer (some ⟨x, 0, none⟩)] 98 (0, 0))) (h2 : w.heap[b2]? = some (.cells #[.string (strL n)] 9 (0, 0))) (hl : l.length < maxLen) (hn : n.length ≤ maxLen) :
    Calls Tryz.prog 52 #[.map (some b), .pointer (some ⟨b1, 0, none⟩), .pointer (some ⟨b2, 0, none⟩)] w fun e w' => e = .returned (.tuple #[]) ∧ DirAt w' b (l.put n x) ∧ Keeps (fun j => j = b) w w' := by
  obtain ⟨w1, hrun, hd1, hk⟩ := dir_put hd hl n hn x
  have c1 : w.cell? ⟨b1, 0, none⟩ = some (.pointer (some ⟨x, 0, none⟩)) := by rw [cell_of_row _ _ _ _ _ _ h1]; rfl
  have c2 : w.cell? ⟨b2, 0, none⟩ = some (.string (strL n)) := by rw [cell_of_row _ _ _ _ _ _ h2]; rfl
  have Hd := Lib.hid hd1
  clear hd hd1 h1 h2 hn
  generalize strL n = sn at hrun c2
  go_enter Tryz.func52, Tryz.ntmps52
  go_wp2
  go_end0
  exact ⟨rfl, Hd.out, hk⟩
set_option maxHeartbeats 4000000 in
theorem unlink1_calls (b b1 : Nat) (n : Nm) (l : Dir) (w : World) (hd : DirAt w b l) (h1 : w.heap[b1]? = some (.cells #[.string (strL n)] 9 (0, 0))) (hn : n.length ≤ maxLen) :
    Calls Tryz.prog 140 #[.map (some b), .pointer (some ⟨b1, 0, none⟩)] w fun e w' => e = .returned (.tuple #[]) ∧ DirAt w' b (l.del n) ∧ Keeps (fun j => j = b) w w' := by
  obtain ⟨w1, hrun, hd1, hk⟩ := dir_del hd n hn 0
  have c1 : w.cell? ⟨b1, 0, none⟩ = some (.string (strL n)) := by rw [cell_of_row _ _ _ _ _ _ h1]; rfl
  have Hd := Lib.hid hd1
  clear hd hd1 h1 hn
  generalize strL n = sn at hrun c1
  go_enter Tryz.func140, Tryz.ntmps140
  go_wp2
  go_end0
  exact ⟨rfl, Hd.out, hk⟩
theorem dir_look0 {w : World} {b : Nat} {l : Dir} (h : DirAt w b l) (k : Nm) (hk : k.length ≤ maxLen) : (Instr.lookup 93 (.map (some b)) (.string (strL k)) false).run Tryz.prog w = .ok (ptrOf (l.look k)) w := by
  obtain ⟨v, ps, hrun, hv⟩ := h.lookup keyed_str Tryz.underlying93 (zero_file w) (zd := .nil) (zp := []) rfl (key_str k hk)
  rw [dirD_at] at hv
  rw [hrun]
  cases hl : l.look k with
  | none =>
    rw [hl] at hv
    rcases ptrElem_inv hv with ⟨rfl, _⟩ | ⟨x, _, h2⟩
    · rfl
    · injection h2 with h3 h4; cases h3
  | some x =>
    rw [hl] at hv
    rcases ptrElem_inv hv with ⟨_, h2⟩ | ⟨y, rfl, h2⟩
    · injection h2 with h3 h4; cases h3
    · injection h2 with h3 h4
      have : (x : Int) = (y : Int) := by injection h3 with h3; injection h3
      rw [show y = x by omega]; rfl
set_option maxHeartbeats 4000000 in
theorem rename1_calls (b b1 b2 x : Nat) (m n : Nm) (l : Dir) (w : World) (hd : DirAt w b l) (hx : l.look m = some x) (h1 : w.heap[b1]? = some (.cells #[.string (strL m)] 9 (0, 0))) (h2 : w.heap[b2]? = some (.cells #[.string (strL n)] 9 (0, 0))) (hne : b1 ≠ b) (hl : l.length < maxLen) (hm : m.length ≤ maxLen) (hn : n.length ≤ maxLen) :
    Calls Tryz.prog 159 #[.map (some b), .pointer (some ⟨b1, 0, none⟩), .pointer (some ⟨b2, 0, none⟩)] w fun e w' => e = .returned (.tuple #[]) ∧ DirAt w' b ((l.put n x).del m) ∧ Keeps (fun j => j = b) w w' := by
  have hlook := dir_look0 hd m hm
  rw [hx] at hlook
  have hlook : (Instr.lookup 93 (.map (some b)) (.string (strL m)) false).run Tryz.prog w = .ok (.pointer (some ⟨x, 0, none⟩)) w := hlook
  obtain ⟨w1, hrun, hd1, hk⟩ := dir_put hd hl n hn x
  obtain ⟨w2, hrun2, hd2, hk2⟩ := dir_del hd1 m hm 0
  have c1 : w.cell? ⟨b1, 0, none⟩ = some (.string (strL m)) := by rw [cell_of_row _ _ _ _ _ _ h1]; rfl
  have c2 : w.cell? ⟨b2, 0, none⟩ = some (.string (strL n)) := by rw [cell_of_row _ _ _ _ _ _ h2]; rfl
  have c3 : w1.cell? ⟨b1, 0, none⟩ = some (.string (strL m)) := by rw [cell_of_row _ _ _ _ _ _ (hk.heap h1 hne)]; rfl
  have Hd := Lib.hid hd2
  have Hk := Lib.hid (hk.trans hk2)
  clear hd hd1 hd2 h1 h2 hn hm hx hk hk2 hne
  generalize strL n = sn at hrun c2
  generalize strL m = sm at hrun2 c1 c3 hlook
  go_enter Tryz.func159, Tryz.ntmps159
  go_wp2
  go_end0
  exact ⟨rfl, Hd.out, Hk.out⟩
end Go.Proofs.YtffnbkmigapmjaaGreatDoor

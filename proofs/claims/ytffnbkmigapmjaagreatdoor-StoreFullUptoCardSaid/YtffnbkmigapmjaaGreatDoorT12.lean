/- Printed out of the texts of wip/tpl. -/
import Derived.Test.YtffnbkmigapmjaaGreatDoorT6
import Derived.Test.YtffnbkmigapmjaaGreatDoorT9
import Derived.Test.YtffnbkmigapmjaaGreatDoorT10
import Derived.Test.YtffnbkmigapmjaaGreatDoorT11
import Derived.StringKeys
import Derived.Lib.ConvBytes
import Derived.Lib.SlicesS
import Derived.Deep.RegionHeld3
import Derived.Deep.Cut
set_option linter.unusedSimpArgs false
set_option linter.unusedVariables false
set_option maxRecDepth 100000
namespace Go.Proofs.YtffnbkmigapmjaaGreatDoor
open Go.RowKit Go.Maps
inductive Chg where
 | create (n : Nm) (x : Nat)
 | rename (a b : Nm)
 | unlink (n : Nm)
def Chg.on (c : Chg) (l : Dir) : Dir :=
 match c with
 | .create n x => l.put n x
 | .rename a b => match l.look a with | some x => (l.put b x).del a | none => l
 | .unlink n => l.del n
structure FileC where
 bytes : List UInt8
 sure : Nat
 row : Value
inductive Role where
 | fs | now | sure | loose | box | file
 | bytes (x : Nat)
deriving DecidableEq
structure FsD where
 mn : Nat
 ms : Nat
 now : Dir
 sure : Dir
 lv : Value
 loose : List (Chg × Value)
 room : Int
 fuse : Int
 down : Bool
 file : Nat → Option FileC
abbrev Rho := Nat → Option Role
def FsHd (w : World) (f : Nat) (d : FsD) : Prop :=
 w.heap[f]? = some (.cells #[.map (some d.mn), .map (some d.ms), d.lv, .int .i64 d.room, .int .i64 d.fuse, .bool d.down] 96 (0, 0))
def ChgAt (w : World) (ρ : Rho) : Chg → Value → Prop
 | .create n x, v => ∃ b1 b2, v = .func (.func 52) #[] #[.pointer (some ⟨b1, 0, none⟩), .pointer (some ⟨b2, 0, none⟩)] ∧ ρ b1 = some .box ∧ ρ b2 = some .box ∧ w.heap[b1]? = some (.cells #[.pointer (some ⟨x, 0, none⟩)] 98 (0, 0)) ∧ w.heap[b2]? = some (.cells #[.string (strL n)] 9 (0, 0)) ∧ n.length ≤ 80
 | .rename a b, v => ∃ b1 b2, v = .func (.func 159) #[] #[.pointer (some ⟨b1, 0, none⟩), .pointer (some ⟨b2, 0, none⟩)] ∧ ρ b1 = some .box ∧ ρ b2 = some .box ∧ w.heap[b1]? = some (.cells #[.string (strL a)] 9 (0, 0)) ∧ w.heap[b2]? = some (.cells #[.string (strL b)] 9 (0, 0)) ∧ a.length ≤ 80 ∧ b.length ≤ 80
 | .unlink n, v => ∃ b1, v = .func (.func 140) #[] #[.pointer (some ⟨b1, 0, none⟩)] ∧ ρ b1 = some .box ∧ w.heap[b1]? = some (.cells #[.string (strL n)] 9 (0, 0)) ∧ n.length ≤ 80
structure FileAt' (w : World) (ρ : Rho) (x : Nat) (c : FileC) : Prop where
 role : ρ x = some .file
 hd : w.heap[x]? = some (.cells #[c.row, .int .i64 c.sure] 101 (0, 0))
 own : w.ownsRow 0 5 1 c.row c.bytes.length (c.bytes.map u8v)
 rown : ∀ k, c.row.ownBlock = some k → ρ k = some (.bytes x)
 small : c.bytes.length ≤ 16777216
 sure : c.sure ≤ c.bytes.length
structure FsRest (w : World) (d : FsD) (ρ : Rho) : Prop where
 rnow : ρ d.mn = some .now
 rsure : ρ d.ms = some .sure
 dnow : w.ownsMap Tryz.prog 9 ptrElem d.mn d.now.length (dirD d.now)
 dsure : w.ownsMap Tryz.prog 9 ptrElem d.ms d.sure.length (dirD d.sure)
 rlv : ∀ k, d.lv.ownBlock = some k → ρ k = some .loose
 own : w.ownsRow 0 124 1 d.lv d.loose.length (d.loose.map (·.2))
 chg : ∀ p ∈ d.loose, ChgAt w ρ p.1 p.2
 files : ∀ x c, d.file x = some c → FileAt' w ρ x c
 fnow : ∀ p ∈ d.now, (d.file p.2).isSome = true
 fsure : ∀ p ∈ d.sure, (d.file p.2).isSome = true
 lt : ∀ k, (ρ k).isSome = true → k < w.heap.size
structure FsAt (w : World) (f : Nat) (d : FsD) (ρ : Rho) : Prop where
 role : ρ f = some .fs
 hd : FsHd w f d
 rest : FsRest w d ρ
def Rho.has (ρ : Rho) (k : Nat) : Prop := (ρ k).isSome = true
theorem Rho.has_of {ρ : Rho} {k : Nat} {r : Role} (h : ρ k = some r) : ρ.has k := by unfold Rho.has; rw [h]; rfl
theorem Rho.ne {ρ : Rho} {j k : Nat} {r s : Role} (h : ρ j = some r) (h' : ρ k = some s) (hrs : r ≠ s) : j ≠ k := fun e => hrs (by rw [e, h'] at h; exact (Option.some.inj h).symm)
section
variable {w w' : World} {ρ : Rho} {F : Nat → Prop} {f : Nat} {d : FsD}
theorem ownsMap_keeps {b n : Nat} {k : TypeId} {D : DataW Unit} {R : Value → Option (DataW Unit × List MemPlace)} (h : w.ownsMap Tryz.prog k R b n D) (hk : Keeps F w w') (hF : ¬ F b) : w'.ownsMap Tryz.prog k R b n D := by
 obtain ⟨es, clock, h1, h2⟩ := h
 exact ⟨es, clock, hk.heap h1 hF, h2⟩
theorem ChgAt.keeps {c : Chg} {v : Value} (h : ChgAt w ρ c v) (hk : Keeps F w w') (hF : ∀ k, F k → ρ k ≠ some .box) : ChgAt w' ρ c v := by
 cases c with
 | create n x => obtain ⟨b1, b2, h1, h2, h3, h4, h5, h6⟩ := h; exact ⟨b1, b2, h1, h2, h3, hk.heap h4 (fun e => hF _ e h2), hk.heap h5 (fun e => hF _ e h3), h6⟩
 | rename a b => obtain ⟨b1, b2, h1, h2, h3, h4, h5, h6⟩ := h; exact ⟨b1, b2, h1, h2, h3, hk.heap h4 (fun e => hF _ e h2), hk.heap h5 (fun e => hF _ e h3), h6⟩
 | unlink n => obtain ⟨b1, h1, h2, h3, h4⟩ := h; exact ⟨b1, h1, h2, hk.heap h3 (fun e => hF _ e h2), h4⟩
theorem FileAt'.keeps {x : Nat} {c : FileC} (h : FileAt' w ρ x c) (hk : Keeps F w w') (h1 : ¬ F x) (h2 : ∀ k, F k → ρ k ≠ some (.bytes x)) : FileAt' w' ρ x c :=
 ⟨h.role, hk.heap h.hd h1, own_keeps h.own hk (fun k e g => h2 k g (h.rown k e)), h.rown, h.small, h.sure⟩
theorem FsRest.keeps (h : FsRest w d ρ) (hk : Keeps F w w') (hF : ∀ k, F k → ρ k = none ∨ ρ k = some .fs) : FsRest w' d ρ := by
 have hn : ∀ {k : Nat} {r : Role}, ρ k = some r → r ≠ .fs → ¬ F k := fun h1 h2 h3 => by
  rcases hF _ h3 with e | e
  ·rw [e] at h1; cases h1
  ·rw [e] at h1; exact h2 (Option.some.inj h1).symm
 exact ⟨h.rnow, h.rsure, ownsMap_keeps h.dnow hk (hn h.rnow (by decide)), ownsMap_keeps h.dsure hk (hn h.rsure (by decide)), h.rlv, own_keeps h.own hk (fun k e => hn (h.rlv k e) (by decide)),
  fun p hp => (h.chg p hp).keeps hk (fun k e g => hn g (by decide) e), fun x c hx => (h.files x c hx).keeps hk (hn (h.files x c hx).role (by decide)) (fun k e g => hn g (by intro q; cases q) e),
  h.fnow, h.fsure, fun k e => Nat.lt_of_lt_of_le (h.lt k e) hk.size⟩
theorem FsAt.keeps (h : FsAt w f d ρ) (hk : Keeps F w w') (hF : ∀ k, F k → ρ k = none) : FsAt w' f d ρ :=
 ⟨h.role, hk.heap h.hd (fun e => by have := hF _ e; rw [h.role] at this; cases this), h.rest.keeps hk (fun k e => .inl (hF k e))⟩
theorem FsAt.below (h : FsAt w f d ρ) (hb : Below w.heap.size w w') : FsAt w' f d ρ :=
 h.keeps (F := fun _ => False) (Keeps.ofBelow hb) (fun _ e => e.elim)
end
theorem cells2 {w : World} {b : Nat} {t : TypeId} {c0 c1 : Value} (hb : w.heap[b]? = some (.cells #[c0, c1] t (0, 0))) :
 (w.cell? ⟨b, 0, none⟩ = some c0 ∧ w.cell? ⟨b, 1, none⟩ = some c1) ∧ (w.frozen? ⟨b, 0, none⟩ = false ∧ w.frozen? ⟨b, 1, none⟩ = false) :=
 ⟨⟨by rw [cell_of_row _ _ _ _ _ _ hb]; rfl, by rw [cell_of_row _ _ _ _ _ _ hb]; rfl⟩, frozen_of_row _ _ _ _ _ hb, frozen_of_row _ _ _ _ _ hb⟩
theorem fsHd_cells {w : World} {f : Nat} {d : FsD} (hb : FsHd w f d) :
 (w.cell? ⟨f, 0, none⟩ = some (.map (some d.mn)) ∧ w.cell? ⟨f, 1, none⟩ = some (.map (some d.ms)) ∧ w.cell? ⟨f, 2, none⟩ = some d.lv ∧ w.cell? ⟨f, 3, none⟩ = some (.int .i64 d.room) ∧ w.cell? ⟨f, 4, none⟩ = some (.int .i64 d.fuse) ∧ w.cell? ⟨f, 5, none⟩ = some (.bool d.down)) ∧
 (∀ j, w.frozen? ⟨f, j, none⟩ = false) :=
 ⟨⟨by rw [cell_of_row _ _ _ _ _ _ hb]; rfl, by rw [cell_of_row _ _ _ _ _ _ hb]; rfl, by rw [cell_of_row _ _ _ _ _ _ hb]; rfl, by rw [cell_of_row _ _ _ _ _ _ hb]; rfl, by rw [cell_of_row _ _ _ _ _ _ hb]; rfl, by rw [cell_of_row _ _ _ _ _ _ hb]; rfl⟩, fun j => frozen_of_row _ _ _ _ _ hb⟩
abbrev DirAt (w : World) (b : Nat) (l : Dir) : Prop := w.ownsMap Tryz.prog 9 ptrElem b l.length (dirD l)
def ptrOf (o : Option Nat) : Value := match o with | some x => .pointer (some ⟨x, 0, none⟩) | none => .pointer none
theorem keyed_str : Keyed Tryz.prog 9 := string_keyed Tryz.underlying9
theorem zero_file (w : World) : (zeroValue 98).run Tryz.prog w = .ok (.pointer none) w := by kernel_rfl
theorem key_str (n : Nm) (hn : n.length ≤ maxLen) : keyOf Tryz.prog 9 (.string (strL n)) = some (.string n) := by
 have := Go.WideMaps.keyOf_string_mk (P := Tryz.prog) Tryz.underlying9 (s := strL n) (by rw [strL_size]; exact hn)
 rw [strL_data] at this; exact this
section
variable {w : World} {b n : Nat} {l : Dir}
theorem dir_fit (h : w.ownsMap Tryz.prog 9 ptrElem b n (dirD l)) : DirAt w b l := by
 obtain ⟨es, clock, h1, h2, h3, h4⟩ := h
 refine ⟨es, clock, h1, h2, ?_, h4⟩
 unfold dirD at h4
 have h5 : l.map entD = ((es.toList.map (Go.WideElems.rg Tryz.prog 9 ptrElem)).foldr DataW.insert []) := by injection h4
 have h6 := congrArg List.length h5
 rw [length_sorted] at h6
 simp at h6
 omega
theorem dir_look (h : DirAt w b l) (k : Nm) (hk : k.length ≤ maxLen) : (Instr.lookup 93 (.map (some b)) (.string (strL k)) true).run Tryz.prog w = .ok (.tuple #[ptrOf (l.look k), .bool (l.look k).isSome]) w := by
 obtain ⟨v, ps, hrun, hv⟩ := h.look_ok keyed_str Tryz.underlying93 (zero_file w) (zd := .nil) (zp := []) rfl (key_str k hk)
 rw [dirD_has, dirD_at] at *
 rw [hrun]
 cases hl : l.look k with
 | none =>
  rw [hl] at hv
  rcases ptrElem_inv hv with ⟨rfl, _⟩ | ⟨x, _, h2⟩
  ·rfl
  ·injection h2 with h3 h4; cases h3
 | some x =>
  rw [hl] at hv
  rcases ptrElem_inv hv with ⟨_, h2⟩ | ⟨y, rfl, h2⟩
  ·injection h2 with h3 h4; cases h3
  ·injection h2 with h3 h4
   have : (x : Int) = (y : Int) := by injection h3 with h3; injection h3
   rw [show y = x by omega]; rfl
theorem dir_len (h : DirAt w b l) (ty : TypeId) : (Builtin.len_ #[93] ty #[.map (some b)]).run Tryz.prog w = .ok (.int .i64 l.length) w := by
 rw [h.len Tryz.underlying93 ty, dirD_size]
theorem dir_put (h : DirAt w b l) (hl : l.length < maxLen) (k : Nm) (hk : k.length ≤ maxLen) (x : Nat) : ∃ w', (Instr.mapUpdate 93 (.map (some b)) (.string (strL k)) (.pointer (some ⟨x, 0, none⟩))).run Tryz.prog w = .ok () w' ∧ DirAt w' b (l.put k x) ∧ Keeps (fun j => j = b) w w' := by
 obtain ⟨w', h1, h2, h3⟩ := h.update keyed_str Tryz.underlying93 hl (key_str k hk) (val := .pointer (some ⟨x, 0, none⟩)) (d := .lit (.int .i64 x)) (ps := []) rfl
 rw [dirD_put] at h2
 exact ⟨w', h1, dir_fit h2, (Keeps.grown h3).mono (fun i _ e => (Option.some.inj e).symm)⟩
theorem dir_del (h : DirAt w b l) (k : Nm) (hk : k.length ≤ maxLen) (ty : TypeId) : ∃ w', (Builtin.delete_ #[93, 9] ty #[.map (some b), .string (strL k)]).run Tryz.prog w = .ok (.tuple #[]) w' ∧ DirAt w' b (l.del k) ∧ Keeps (fun j => j = b) w w' := by
 obtain ⟨w', h1, h2, h3⟩ := h.drop keyed_str Tryz.underlying93 (key_str k hk) ty
 rw [dirD_del] at h2
 exact ⟨w', h1, dir_fit h2, (Keeps.grown h3.grown).mono (fun i _ e => (Option.some.inj e).symm)⟩
end
set_option maxHeartbeats 4000000 in
theorem create1_calls (b b1 b2 x : Nat) (n : Nm) (l : Dir) (w : World) (hd : DirAt w b l) (h1 : w.heap[b1]? = some (.cells #[.pointer (some ⟨x, 0, none⟩)] 98 (0, 0))) (h2 : w.heap[b2]? = some (.cells #[.string (strL n)] 9 (0, 0))) (hl : l.length < maxLen) (hn : n.length ≤ maxLen) :
 Calls Tryz.prog 52 #[.map (some b), .pointer (some ⟨b1, 0, none⟩), .pointer (some ⟨b2, 0, none⟩)] w fun e w' => e = .returned (.tuple #[]) ∧ DirAt w' b (l.put n x) ∧ Keeps (fun j => j = b) w w' := by
 obtain ⟨w1, hrun, hd1, hk⟩ := dir_put hd hl n hn x
 have c1 : w.cell? ⟨b1, 0, none⟩ = some (.pointer (some ⟨x, 0, none⟩)) := by rw [cell_of_row _ _ _ _ _ _ h1]; rfl
 have c2 : w.cell? ⟨b2, 0, none⟩ = some (.string (strL n)) := by rw [cell_of_row _ _ _ _ _ _ h2]; rfl
 have Hd := Lib.hid hd1
 clear hd hd1 h1 h2 hn
 generalize strL n = sn at hrun c2
 go_enter Tryz.func52, Tryz.ntmps52
 go_wp2
 go_end0
 exact ⟨rfl, Hd.out, hk⟩
set_option maxHeartbeats 4000000 in
theorem unlink1_calls (b b1 : Nat) (n : Nm) (l : Dir) (w : World) (hd : DirAt w b l) (h1 : w.heap[b1]? = some (.cells #[.string (strL n)] 9 (0, 0))) (hn : n.length ≤ maxLen) :
 Calls Tryz.prog 140 #[.map (some b), .pointer (some ⟨b1, 0, none⟩)] w fun e w' => e = .returned (.tuple #[]) ∧ DirAt w' b (l.del n) ∧ Keeps (fun j => j = b) w w' := by
 obtain ⟨w1, hrun, hd1, hk⟩ := dir_del hd n hn 0
 have c1 : w.cell? ⟨b1, 0, none⟩ = some (.string (strL n)) := by rw [cell_of_row _ _ _ _ _ _ h1]; rfl
 have Hd := Lib.hid hd1
 clear hd hd1 h1 hn
 generalize strL n = sn at hrun c1
 go_enter Tryz.func140, Tryz.ntmps140
 go_wp2
 go_end0
 exact ⟨rfl, Hd.out, hk⟩
theorem dir_look0 {w : World} {b : Nat} {l : Dir} (h : DirAt w b l) (k : Nm) (hk : k.length ≤ maxLen) : (Instr.lookup 93 (.map (some b)) (.string (strL k)) false).run Tryz.prog w = .ok (ptrOf (l.look k)) w := by
 obtain ⟨v, ps, hrun, hv⟩ := h.lookup keyed_str Tryz.underlying93 (zero_file w) (zd := .nil) (zp := []) rfl (key_str k hk)
 rw [dirD_at] at hv
 rw [hrun]
 cases hl : l.look k with
 | none =>
  rw [hl] at hv
  rcases ptrElem_inv hv with ⟨rfl, _⟩ | ⟨x, _, h2⟩
  ·rfl
  ·injection h2 with h3 h4; cases h3
 | some x =>
  rw [hl] at hv
  rcases ptrElem_inv hv with ⟨_, h2⟩ | ⟨y, rfl, h2⟩
  ·injection h2 with h3 h4; cases h3
  ·injection h2 with h3 h4
   have : (x : Int) = (y : Int) := by injection h3 with h3; injection h3
   rw [show y = x by omega]; rfl
set_option maxHeartbeats 4000000 in
theorem rename1_calls (b b1 b2 x : Nat) (m n : Nm) (l : Dir) (w : World) (hd : DirAt w b l) (hx : l.look m = some x) (h1 : w.heap[b1]? = some (.cells #[.string (strL m)] 9 (0, 0))) (h2 : w.heap[b2]? = some (.cells #[.string (strL n)] 9 (0, 0))) (hne : b1 ≠ b) (hl : l.length < maxLen) (hm : m.length ≤ maxLen) (hn : n.length ≤ maxLen) :
 Calls Tryz.prog 159 #[.map (some b), .pointer (some ⟨b1, 0, none⟩), .pointer (some ⟨b2, 0, none⟩)] w fun e w' => e = .returned (.tuple #[]) ∧ DirAt w' b ((l.put n x).del m) ∧ Keeps (fun j => j = b) w w' := by
 have hlook := dir_look0 hd m hm
 rw [hx] at hlook
 have hlook : (Instr.lookup 93 (.map (some b)) (.string (strL m)) false).run Tryz.prog w = .ok (.pointer (some ⟨x, 0, none⟩)) w := hlook
 obtain ⟨w1, hrun, hd1, hk⟩ := dir_put hd hl n hn x
 obtain ⟨w2, hrun2, hd2, hk2⟩ := dir_del hd1 m hm 0
 have c1 : w.cell? ⟨b1, 0, none⟩ = some (.string (strL m)) := by rw [cell_of_row _ _ _ _ _ _ h1]; rfl
 have c2 : w.cell? ⟨b2, 0, none⟩ = some (.string (strL n)) := by rw [cell_of_row _ _ _ _ _ _ h2]; rfl
 have c3 : w1.cell? ⟨b1, 0, none⟩ = some (.string (strL m)) := by rw [cell_of_row _ _ _ _ _ _ (hk.heap h1 hne)]; rfl
 have Hd := Lib.hid hd2
 have Hk := Lib.hid (hk.trans hk2)
 clear hd hd1 hd2 h1 h2 hn hm hx hk hk2 hne
 generalize strL n = sn at hrun c2
 generalize strL m = sm at hrun2 c1 c3 hlook
 go_enter Tryz.func159, Tryz.ntmps159
 go_wp2
 go_end0
 exact ⟨rfl, Hd.out, Hk.out⟩
open Go.RowKit
def nameCh (c : UInt8) : Bool := decide (32 < c.toNat ∧ c.toNat ≤ 126 ∧ c.toNat ≠ 47)
def rightD (n : Nm) : Bool := n.all nameCh && decide (n ≠ []) && decide (n.length ≤ 80)
theorem str_empty (n : Nm) : (strL n).toList.isEmpty = decide (n = []) := by
 have h0 : (strL []).toList = [] := by kernel_rfl
 by_cases h : n = []
 ·subst h; rw [h0]; rfl
 ·have hne : strL n ≠ strL [] := fun e => h (strL_inj e)
  have := (Lib.bytes_beq_false_iff _ _).2 hne
  rw [h0] at this
  rw [decide_eq_false h]
  cases hh : (strL n).toList with
  | nil => rw [hh] at this; cases this
  | cons a r => rfl
theorem conv_bytes (l : List UInt8) (w : World) : ∃ cap w', (convert 9 22 (.string (strL l))).run Tryz.prog w = .ok (.slice (some ⟨w.heap.size, 0, none⟩) l.length cap) w' ∧ Below w.heap.size w w' ∧ (∀ (j : Nat) (x : UInt8), l[j]? = some x → w'.cell? ⟨w.heap.size, j, none⟩ = some (.int .u8 x.toNat)) ∧ w.heap.size < w'.heap.size := by
 have h := Lib.run_convert_string_bytes (P := Tryz.prog) w 9 22 5 (strL l) Tryz.underlying9 Tryz.underlying22 Tryz.underlying5
 rw [strL_size] at h
 refine ⟨_, _, h, ⟨rfl, rfl, rfl, by rw [Lib.bytesWorld_size]; omega, fun k hk => Lib.bytesWorld_at_old _ _ _ _ hk⟩, ?_, by rw [Lib.bytesWorld_size]; omega⟩
 intro j x hx
 have hj : j < (strL l).size := by rw [strL_size]; exact (List.getElem?_eq_some_iff.1 hx).1
 rw [Lib.bytesWorld_cell _ _ _ _ hj, strL_data]
 simp [List.getD, hx]
set_option maxHeartbeats 4000000 in
theorem right_calls (n : Nm) (w : World) (hn : n.length ≤ 9223372036854775807) :
 Calls Tryz.prog 95 #[.string (strL n)] w fun e w' => e = .returned (.bool (rightD n)) ∧ Below w.heap.size w w' := by
 obtain ⟨cap, w1, hconv, hb1, hcell, hlt⟩ := conv_bytes n w
 have Hcell := Lib.hid hcell
 have Hb1 := Lib.hid hb1
 have hni : (n.length : Int) ≤ 9223372036854775807 := by omega
 clear hcell hb1
 go_enter Tryz.func95, Tryz.ntmps95
 go_wp2
 go_loopw [4, 8] (fun c i wr => ∃ j : Nat, j ≤ n.length ∧ i = .int .i64 j ∧ (n.take j).all nameCh = true ∧ Hid (Below w1.heap.size w1 wr)) (fun _ i _ => n.length - (intOf i).toNat)
 case atStart => exact ⟨0, Nat.zero_le _, rfl, rfl, Lib.hid (Below.refl _ _)⟩
 case round =>
  obtain ⟨j, hj, rfl, hall, hbw⟩ := hrel
  by_cases hlt2 : j < n.length
  ·obtain ⟨x, hx⟩ : ∃ x, n[j]? = some x := ⟨_, List.getElem?_eq_getElem hlt2⟩
   have hj0 : (0 : Int) ≤ (j : Int) := by omega
   have hj1 : (j : Int) < (n.length : Int) := by omega
   have hc := ((below_cell hbw.out).1 _ j hlt).trans (Hcell.out j x hx)
   have hxb := x.toNat_lt
   have htk : nameCh x = true → (n.take (j + 1)).all nameCh = true := fun h => by rw [take_snoc hx, List.all_append, hall]; simpa using h
   have hno : nameCh x = false → rightD n = false := fun h => by
    have : n.all nameCh = false := by rw [List.all_eq_false]; exact ⟨x, List.mem_of_getElem? hx, by rw [h]; simp⟩
    unfold rightD; rw [this]; rfl
   obtain ⟨p, hp⟩ : ∃ p, nameCh x = p := ⟨_, rfl⟩
   rw [hp] at htk hno
   have Htk := Lib.hid htk
   have Hno := Lib.hid hno
   have Hp := Lib.hid hp
   clear htk hno hp hall hx
   by_cases h1 : (x.toNat : Int) ≤ 32
   ·have hpf : p = false := by rw [← Hp.out]; unfold nameCh; exact decide_eq_false (by omega)
    have Hno2 := Lib.hid (Hno.out hpf)
    clear hpf
    go_wp2
    go_ret
    rw [Hno2.out]
    exact ⟨rfl, Hb1.out.trans (hbw.out.mono Hb1.out.size)⟩
   ·by_cases h2 : (126 : Int) < (x.toNat : Int)
    ·have hpf : p = false := by rw [← Hp.out]; unfold nameCh; exact decide_eq_false (by omega)
     have Hno2 := Lib.hid (Hno.out hpf)
     clear hpf
     go_wp2
     go_ret
     rw [Hno2.out]
     exact ⟨rfl, Hb1.out.trans (hbw.out.mono Hb1.out.size)⟩
    ·by_cases h3 : (x.toNat : Int) = 47
     ·have hpf : p = false := by rw [← Hp.out]; unfold nameCh; exact decide_eq_false (by omega)
      have Hno2 := Lib.hid (Hno.out hpf)
      clear hpf
      go_wp2
      go_ret
      rw [Hno2.out]
      exact ⟨rfl, Hb1.out.trans (hbw.out.mono Hb1.out.size)⟩
     ·have hpf : p = true := by rw [← Hp.out]; unfold nameCh; exact decide_eq_true (by omega)
      have Htk2 := Lib.hid (Htk.out hpf)
      have h4 : ((x.toNat : Int) == 47) = false := by simpa using h3
      clear hpf
      go_wp2
      go_roundw
      case rel => exact ⟨j + 1, by omega, by simp, Htk2.out, hbw⟩
      case measure => simp [intOf] <;> omega
  ·have hje : j = n.length := by omega
   subst hje
   rw [List.take_of_length_le (Nat.le_refl _)] at hall
   have hjl : ¬ ((n.length : Int) < (n.length : Int)) := by omega
   have hr : rightD n = (decide (n ≠ []) && decide (n.length ≤ 80)) := by unfold rightD; rw [hall]; rfl
   have Hr := Lib.hid hr
   have hfin := Lib.hid (Hb1.out.trans (hbw.out.mono Hb1.out.size))
   have hsz := strL_size n
   clear hr hall
   have hem := str_empty n
   by_cases h1 : n = []
   ·rw [decide_eq_true h1] at hem
    have Hr2 : Hid (rightD n = false) := Lib.hid (by rw [Hr.out]; simp [h1])
    clear h1
    generalize strL n = sn at hsz hem ⊢
    have hsz2 : (sn.size : Int) = (n.length : Int) := by omega
    clear hsz hsz2
    go_wp2
    go_ret
    rw [Hr2.out]
    exact ⟨rfl, hfin.out⟩
   ·rw [decide_eq_false h1] at hem
    have Hr2 : Hid (rightD n = decide (n.length ≤ 80)) := Lib.hid (by rw [Hr.out]; simp [h1])
    clear h1
    generalize strL n = sn at hsz hem ⊢
    have hsz2 : (sn.size : Int) = (n.length : Int) := by omega
    by_cases h2 : (n.length : Int) ≤ 80
    ·have h3 : (sn.size : Int) ≤ 80 := by omega
     have Hr3 : Hid (rightD n = true) := Lib.hid (by rw [Hr2.out]; exact decide_eq_true (by omega))
     clear hsz2 hsz
     go_wp2
     go_ret
     rw [Hr3.out]
     exact ⟨rfl, hfin.out⟩
    ·have h3 : ¬ ((sn.size : Int) ≤ 80) := by omega
     have Hr3 : Hid (rightD n = false) := Lib.hid (by rw [Hr2.out]; exact decide_eq_false (by omega))
     clear hsz2 hsz
     go_wp2
     go_ret
     rw [Hr3.out]
     exact ⟨rfl, hfin.out⟩
structure FsStep (w : World) (ρ : Rho) (w' : World) (ρ' : Rho) : Prop where
 keeps : Keeps ρ.has w w'
 grow : ∀ k, ρ'.has k → ρ.has k ∨ w.heap.size ≤ k
theorem FsStep.refl (w : World) (ρ : Rho) : FsStep w ρ w ρ := ⟨Keeps.refl _ _, fun _ h => .inl h⟩
theorem FsStep.trans {a b c : World} {ρ σ τ : Rho} (h : FsStep a ρ b σ) (k : FsStep b σ c τ) : FsStep a ρ c τ :=
 ⟨h.keeps.go k.keeps h.grow, fun x hx => by
  rcases k.grow x hx with e | e
  ·exact h.grow x e
  ·exact .inr (Nat.le_trans h.keeps.size e)⟩
theorem FsStep.below {w w' : World} {ρ : Rho} (h : Below w.heap.size w w') : FsStep w ρ w' ρ := ⟨Keeps.ofBelow h, fun _ h => .inl h⟩
theorem FsStep.one {w w' : World} {ρ : Rho} {b : Nat} {r : Role} (hr : ρ b = some r) (h : Keeps (fun k => k = b) w w') : FsStep w ρ w' ρ := ⟨h.mono (fun k _ e => by rw [e]; exact Rho.has_of hr), fun _ h => .inl h⟩
theorem FsAt.head {w w' : World} {f : Nat} {d d' : FsD} {ρ : Rho} (h : FsAt w f d ρ) (hk : Keeps (fun k => k = f) w w') (hd : FsHd w' f d') (hr : FsRest w d ρ → FsRest w d' ρ) : FsAt w' f d' ρ :=
 ⟨h.role, hd, (hr h.rest).keeps hk (fun k e => .inr (by rw [e]; exact h.role))⟩
def powerD (d : FsD) : Int × FsD := if d.fuse = 0 then (2, { d with down := true }) else (0, { d with fuse := if 0 < d.fuse then d.fuse - 1 else d.fuse })
set_option maxHeartbeats 4000000 in
theorem power_calls (f : Nat) (d : FsD) (ρ : Rho) (w : World) (h : FsAt w f d ρ) (hfu : -1 ≤ d.fuse ∧ d.fuse ≤ 9223372036854775807) :
 Calls Tryz.prog 54 #[.pointer (some ⟨f, 0, none⟩)] w fun e w' => e = .returned (.int .i64 (powerD d).1) ∧ FsAt w' f (powerD d).2 ρ ∧ Keeps (fun k => k = f) w w' := by
 obtain ⟨⟨c0, c1, c2, c3, c4, c5⟩, hfz⟩ := fsHd_cells h.hd
 have f4 := hfz 4
 have f5 := hfz 5
 have H := Lib.hid h
 clear hfz h
 by_cases h0 : d.fuse = 0
 ·have Hp : Hid (powerD d = (2, { d with down := true })) := Lib.hid (by unfold powerD; rw [if_pos h0])
  rw [h0] at c4
  clear h0
  go_enter Tryz.func54, Tryz.ntmps54
  go_wp2
  go_ret
  have hk : Keeps (fun k => k = f) w (w.setCell ⟨f, 5, none⟩ (.bool true)) := Keeps.setCell _ _ _ rfl
  rw [Hp.out]
  exact ⟨rfl, H.out.head hk (heap_setCell_same _ _ 5 _ _ _ H.out.hd) (fun r => ⟨r.rnow, r.rsure, r.dnow, r.dsure, r.rlv, r.own, r.chg, r.files, r.fnow, r.fsure, r.lt⟩), hk⟩
 ·have h0' : (d.fuse == 0) = false := by simpa using h0
  by_cases h1 : 0 < d.fuse
  ·have Hp : Hid (powerD d = (0, { d with fuse := d.fuse - 1 })) := Lib.hid (by unfold powerD; rw [if_neg h0, if_pos h1])
   have hw : wrap64 (d.fuse - 1) = d.fuse - 1 := IntWalk.wrap64_in _ (by omega)
   generalize hfu' : d.fuse = fu at c4 h0 h0' h1 hw
   go_enter Tryz.func54, Tryz.ntmps54
   go_wp2
   go_ret
   have hk : Keeps (fun k => k = f) w (w.setCell ⟨f, 4, none⟩ (.int .i64 (fu - 1))) := Keeps.setCell _ _ _ rfl
   rw [Hp.out, hfu']
   exact ⟨rfl, H.out.head hk (heap_setCell_same _ _ 4 _ _ _ H.out.hd) (fun r => ⟨r.rnow, r.rsure, r.dnow, r.dsure, r.rlv, r.own, r.chg, r.files, r.fnow, r.fsure, r.lt⟩), hk⟩
  ·have Hp : Hid (powerD d = (0, d)) := Lib.hid (by unfold powerD; rw [if_neg h0, if_neg h1])
   generalize hfu' : d.fuse = fu at c4 h0 h0' h1
   go_enter Tryz.func54, Tryz.ntmps54
   go_wp2
   go_ret
   rw [Hp.out]
   exact ⟨rfl, H.out, Keeps.refl _ _⟩
set_option maxHeartbeats 1000000 in
theorem rightFn_calls (n : Nm) (w : World) (hn : n.length ≤ 9223372036854775807) :
 Calls Tryz.prog 94 #[.string (strL n)] w fun e w' => e = .returned (.bool (!rightD n)) ∧ Below w.heap.size w w' := by
 have h1 := right_calls n w hn
 generalize rightD n = p at h1
 generalize strL n = sn at h1
 have H1 := Lib.hid h1
 clear h1
 go_enter Tryz.func94, Tryz.ntmps94
 go_wp2_with fail
 refine (H1.out).mono ?_; rintro e w1 ⟨rfl, hb1⟩
 go_wp2
 go_ret
 exact ⟨rfl, hb1⟩
set_option maxRecDepth 100000 in
set_option maxHeartbeats 4000000 in
theorem indexWrong_calls (v : Value) (ls : List (List UInt8)) (w : World) (hv : RdS w v ls) (hs : ∀ l ∈ ls, l.length ≤ 9223372036854775807) :
 Calls Tryz.prog 134 #[v, .func (.func 94) #[] #[]] w fun e w' => (∃ i : Int, e = .returned (.int .i64 i) ∧ ((0 ≤ i ∧ ls.all rightD = false) ∨ (i = -1 ∧ ls.all rightD = true))) ∧ Below w.heap.size w w' := by
 obtain ⟨a, cap, rfl, hlc, hcap⟩ := hv.form
 have hfn := fun (l : List UInt8) W (h : l ∈ ls) => rightFn_calls l W (hs l h)
 have Hfn := Lib.hid hfn
 have Hv := Lib.hid hv
 have hni : (ls.length : Int) ≤ 9223372036854775807 := by omega
 clear hfn hv hs
 go_enter Tryz.func134, Tryz.ntmps134
 go_wp2
 go_loopw [8] (fun i wr => ∃ j : Nat, j ≤ ls.length ∧ i = .int .i64 j ∧ (ls.take j).all rightD = true ∧ Below w.heap.size w wr) (fun i _ => ls.length - (intOf i).toNat)
 case atStart => exact ⟨0, Nat.zero_le _, rfl, rfl, Below.refl _ _⟩
 case round =>
  obtain ⟨j, hj, rfl, hall, hbw⟩ := hrel
  by_cases hlt : j < ls.length
  ·obtain ⟨l, hl⟩ : ∃ l, ls[j]? = some l := ⟨_, List.getElem?_eq_getElem hlt⟩
   obtain ⟨b, off, cap', hsl, hbl, hc⟩ := RdS.at (Hv.out.below (Nat.le_refl _) hbw) hl
   cases hsl
   have hcall := fun W => Hfn.out l W (List.mem_of_getElem? hl)
   have htk : rightD l = true → (ls.take (j + 1)).all rightD = true := fun h => by rw [take_snoc hl, List.all_append, hall]; simpa using h
   have hno : rightD l = false → ls.all rightD = false := fun h => by rw [List.all_eq_false]; exact ⟨l, List.mem_of_getElem? hl, by rw [h]; simp⟩
   generalize rightD l = p at hcall htk hno
   have Hcall := Lib.hid hcall
   have Htk := Lib.hid htk
   have Hno := Lib.hid hno
   have hj0 : (0 : Int) ≤ (j : Int) := by omega
   have hj1 : (j : Int) < (ls.length : Int) := by omega
   clear hcall htk hno hall hl
   generalize strL l = sl at hc Hcall
   cases p
   ·go_wp2_with fail
    refine (Hcall.out _).mono ?_; rintro e w2 ⟨rfl, hb2⟩
    go_wp2
    go_ret
    exact ⟨⟨_, rfl, .inl ⟨hj0, Hno.out (by trivial)⟩⟩, hbw.trans (hb2.mono hbw.size)⟩
   ·go_wp2_with fail
    refine (Hcall.out _).mono ?_; rintro e w2 ⟨rfl, hb2⟩
    go_wp2
    go_roundw
    case rel => exact ⟨j + 1, by omega, by simp, Htk.out (by trivial), hbw.trans (hb2.mono hbw.size)⟩
    case measure => simp [intOf] <;> omega
  ·have hje : j = ls.length := by omega
   subst hje
   rw [List.take_of_length_le (Nat.le_refl _)] at hall
   have Hall := Lib.hid hall
   clear hall
   go_wp2
   go_ret
   exact ⟨⟨_, rfl, .inr ⟨rfl, Hall.out⟩⟩, hbw⟩
set_option maxRecDepth 100000 in
set_option maxHeartbeats 4000000 in
theorem containsWrong_calls (v : Value) (ls : List (List UInt8)) (w : World) (hv : RdS w v ls) (hs : ∀ l ∈ ls, l.length ≤ 9223372036854775807) :
 Calls Tryz.prog 93 #[v, .func (.func 94) #[] #[]] w fun e w' => e = .returned (.bool (!ls.all rightD)) ∧ Below w.heap.size w w' := by
 have h1 := indexWrong_calls v ls w hv hs
 generalize ls.all rightD = p at h1
 have H1 := Lib.hid h1
 clear h1 hv hs
 go_enter Tryz.func93, Tryz.ntmps93
 go_wp2_with fail
 refine (H1.out).mono ?_; rintro e w1 ⟨⟨i, rfl, hi⟩, hb1⟩
 rcases hi with ⟨h0, rfl⟩ | ⟨rfl, rfl⟩
 ·go_wp2
  go_ret
  exact ⟨by first | rfl | simp [h0], hb1⟩
 ·go_wp2
  go_ret
  exact ⟨rfl, hb1⟩
def readyE (d : FsD) (ns : List Nm) : Int := if ns.all rightD then (if d.down then 2 else 0) else 1
set_option maxHeartbeats 4000000 in
theorem ready_calls (f : Nat) (d : FsD) (ρ : Rho) (v : Value) (ns : List Nm) (w : World) (h : FsAt w f d ρ) (hv : RdS w v ns) (hs : ∀ n ∈ ns, n.length ≤ 9223372036854775807) :
 Calls Tryz.prog 50 #[.pointer (some ⟨f, 0, none⟩), v] w fun e w' => e = .returned (.int .i64 (readyE d ns)) ∧ Below w.heap.size w w' := by
 have h1 := containsWrong_calls v ns w hv hs
 obtain ⟨p, hp⟩ : ∃ p, ns.all rightD = p := ⟨_, rfl⟩
 rw [hp] at h1
 have Hr : Hid (readyE d ns = if p then (if d.down then 2 else 0) else 1) := Lib.hid (by unfold readyE; rw [hp])
 have H1 := Lib.hid h1
 have H := Lib.hid h
 clear h1 hp h hv hs
 cases p with
 | false =>
  go_enter Tryz.func50, Tryz.ntmps50
  go_wp2_with fail
  refine (H1.out).mono ?_; rintro e w1 ⟨rfl, hb1⟩
  go_wp2
  go_ret
  rw [Hr.out]
  exact ⟨rfl, hb1⟩
 | true =>
  go_enter Tryz.func50, Tryz.ntmps50
  go_wp2_with fail
  refine (H1.out).mono ?_; rintro e w1 ⟨rfl, hb1⟩
  obtain ⟨⟨c0, c1, c2, c3, c4, c5⟩, _⟩ := fsHd_cells (H.out.below hb1).hd
  clear c0 c1 c2 c3 c4
  obtain ⟨dn, hdn⟩ : ∃ dn, d.down = dn := ⟨_, rfl⟩
  rw [hdn] at c5
  have Hdn := Lib.hid hdn
  clear hdn
  cases dn with
  | true =>
   go_wp2
   go_ret
   rw [Hr.out, Hdn.out]
   exact ⟨rfl, hb1⟩
  | false =>
   go_wp2
   go_ret
   rw [Hr.out, Hdn.out]
   exact ⟨rfl, hb1⟩
def foundD (d : FsD) (n : Nm) (ns : List Nm) : Option Nat × Int :=
 if readyE d (n :: ns) = 0 then (d.now.look n, if (d.now.look n).isSome then 0 else 4) else (none, readyE d (n :: ns))
set_option maxHeartbeats 8000000 in
theorem found_calls (f : Nat) (d : FsD) (ρ : Rho) (v : Value) (n : Nm) (ns : List Nm) (w : World) (h : FsAt w f d ρ) (hv : RdS w v (n :: ns)) (hs : ∀ k ∈ n :: ns, k.length ≤ maxLen) :
 Calls Tryz.prog 53 #[.pointer (some ⟨f, 0, none⟩), v] w fun e w' => e = .returned (.tuple #[ptrOf (foundD d n ns).1, .int .i64 (foundD d n ns).2]) ∧ Below w.heap.size w w' := by
 have h1 := ready_calls f d ρ v (n :: ns) w h hv (fun k hk => by have := hs k hk; unfold maxLen at this; exact this)
 obtain ⟨b, off, cap, hsl, hbl, hc⟩ := RdS.at hv (i := 0) (l := n) rfl
 obtain ⟨e, he⟩ : ∃ e, readyE d (n :: ns) = e := ⟨_, rfl⟩
 rw [he] at h1
 have Hf : Hid (foundD d n ns = if e = 0 then (d.now.look n, if (d.now.look n).isSome then 0 else 4) else (none, e)) := Lib.hid (by unfold foundD; rw [he])
 have hlen : (n :: ns).length = ns.length + 1 := rfl
 rw [hlen] at hsl
 rw [Nat.add_zero] at hc
 have hnn : n.length ≤ maxLen := hs n (by simp)
 subst hsl
 have H1 := Lib.hid h1
 have H := Lib.hid h
 have Hc := Lib.hid hc
 have Hnn := Lib.hid hnn
 clear h1 he h hv hs hc hlen hnn
 by_cases h0 : e = 0
 ·subst h0
  have Hf2 : Hid (foundD d n ns = (d.now.look n, if (d.now.look n).isSome then 0 else 4)) := Lib.hid (by rw [Hf.out]; rfl)
  clear Hf
  go_enter Tryz.func53, Tryz.ntmps53
  go_wp2_with fail
  refine (H1.out).mono ?_; rintro e w1 ⟨rfl, hb1⟩
  have hF := H.out.below hb1
  have hlk := dir_look (World.ownsMap.drew hF.rest.dnow) n Hnn.out
  obtain ⟨⟨c0, c1, c2, c3, c4, c5⟩, _⟩ := fsHd_cells hF.hd
  have hcn : w1.cell? ⟨b, off, none⟩ = some (.string (strL n)) := ((below_cell hb1).1 b off hbl).trans Hc.out
  obtain ⟨mn, hmn⟩ : ∃ mn, d.mn = mn := ⟨_, rfl⟩
  obtain ⟨o, ho⟩ : ∃ o, d.now.look n = o := ⟨_, rfl⟩
  obtain ⟨sn, hsn⟩ : ∃ sn, strL n = sn := ⟨_, rfl⟩
  rw [hmn, ho, hsn] at hlk
  rw [hmn] at c0
  rw [hsn] at hcn
  have Hf3 : Hid (foundD d n ns = (o, if o.isSome then 0 else 4)) := Lib.hid (by rw [Hf2.out, ho])
  obtain ⟨pv, hpv⟩ : ∃ pv, ptrOf o = pv := ⟨_, rfl⟩
  obtain ⟨ok, hok⟩ : ∃ ok, o.isSome = ok := ⟨_, rfl⟩
  rw [hpv, hok] at hlk
  have HS : Hid ((fun w' => w'.cell? ⟨f, 0, none⟩ = some (.map (some mn)) ∧ w'.cell? ⟨b, off, none⟩ = some (.string sn) ∧ (Instr.lookup 93 (.map (some mn)) (.string sn) true).run Tryz.prog w' = .ok (.tuple #[pv, .bool ok]) w') w1.drew) := ⟨c0, hcn, hlk⟩
  have Hok := Lib.hid hok
  have Hpv := Lib.hid hpv
  have hn1 : (0 : Int) < ((ns.length + 1 : Nat) : Int) := by omega
  clear hF c0 c1 c2 c3 c4 c5 hcn hlk hmn ho hsn hpv hok Hf2 Hc
  go_upto_region 4 with fail
  refine wp_region_noPanic ?_
  refine wp_region_held_drew (S := (fun w' => w'.cell? ⟨f, 0, none⟩ = some (.map (some mn)) ∧ w'.cell? ⟨b, off, none⟩ = some (.string sn) ∧ (Instr.lookup 93 (.map (some mn)) (.string sn) true).run Tryz.prog w' = .ok (.tuple #[pv, .bool ok]) w')) (by kernel_rfl) (by with_reducible exact HS.out) (fun hHeld => ?_)
  refine tkP 0 ?_
  refine tkP 1 ?_
  refine tkP 2 ?_
  refine tkP 3 ?_
  refine tkP 4 ?_
  refine tkP 5 ?_
  refine tkP 6 ?_
  refine tkP 7 ?_
  refine tkP 8 ?_
  refine tkP 9 ?_
  refine tkP 10 ?_
  refine tkP 11 ?_
  refine tkP 12 ?_
  refine wpAnyH_done (by kernel_rfl) ?_ _
  refine NoPanic.normal ?_
  clear HS
  cases ok with
  | false =>
   have Hf4 : Hid (foundD d n ns = (none, 4)) := Lib.hid (by rw [Hf3.out]; cases o with | none => rfl | some x => cases Hok.out)
   go_wp2
   go_ret2
   rw [Hf4.out]
   exact ⟨rfl, hb1.drew⟩
  | true =>
   have Hf4 : Hid (ptrOf (foundD d n ns).1 = pv ∧ (foundD d n ns).2 = 0) := Lib.hid (by rw [Hf3.out, Hok.out]; exact ⟨Hpv.out, rfl⟩)
   go_wp2
   go_ret2
   rw [Hf4.out.1, Hf4.out.2]
   exact ⟨rfl, hb1.drew⟩
 ·have h0' : (e == 0) = false := by simpa using h0
  have Hf2 : Hid (foundD d n ns = (none, e)) := Lib.hid (by rw [Hf.out, if_neg h0])
  go_enter Tryz.func53, Tryz.ntmps53
  go_wp2_with fail
  refine (H1.out).mono ?_; rintro e w1 ⟨rfl, hb1⟩
  go_wp2
  go_ret2
  rw [Hf2.out]
  exact ⟨rfl, hb1⟩
end Go.Proofs.YtffnbkmigapmjaaGreatDoor

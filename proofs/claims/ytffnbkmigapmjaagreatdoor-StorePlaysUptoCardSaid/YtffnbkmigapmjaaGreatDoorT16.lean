/-
  The walk of fs: Used (a sum over a map, in whatever order).
  The walk of fs: Append (printed by gen_fsapp.py).
  The walks of fs: Read, Down, Room, Fuse, New.
-/
import Derived.Test.YtffnbkmigapmjaaGreatDoorT11
import Derived.Test.YtffnbkmigapmjaaGreatDoorT15
import Derived.Maps.RangeWalk
import Derived.Sort.KeysCollected
set_option linter.unusedSimpArgs false
set_option linter.unusedVariables false
set_option maxRecDepth 100000
namespace Go.Proofs.YtffnbkmigapmjaaGreatDoor
open Go.RowKit Go.Maps
def lenOf (d : FsD) (x : Nat) : Nat := match d.file x with | some c => c.bytes.length | none => 0
def sumL (d : FsD) (l : Dir) (left : Lit → Bool) : Nat := ((l.filter (fun p => left (.string p.1))).map (fun p => lenOf d p.2)).sum
def usedD (d : FsD) : Nat := (d.now.map (fun p => lenOf d p.2)).sum
theorem sumL_all {d : FsD} : ∀ {l : Dir} {left : Lit → Bool}, (∀ p ∈ l, left (.string p.1) = true) → sumL d l left = (l.map (fun p => lenOf d p.2)).sum := by
 intro l left h
 unfold sumL
 rw [List.filter_eq_self.2 h]
theorem sumL_none {d : FsD} {l : Dir} {left : Lit → Bool} (h : ∀ k, left k = false) : sumL d l left = 0 := by
 unfold sumL
 have : l.filter (fun p => left (.string p.1)) = [] := List.filter_eq_nil_iff.2 (fun p _ => by rw [h]; simp)
 rw [this]; rfl
theorem sumL_cons {d : FsD} {p : Nm × Nat} {l : Dir} {left : Lit → Bool} : sumL d (p :: l) left = (if left (.string p.1) then lenOf d p.2 else 0) + sumL d l left := by
 unfold sumL
 rw [List.filter_cons]
 split <;> simp
theorem sumL_absent {d : FsD} {x : Nm} {left : Lit → Bool} : ∀ {l : Dir}, (∀ p ∈ l, p.1 ≠ x) → sumL d l (fun z => left z && !z.sameKey (.string x)) = sumL d l left := by
 intro l
 induction l with
 | nil => intro _; rfl
 | cons p r ih =>
  intro h
  rw [sumL_cons, sumL_cons, ih (fun q hq => h q (List.mem_cons_of_mem _ hq)), same_str]
  have : (p.1 == x) = false := by simpa using h p (by simp)
  rw [this]; simp
theorem sumL_step {d : FsD} {x : Nm} {f : Nat} {left : Lit → Bool} (hl : left (.string x) = true) : ∀ {l : Dir}, l.Pairwise (fun p q => p.1 ≠ q.1) → (x, f) ∈ l → sumL d l left = lenOf d f + sumL d l (fun z => left z && !z.sameKey (.string x)) := by
 intro l
 induction l with
 | nil => intro _ h; cases h
 | cons p r ih =>
  intro hp hm
  rw [sumL_cons, sumL_cons, same_str]
  obtain ⟨h1, h2⟩ := List.pairwise_cons.1 hp
  rcases List.mem_cons.1 hm with e | hm
  ·subst e
   rw [hl, sumL_absent (fun q hq e => h1 q hq e.symm)]
   simp
  ·have hne : (p.1 == x) = false := by simpa using h1 _ hm
   rw [hne, ih h2 hm]
   simp
   omega
theorem sumL_le {d : FsD} {left : Lit → Bool} {B : Nat} (hs : ∀ x c, d.file x = some c → c.bytes.length ≤ B) : ∀ (l : Dir), sumL d l left ≤ l.length * B := by
 intro l
 induction l with
 | nil => simp [sumL]
 | cons p r ih =>
  rw [sumL_cons, List.length_cons, Nat.succ_mul]
  have : lenOf d p.2 ≤ B := by
   unfold lenOf
   cases hc : d.file p.2 with
   | none => exact Nat.zero_le _
   | some c => exact hs _ _ hc
  split <;> omega
theorem dir_apart {w : World} {b : Nat} {l : Dir} (h : DirAt w b l) : l.Pairwise (fun p q => p.1 ≠ q.1) := by
 obtain ⟨es, he, hp, _⟩ := World.ownsMap.entries h keyed_str
 unfold dirD at he
 have he : l.map entD = es := by injection he
 rw [← he] at hp
 have := List.pairwise_map.1 hp
 exact this.imp (fun hne e => hne (by unfold entD; rw [e]))
set_option maxHeartbeats 8000000 in
theorem used_calls (f : Nat) (d : FsD) (ρ : Rho) (w : World) (h : FsAt w f d ρ) (hl : d.now.length ≤ 256) :
 Calls Tryz.prog 35 #[.pointer (some ⟨f, 0, none⟩)] w fun e w' => e = .returned (.int .i64 (usedD d)) ∧ Below w.heap.size w w' := by
 obtain ⟨⟨c0, c1, c2, c3, c4, c5⟩, _⟩ := fsHd_cells h.hd
 have hown : w.ownsMap Tryz.prog 9 ptrElem d.mn d.now.length (dirD d.now) := h.rest.dnow
 have hap := dir_apart h.rest.dnow
 have hstart : sumL d d.now (Maps.has (dirD d.now)) = usedD d := sumL_all (fun p hp => by
  rw [dirD_has]
  unfold Dir.look
  rw [Option.isSome_map, List.find?_isSome]
  exact ⟨p, hp, by simp⟩)
 have hbig : ∀ left, sumL d d.now left ≤ 4294967296 := fun left => by
  have h1 := sumL_le (left := left) (d := d) (B := 16777216) (fun x c hc => (h.rest.files x c hc).small) d.now
  have h2 : d.now.length * 16777216 ≤ 256 * 16777216 := Nat.mul_le_mul_right _ hl
  omega
 have Hstart := Lib.hid hstart
 have Hbig := Lib.hid hbig
 have Hap := Lib.hid hap
 have H := Lib.hid h
 have hnn : sumL d d.now (Maps.has (dirD d.now)) ≤ 4294967296 := hbig _
 rw [hstart] at hnn
 obtain ⟨T, hT⟩ : ∃ T, usedD d = T := ⟨_, rfl⟩
 rw [hT] at Hstart hnn
 have HT := Lib.hid hT
 clear hstart hbig hap hT c1 c2 c3 c4 c5 h
 go_enter Tryz.func35, Tryz.ntmps35
 go_wp2_with (at_range; go_loud (refine wpList_range_own _ rfl _ 93 rfl 9 98 keyed_str Tryz.underlying93 ptrElem d.mn d.now.length (dirD d.now) rfl hown ?_; intro w0 hrg0 hg0 hs0))
 have hb0 : Below w.heap.size w w0 := (Below.refl _ _).grown hg0 (Nat.le_refl _) (fun j hj => by cases hj)
 go_frame
 clear hs0
 go_loopw [3, 5] (fun n x wr => ∃ left cnt, ∃ acc : Nat, wr.ranges Tryz.prog 9 ptrElem d.mn w.heap.size d.now.length (dirD d.now) left cnt ∧ n = .int .i64 acc ∧ Hid (acc + sumL d d.now left = T) ∧ Below w.heap.size w wr) (fun _ _ wr => wr.rangeLeft d.mn w.heap.size)
 case atStart =>
  exact ⟨_, _, 0, hrg0, rfl, Lib.hid (by rw [Nat.zero_add]; exact Hstart.out), hb0⟩
 case round =>
  obtain ⟨left, cnt, acc, hrg, rfl, hacc, hbw⟩ := hrel
  have hacn : acc ≤ 4294967296 := by have := hacc.out; omega
  have hac1 : (0 : Int) ≤ (acc : Int) := by omega
  have hac2 : (acc : Int) ≤ 4294967296 := by omega
  go_wp2_with (at_next; go_loud (refine wpList_next_ranges (α := Nm) (β := Option Nat) _ rfl _ rfl 9 keyed_str ptrElem (fun l : Nm => .string (strL l)) ptrOf (fun key kl hk => by obtain ⟨x, hx, _⟩ := Maps.keyOf_str Tryz.underlying9 hk; exact ⟨x, hx⟩) (fun v y hv => by rcases ptrElem_inv hv with ⟨rfl, _⟩ | ⟨b, rfl, _⟩; exact ⟨none, rfl⟩; exact ⟨some b, rfl⟩) d.mn w.heap.size d.now.length (dirD d.now) left cnt rfl hrg ?_ ?_))
  ·intro hc0 hl0
   have hfin : acc = T := by have := hacc.out; rw [sumL_none hl0] at this; omega
   have Hfin := Lib.hid hfin
   clear hfin hc0 hl0
   go_wp2
   go_ret
   rw [HT.out, ← Hfin.out]
   exact ⟨rfl, hbw⟩
  ·intro x c kl yd yp w1 cnt1 hkey hlk hv hat hrg1 hlt hg1 hs1 hen
   have hkl : kl = .string x := by
    obtain ⟨x', ex, rfl, _⟩ := Maps.keyOf_str Tryz.underlying9 hkey
    have : strL x = strL x' := by injection ex
    rw [strL_inj this]
   subst hkl
   have h0 := hat .nil
   have h1 := hat (.lit (.bool true))
   rw [dirD_at] at h0 h1
   cases hlook : d.now.look x with
   | none => rw [hlook] at h0 h1; rw [← h0] at h1; cases h1
   | some fx =>
    rw [hlook] at h0
    have hcx : c = some fx := by
     cases c with
     | none => have : ptrElem (.pointer none) = some (yd, yp) := hv; cases this; cases h0
     | some c' =>
      have : ptrElem (.pointer (some ⟨c', 0, none⟩)) = some (yd, yp) := hv
      cases this
      injection h0 with h0; injection h0 with _ h0
      have : fx = c' := by omega
      rw [this]
    subst hcx
    have hen : (Instr.entry (.pointer (some ⟨w.heap.size, 0, none⟩))).run Tryz.prog w1 = .ok (.tuple #[.string (strL x), .pointer (some ⟨fx, 0, none⟩)]) w1 := hen
    have hbw1 : Below w.heap.size w w1 := hbw.grown hg1 hbw.size (fun j hj => by cases hj; exact Nat.le_refl _)
    obtain ⟨cf, hcf, _⟩ := H.out.rest.fileOf hlook
    have hfx := (H.out.below hbw1).rest.files fx cf hcf
    obtain ⟨⟨x0, x1⟩, _⟩ := cells2 hfx.hd
    obtain ⟨aR, cR, hrow⟩ := own_form0 hfx.own
    rw [hrow] at x0
    have hlen : lenOf d fx = cf.bytes.length := by unfold lenOf; rw [hcf]
    have hstep := sumL_step (d := d) (f := fx) hlk Hap.out (look_mem hlook)
    rw [hlen] at hstep
    have hnew : Hid ((acc + cf.bytes.length) + sumL d d.now (fun z => left z && !z.sameKey (.string x)) = T) := Lib.hid (by have := hacc.out; omega)
    have hsm : (cf.bytes.length : Int) ≤ 16777216 := by have := hfx.small; omega
    clear hs1 h0 h1 hat hlook hcf hfx hrow hlen hstep hlk hkey hv x1
    generalize strL x = sx at hen
    have hpo : ptrOf (some fx) = Value.pointer (some ⟨fx, 0, none⟩) := rfl
    rw [hpo]
    go_wp2
    go_roundw
    case rel => exact ⟨_, cnt1, acc + cf.bytes.length, hrg1, by push_cast; rfl, hnew, hbw1⟩
    case measure => rw [hrg1.left_eq, hrg.left_eq]; exact hlt
end Go.Proofs.YtffnbkmigapmjaaGreatDoor
set_option maxRecDepth 100000
namespace Go.Proofs.YtffnbkmigapmjaaGreatDoor
open Go.RowKit Go.Maps
theorem wpList_append_any_at {α : Type} {s : Nat} {f : α → List Value} (hf : ∀ x, (f x).length = s) (hs0 : 0 < s) {P : Program} {w : World} {ops : Array Oper} {rest : List Oper} {o : Oper} {a : Act} {Q : Exit → Act → World → Prop} (hgd : o.guard = none) (s1 x : Operand) (t : TypeId)
 (ho : o.op = .call { callee := .builtin .append, args := #[s1, x], argTypes := #[t, t] })
 (base : Nat) (e : TypeId) (i : TypeInfo) (z : Value) (bytes : Nat) (ht : P.underlying t = some (.slice e)) (hi : P.info? e = some i) (hz : i.zero = some z)
 (hsize : i.size = s) (hby : i.bytes = bytes) (hzs : z.cells.size = s)
 (v : Value) (n : Nat) (xs : List Value) (hs : a.eval s1 = v) (hown : w.ownsRow base e s v n xs)
 (u : Value) (ys : List α) (hx : a.eval x = u) (hr : RdL s f w u ys) (hn : NilOk u) (h1 : ∀ c ∈ ys.flatMap f, c.oneCell' = true)
 (h63 : n + ys.length ≤ maxLen) (hbytes : (n + ys.length) * bytes ≤ 140737488355328) (hbase : base ≤ w.heap.size)
 (h : ∀ v' w', w'.ownsRow base e s v' (n + ys.length) (xs ++ ys.flatMap f) → w.grownBy w' v.ownBlock → (v'.ownBlock = v.ownBlock ∨ v'.ownBlock = some w.heap.size) → wpList P ops Q rest (a.put o.dst v') w') : wpList P ops Q (o :: rest) a w := by
 obtain ⟨ad, cap, rfl, _, _⟩ := hr.form
 cases ad with
 | none =>
  obtain ⟨hl, hc⟩ := hn _ _ rfl
  have hy : ys = [] := List.length_eq_zero_iff.1 hl
  subst hy
  subst hc
  refine wpList_append_own_none hgd s1 x t ho base e i s ht hi v n xs hs hown hx (h v w (by simpa using hown) (World.grownBy.refl _ _) (.inl rfl))
 | some ad =>
  refine wpList_append_own_at w hgd s1 x t ho base e i z s bytes ht hi hz hsize hby hzs hs0 v n xs hs hown ad ys.length cap (ys.flatMap f) hx (flat_len hf ys) ?_ h1 h63 hbytes hbase (fun v' w' h2 h3 _ h4 => h v' w' h2 h3 h4)
  by_cases hy : ys = []
  ·subst hy; intro j u hu; cases hu
  ·obtain ⟨b, off, e⟩ := addr_some hr hy
   cases e
   exact hr.news hf hs0
def appendD (d : FsD) (n : Nm) (bs : List UInt8) (row : Value) : Int × FsD :=
 if (foundD d n []).2 = 0 then (if d.room - (usedD d : Int) < (bs.length : Int) then (3, d) else if (powerD d).1 = 0 then (0, (powerD d).2.upd n (fun c => ⟨c.bytes ++ bs, c.sure, row⟩)) else powerD d) else ((foundD d n []).2, d)
theorem len_le_used {d : FsD} {p : Nm × Nat} : ∀ {l : Dir}, p ∈ l → lenOf d p.2 ≤ (l.map (fun p => lenOf d p.2)).sum
 | q :: r, h => by
  rw [List.map_cons, List.sum_cons]
  rcases List.mem_cons.1 h with rfl | h
  ·omega
  ·have := len_le_used (d := d) h; omega
set_option maxHeartbeats 16000000 in
theorem append_calls (f : Nat) (d : FsD) (ρ : Rho) (n : Nm) (v : Value) (bs : List UInt8) (w : World) (h : FsAt w f d ρ) (hs : n.length ≤ maxLen) (hfu : -1 ≤ d.fuse ∧ d.fuse ≤ 9223372036854775807) (hl : d.now.length ≤ 256) (hroom : 0 ≤ d.room ∧ d.room ≤ 16777216) (hv : RdB w v bs) (hnv : NilOk v) (hfree : ∀ k, v.ownBlock = some k → ρ k = none) :
 Calls Tryz.prog 16 #[.pointer (some ⟨f, 0, none⟩), .string (strL n), v] w fun e w' => ∃ row ρ', e = .returned (.int .i64 (appendD d n bs row).1) ∧ FsAt w' f (appendD d n bs row).2 ρ' ∧ FsStep w ρ w' ρ' := by
 obtain ⟨i0, hi, hz0, hz1, hz2⟩ := info_parts infoU8
 obtain ⟨aB, cB, rfl, hlB, hcB⟩ := hv.form
 have hbi : (bs.length : Int) ≤ 9223372036854775807 := by omega
 obtain ⟨W2, hW2⟩ : ∃ W2, w.alloc (.cells #[.string (strL n)] 9) = W2 := ⟨_, rfl⟩
 have hb2 : Below w.heap.size w W2 := by rw [← hW2]; exact (Below.refl _ _).alloc (Nat.le_refl _) _
 have hnh3 : W2.heap[w.heap.size]? = some (.cells #[.string (strL n)] 9 (0, 0)) := by rw [← hW2]; exact heap_new_at _ rfl
 have h1 := found_calls f d ρ (.slice (some ⟨w.heap.size, 0, none⟩) 1 1) n [] W2 (h.below hb2) (rdS_one hnh3) (fun k hk => by rw [List.mem_singleton.1 hk]; exact hs)
 obtain ⟨e, he⟩ : ∃ e, (foundD d n []).2 = e := ⟨_, rfl⟩
 have Hd : Hid (∀ row, appendD d n bs row = if e = 0 then (if d.room - (usedD d : Int) < (bs.length : Int) then (3, d) else if (powerD d).1 = 0 then (0, (powerD d).2.upd n (fun c => ⟨c.bytes ++ bs, c.sure, row⟩)) else powerD d) else (e, d)) := fun row => by unfold appendD; rw [he]
 have H := Lib.hid h
 have Hb2 := Lib.hid hb2
 have Hv := Lib.hid hv
 have Hnv := Lib.hid hnv
 have Hfree := Lib.hid hfree
 clear hv hnv hfree
 by_cases h0 : e = 0
 ·have hok := found_ok (he.trans h0)
  obtain ⟨x, hx⟩ := Option.isSome_iff_exists.1 hok.2.2.2
  rw [he, hok.2.2.1, hx] at h1
  have h1 : Calls Tryz.prog 53 #[.pointer (some ⟨f, 0, none⟩), .slice (some ⟨w.heap.size, 0, none⟩) 1 1] W2 fun e_1 w' => e_1 = .returned (.tuple #[.pointer (some ⟨x, 0, none⟩), .int .i64 e]) ∧ Below W2.heap.size W2 w' := h1
  obtain ⟨c, hc, hfc⟩ := h.rest.fileOf hx
  have hcu : c.bytes.length ≤ usedD d := by have := len_le_used (d := d) (look_mem hx); unfold lenOf at this; simp only [hc] at this; unfold usedD lenOf; exact this
  subst h0
  have Hp : Hid (∀ w', Below w.heap.size w w' → Calls Tryz.prog 54 #[.pointer (some ⟨f, 0, none⟩)] w' fun e w'' => e = .returned (.int .i64 (powerD d).1) ∧ FsAt w'' f (powerD d).2 ρ ∧ Keeps (fun k => k = f) w' w'') := fun w' hb => power_calls f d ρ w' (h.below hb) hfu
  have hnow : (powerD d).2.now = d.now := by unfold powerD; split <;> rfl
  have hfile : (powerD d).2.file = d.file := by unfold powerD; split <;> rfl
  have hupd : ∀ g, (powerD d).2.upd n g = (powerD d).2.setFile x (g c) := fun g => by unfold FsD.upd; rw [hnow, hx]; show (match (powerD d).2.file x with | some c => _ | none => _) = _; rw [hfile, hc]
  have hus := (used_calls f d ρ · · hl)
  have Hu : Hid (∀ w', Below w.heap.size w w' → Calls Tryz.prog 35 #[.pointer (some ⟨f, 0, none⟩)] w' fun e w'' => e = .returned (.int .i64 (usedD d)) ∧ Below w'.heap.size w' w'') := fun w' hb => used_calls f d ρ w' (h.below hb) hl
  have hub : usedD d ≤ 4294967296 := by
   have h3 := sumL_le (left := fun _ => true) (d := d) (B := 16777216) (fun x c hc => (h.rest.files x c hc).small) d.now
   rw [sumL_all (fun _ _ => rfl)] at h3
   have h2 : d.now.length * 16777216 ≤ 256 * 16777216 := Nat.mul_le_mul_right _ hl
   unfold usedD; omega
  obtain ⟨pe, hpe⟩ : ∃ pe, (powerD d).1 = pe := ⟨_, rfl⟩
  obtain ⟨d1, hd1⟩ : ∃ d1, (powerD d).2 = d1 := ⟨_, rfl⟩
  obtain ⟨U, hU⟩ : ∃ U, usedD d = U := ⟨_, rfl⟩
  obtain ⟨room, hroo⟩ : ∃ room, d.room = room := ⟨_, rfl⟩
  have hpd : powerD d = (pe, d1) := Prod.ext hpe hd1
  rw [hpe, hd1] at Hp
  rw [hd1] at hupd hfile
  rw [hU] at Hu hcu hub
  rw [hroo] at hroom
  rw [← hfile] at hc
  have Hd3 : Hid (∀ row, appendD d n bs row = if room - (U : Int) < (bs.length : Int) then (3, d) else if pe = 0 then (0, d1.setFile x ⟨c.bytes ++ bs, c.sure, row⟩) else (pe, d1)) := fun row => by have := Hd.out row; rw [this, if_pos rfl, hpe, hd1, hupd, hpd, hU, hroo]
  have H1 := Lib.hid h1
  have Hc := Lib.hid hc
  have Hroo := Lib.hid hroo
  have hui : (0 : Int) ≤ (U : Int) := by omega
  have hui2 : (U : Int) ≤ 4294967296 := by omega
  have hr0 : 0 ≤ room := hroom.1
  have hr1 : room ≤ 16777216 := hroom.2
  clear h1 he hok hx hc h Hd hnow hfile hupd hpe hd1 hpd hnh3 hb2 hs hU hroo hus hroom hfc
  subst hW2
  have Hs : Hid (∀ W, Below w.heap.size w W → (fun w' => w'.cell? ⟨f, 3, none⟩ = some (.int .i64 room) ∧ Hid (Below w.heap.size w w')) W) := fun W hb => by
   obtain ⟨⟨_, _, _, c3, _, _⟩, _⟩ := fsHd_cells (H.out.below hb).hd
   rw [Hroo.out] at c3
   exact ⟨c3, Lib.hid hb⟩
  by_cases hfit : room - (U : Int) < (bs.length : Int)
  ·have Hd4 : Hid (∀ row, appendD d n bs row = (3, d)) := fun row => by have := Hd3.out row; rw [this, if_pos hfit]
   go_enter Tryz.func16, Tryz.ntmps16
   go_wp2_with fail
   refine (H1.out).mono ?_; rintro e w1 ⟨rfl, hb1⟩
   have hbw1 := Hb2.out.trans (hb1.mono Hb2.out.size)
   have hbd : Below w.heap.size w w1.drew := hbw1.drew
   have HS := Lib.hid (Hs.out _ hbd)
   have hwr : IntKind.i64.wrap (room - (U : Int)) = room - (U : Int) := IntWalk.i64_in _ (by omega)
   clear hb1 hbw1
   go_upto_region 4 with fail
   refine wp_region_noPanic ?_
   refine wp_region_held_drew (S := (fun w' => w'.cell? ⟨f, 3, none⟩ = some (.int .i64 room) ∧ Hid (Below w.heap.size w w'))) (by kernel_rfl) (by first | with_reducible exact HS.out | exact Hs.out _ (by with_reducible assumption)) (fun hHeld => ?_)
   refine tkH 0 ?_
   try simp only [Act.put, List.setIfInBounds_toArray, List.set_cons_zero, List.set_cons_succ]
   refine tkH 1 ?_
   try simp only [Act.put, List.setIfInBounds_toArray, List.set_cons_zero, List.set_cons_succ]
   refine tkH 2 ?_
   try simp only [Act.put, List.setIfInBounds_toArray, List.set_cons_zero, List.set_cons_succ]
   refine tkH 3 ?_
   try simp only [Act.put, List.setIfInBounds_toArray, List.set_cons_zero, List.set_cons_succ]
   refine tkH 4 ?_
   try simp only [Act.put, List.setIfInBounds_toArray, List.set_cons_zero, List.set_cons_succ]
   refine tkH 5 ?_
   try simp only [Act.put, List.setIfInBounds_toArray, List.set_cons_zero, List.set_cons_succ]
   refine tkH 6 ?_
   try simp only [Act.put, List.setIfInBounds_toArray, List.set_cons_zero, List.set_cons_succ]
   refine rdH 7 fun K hK => ?_
   go_simp
   go_at_call 35; refine (Hu.out _ hbd).mono ?_; rintro e wu ⟨rfl, hbu⟩; have hbU := hbd.trans (hbu.mono hbd.size)
   refine hK.out _ _ (by (try dsimp only); first | with_reducible exact HS.out | exact Hs.out _ (by with_reducible assumption)) (fun hHeld => ?_)
   clear hK K
   try simp only [Act.put, List.setIfInBounds_toArray, List.set_cons_zero, List.set_cons_succ]
   refine tkH 8 ?_
   try simp only [Act.put, List.setIfInBounds_toArray, List.set_cons_zero, List.set_cons_succ]
   refine tkH 9 ?_
   try simp only [Act.put, List.setIfInBounds_toArray, List.set_cons_zero, List.set_cons_succ]
   refine tkH 10 ?_
   try simp only [Act.put, List.setIfInBounds_toArray, List.set_cons_zero, List.set_cons_succ]
   refine wpAnyH_done (by kernel_rfl) ?_ _
   refine NoPanic.normal ?_
   clear HS Hs
   go_wp2
   go_ret
   refine ⟨d.lv, ρ, ?_⟩
   rw [Hd4.out]
   exact ⟨rfl, H.out.below hbU, FsStep.below hbU⟩
  ·have hfit2 : ¬ (room - (U : Int) < (bs.length : Int)) := hfit
   have Hd4 : Hid (∀ row, appendD d n bs row = if pe = 0 then (0, d1.setFile x ⟨c.bytes ++ bs, c.sure, row⟩) else (pe, d1)) := fun row => by have := Hd3.out row; rw [this, if_neg hfit]
   by_cases hp0 : pe = 0
   ·subst hp0
    have Hd5 : Hid (∀ row, appendD d n bs row = (0, d1.setFile x ⟨c.bytes ++ bs, c.sure, row⟩)) := fun row => by have := Hd4.out row; rw [this, if_pos rfl]
    have hcb : c.bytes.length + bs.length ≤ 16777216 := by omega
    have hm1 : c.bytes.length + bs.length ≤ maxLen := by unfold maxLen; omega
    have hm2 : (c.bytes.length + bs.length) * 1 ≤ 140737488355328 := by omega
    have Hone := Lib.hid (bb1_one bs)
    go_enter Tryz.func16, Tryz.ntmps16
    go_wp2_with fail
    refine (H1.out).mono ?_; rintro e w1 ⟨rfl, hb1⟩
    have hbw1 := Hb2.out.trans (hb1.mono Hb2.out.size)
    have hbd : Below w.heap.size w w1.drew := hbw1.drew
    have HS := Lib.hid (Hs.out _ hbd)
    have hwr : IntKind.i64.wrap (room - (U : Int)) = room - (U : Int) := IntWalk.i64_in _ (by omega)
    clear hb1 hbw1
    go_upto_region 4 with fail
    refine wp_region_noPanic ?_
    refine wp_region_held_drew (S := (fun w' => w'.cell? ⟨f, 3, none⟩ = some (.int .i64 room) ∧ Hid (Below w.heap.size w w'))) (by kernel_rfl) (by first | with_reducible exact HS.out | exact Hs.out _ (by with_reducible assumption)) (fun hHeld => ?_)
    refine tkH 0 ?_
    try simp only [Act.put, List.setIfInBounds_toArray, List.set_cons_zero, List.set_cons_succ]
    refine tkH 1 ?_
    try simp only [Act.put, List.setIfInBounds_toArray, List.set_cons_zero, List.set_cons_succ]
    refine tkH 2 ?_
    try simp only [Act.put, List.setIfInBounds_toArray, List.set_cons_zero, List.set_cons_succ]
    refine tkH 3 ?_
    try simp only [Act.put, List.setIfInBounds_toArray, List.set_cons_zero, List.set_cons_succ]
    refine tkH 4 ?_
    try simp only [Act.put, List.setIfInBounds_toArray, List.set_cons_zero, List.set_cons_succ]
    refine tkH 5 ?_
    try simp only [Act.put, List.setIfInBounds_toArray, List.set_cons_zero, List.set_cons_succ]
    refine tkH 6 ?_
    try simp only [Act.put, List.setIfInBounds_toArray, List.set_cons_zero, List.set_cons_succ]
    refine rdH 7 fun K hK => ?_
    go_simp
    go_at_call 35; refine (Hu.out _ hbd).mono ?_; rintro e wu ⟨rfl, hbu⟩; have hbU := hbd.trans (hbu.mono hbd.size)
    refine hK.out _ _ (by (try dsimp only); first | with_reducible exact HS.out | exact Hs.out _ (by with_reducible assumption)) (fun hHeld => ?_)
    clear hK K
    try simp only [Act.put, List.setIfInBounds_toArray, List.set_cons_zero, List.set_cons_succ]
    refine tkH 8 ?_
    try simp only [Act.put, List.setIfInBounds_toArray, List.set_cons_zero, List.set_cons_succ]
    refine tkH 9 ?_
    try simp only [Act.put, List.setIfInBounds_toArray, List.set_cons_zero, List.set_cons_succ]
    refine tkH 10 ?_
    try simp only [Act.put, List.setIfInBounds_toArray, List.set_cons_zero, List.set_cons_succ]
    refine wpAnyH_done (by kernel_rfl) ?_ _
    refine NoPanic.normal ?_
    clear HS Hs
    have hp := Hp.out wu hbU
    have Hp1 := Lib.hid hp
    have HbU := Lib.hid hbU
    clear hp hbU hbd hbu hwr
    go_wp2_with fail
    refine (Hp1.out).mono ?_; rintro e w2 ⟨rfl, hF2, hk2⟩
    have hfx := hF2.rest.files x c Hc.out
    obtain ⟨⟨x0, x1⟩, y0, y1⟩ := cells2 hfx.hd
    obtain ⟨aR, cR, hrow⟩ := own_form0 hfx.own
    rw [hrow] at x0
    have hown2 : w2.ownsRow 0 5 1 (.slice aR c.bytes.length cR) c.bytes.length (c.bytes.map u8v) := by rw [← hrow]; exact hfx.own
    have hst2 := (FsStep.below (ρ := ρ) HbU.out).trans (FsStep.one H.out.role hk2)
    have hvb : RdB w2 (.slice aB bs.length cB) bs := by
     exact Hv.out.keeps hst2.keeps (fun k e g => by have := Hfree.out k e; unfold Rho.has at g; rw [this] at g; cases g)
    have hsrc := rdLB hvb
    have hxr : ∀ k, c.row.ownBlock = some k → k ≠ x := fun k e => Rho.ne (hfx.rown k e) hfx.role (by intro q; cases q)
    have HF2 := Lib.hid hF2
    have Hfx := Lib.hid hfx
    have Hst2 := Lib.hid hst2
    have Hrow := Lib.hid hrow
    have Hxr := Lib.hid hxr
    have Hown2 := Lib.hid hown2
    have Hsrc := Lib.hid hsrc
    clear hF2 hfx hst2 hrow hxr hown2 hsrc hvb x1 y1
    go_wp2_with (at_builtin; go_loud (refine wpList_append_any_at bb1_len (by decide) rfl (.tmp 41) (.tmp 42) 22 rfl 0 5 i0 (.int .u8 0) 1 Tryz.underlying22 hi hz0 hz1 hz2 rfl _ _ _ rfl Hown2.out _ bs rfl Hsrc.out Hnv.out Hone.out hm1 hm2 (Nat.zero_le _) ?_; rintro v' w4 hown4 hg4 hloc4; have hh4 := (Keeps.grown hg4).heap Hfx.out.hd (fun e => Hxr.out x (by rw [Hrow.out]; exact e) rfl); have q2 := (cells2 hh4).1.1; have q3 := (cells2 hh4).2.1; have Hh4 := Lib.hid hh4; have Hown4 := Lib.hid hown4; have Hg4 := Lib.hid hg4; have Hloc4 := Lib.hid hloc4; obtain ⟨aN, cN, hvN⟩ := own_form0 hown4; subst hvN; clear hh4 hown4 hg4 hloc4 x0))
    go_ret
    obtain ⟨w5, hw5⟩ : ∃ w5, w4.setCell ⟨x, 0, none⟩ (.slice aN (c.bytes.length + bs.length) cN) = w5 := ⟨_, rfl⟩
    rw [hw5]
    obtain ⟨VL, hVL⟩ : ∃ VL, Value.slice aN (c.bytes.length + bs.length) cN = VL := ⟨_, rfl⟩
    have hkr : Keeps (fun k => k = x ∨ c.row.ownBlock = some k) w2 w5 := by
     have k2 : Keeps (fun k => k = x ∨ c.row.ownBlock = some k) w2 w4 := (Keeps.grown Hg4.out).mono (fun i _ e => .inr (by rw [Hrow.out]; exact e))
     have k3 := k2.go (Keeps.setCell (F := fun k => k = x) w4 ⟨x, 0, none⟩ (.slice aN (c.bytes.length + bs.length) cN) rfl) (fun i e => .inl (.inl e))
     rw [hw5] at k3; exact k3
    have hloc : VL.ownBlock = c.row.ownBlock ∨ ∃ k0, VL.ownBlock = some k0 ∧ w2.heap.size ≤ k0 := by
     rw [← hVL, Hrow.out]
     rcases Hloc4.out with h1 | h1
     ·exact .inl h1
     ·exact .inr ⟨_, h1, Nat.le_refl _⟩
    have hup := Rho.add_up (w := w2) HF2.out.rest.lt Hfx.out.rown hloc
    have hown5 : w5.ownsRow 0 5 1 VL (c.bytes ++ bs).length ((c.bytes ++ bs).map u8v) := by
     rw [← hw5, ← hVL, List.length_append, List.map_append, ← bb1_flat bs]
     refine own_keeps Hown4.out (Keeps.setCell (F := fun k => k = x) w4 _ _ rfl) (fun k e q => ?_)
     rw [hVL] at e
     rcases hloc with h1 | ⟨k0, h1, h2⟩
     ·rw [h1] at e; exact Hxr.out k e q
     ·rw [h1] at e; cases e
      have := HF2.out.rest.lt x (by rw [Hfx.out.role]; rfl)
      omega
    have hfx5 : FileAt' w5 (ρ.add VL (.bytes x)) x ⟨c.bytes ++ bs, c.sure, VL⟩ := by
     refine ⟨hup _ _ Hfx.out.role, ?_, hown5, ?_, ?_, ?_⟩
     ·rw [← hw5, hVL]; exact heap_setCell_same _ _ 0 _ _ _ Hh4.out
     ·intro k e; show (ρ.add VL (.bytes x)) k = _; unfold Rho.add; rw [if_pos e]
     ·show (c.bytes ++ bs).length ≤ _; rw [List.length_append]; exact hcb
     ·show c.sure ≤ (c.bytes ++ bs).length; rw [List.length_append]; have := Hfx.out.sure; omega
    have hlt5 : ∀ k, ((ρ.add VL (.bytes x)) k).isSome = true → k < w5.heap.size := by
     intro k e
     unfold Rho.add at e
     by_cases q : VL.ownBlock = some k
     ·exact (hown5.lt k q).2
     ·rw [if_neg q] at e; exact Nat.lt_of_lt_of_le (HF2.out.rest.lt k e) hkr.size
    have hr := HF2.out.rest.fileSet Hc.out hkr hfx5 hup hlt5
    have hxf : f ≠ x := Rho.ne HF2.out.role Hfx.out.role (by decide)
    have hh5 : FsHd w5 f d1 := hkr.heap HF2.out.hd (fun e => by
     rcases e with e | e
     ·exact hxf e
     ·have := Hfx.out.rown f e; rw [HF2.out.role] at this; cases this)
    refine ⟨VL, ρ.add VL (.bytes x), ?_, ?_, ?_⟩
    ·rw [Hd5.out]; rfl
    ·rw [Hd5.out]; exact ⟨hup _ _ HF2.out.role, hh5, hr⟩
    ·refine ⟨Hst2.out.keeps.go hkr ?_, fun k hk => ?_⟩
     ·rintro i (e | e)
      ·rw [e]; exact .inl (Rho.has_of Hfx.out.role)
      ·exact .inl (Rho.has_of (Hfx.out.rown i e))
     ·rcases Rho.add_has (w := w2) Hfx.out.rown hloc k hk with e | e
      ·exact .inl e
      ·exact .inr (Nat.le_trans Hst2.out.keeps.size e)
   ·have hpb : (pe == 0) = false := by simpa using hp0
    have Hd5 : Hid (∀ row, appendD d n bs row = (pe, d1)) := fun row => by have := Hd4.out row; rw [this, if_neg hp0]
    go_enter Tryz.func16, Tryz.ntmps16
    go_wp2_with fail
    refine (H1.out).mono ?_; rintro e w1 ⟨rfl, hb1⟩
    have hbw1 := Hb2.out.trans (hb1.mono Hb2.out.size)
    have hbd : Below w.heap.size w w1.drew := hbw1.drew
    have HS := Lib.hid (Hs.out _ hbd)
    have hwr : IntKind.i64.wrap (room - (U : Int)) = room - (U : Int) := IntWalk.i64_in _ (by omega)
    clear hb1 hbw1
    go_upto_region 4 with fail
    refine wp_region_noPanic ?_
    refine wp_region_held_drew (S := (fun w' => w'.cell? ⟨f, 3, none⟩ = some (.int .i64 room) ∧ Hid (Below w.heap.size w w'))) (by kernel_rfl) (by first | with_reducible exact HS.out | exact Hs.out _ (by with_reducible assumption)) (fun hHeld => ?_)
    refine tkH 0 ?_
    try simp only [Act.put, List.setIfInBounds_toArray, List.set_cons_zero, List.set_cons_succ]
    refine tkH 1 ?_
    try simp only [Act.put, List.setIfInBounds_toArray, List.set_cons_zero, List.set_cons_succ]
    refine tkH 2 ?_
    try simp only [Act.put, List.setIfInBounds_toArray, List.set_cons_zero, List.set_cons_succ]
    refine tkH 3 ?_
    try simp only [Act.put, List.setIfInBounds_toArray, List.set_cons_zero, List.set_cons_succ]
    refine tkH 4 ?_
    try simp only [Act.put, List.setIfInBounds_toArray, List.set_cons_zero, List.set_cons_succ]
    refine tkH 5 ?_
    try simp only [Act.put, List.setIfInBounds_toArray, List.set_cons_zero, List.set_cons_succ]
    refine tkH 6 ?_
    try simp only [Act.put, List.setIfInBounds_toArray, List.set_cons_zero, List.set_cons_succ]
    refine rdH 7 fun K hK => ?_
    go_simp
    go_at_call 35; refine (Hu.out _ hbd).mono ?_; rintro e wu ⟨rfl, hbu⟩; have hbU := hbd.trans (hbu.mono hbd.size)
    refine hK.out _ _ (by (try dsimp only); first | with_reducible exact HS.out | exact Hs.out _ (by with_reducible assumption)) (fun hHeld => ?_)
    clear hK K
    try simp only [Act.put, List.setIfInBounds_toArray, List.set_cons_zero, List.set_cons_succ]
    refine tkH 8 ?_
    try simp only [Act.put, List.setIfInBounds_toArray, List.set_cons_zero, List.set_cons_succ]
    refine tkH 9 ?_
    try simp only [Act.put, List.setIfInBounds_toArray, List.set_cons_zero, List.set_cons_succ]
    refine tkH 10 ?_
    try simp only [Act.put, List.setIfInBounds_toArray, List.set_cons_zero, List.set_cons_succ]
    refine wpAnyH_done (by kernel_rfl) ?_ _
    refine NoPanic.normal ?_
    clear HS Hs
    have hp := Hp.out wu hbU
    have Hp1 := Lib.hid hp
    have HbU := Lib.hid hbU
    clear hp hbU hbd hbu hwr
    go_wp2_with fail
    refine (Hp1.out).mono ?_; rintro e w2 ⟨rfl, hF2, hk2⟩
    go_wp2
    go_ret
    refine ⟨d.lv, ρ, ?_, ?_, (FsStep.below HbU.out).trans (FsStep.one H.out.role hk2)⟩
    ·rw [Hd5.out]; rfl
    ·rw [Hd5.out]; exact hF2
 ·have h0' : (e == 0) = false := by simpa using h0
  obtain ⟨pv, hpv⟩ : ∃ pv, ptrOf (foundD d n []).1 = pv := ⟨_, rfl⟩
  rw [he, hpv] at h1
  have Hd2 : Hid (∀ row, appendD d n bs row = (e, d)) := fun row => by have := Hd.out row; rw [this, if_neg h0]
  have H1 := Lib.hid h1
  clear h1 he hpv hnh3 hb2
  subst hW2
  go_enter Tryz.func16, Tryz.ntmps16
  go_wp2_with fail
  refine (H1.out).mono ?_; rintro e w1 ⟨rfl, hb1⟩
  have hbw1 := Hb2.out.trans (hb1.mono Hb2.out.size)
  go_wp2
  go_ret
  refine ⟨d.lv, ρ, ?_⟩
  rw [Hd2.out]
  exact ⟨rfl, H.out.below hbw1, FsStep.below hbw1⟩
end Go.Proofs.YtffnbkmigapmjaaGreatDoor
set_option maxRecDepth 100000
namespace Go.Proofs.YtffnbkmigapmjaaGreatDoor
open Go.RowKit Go.Maps
def bytesOf (d : FsD) (n : Nm) : List UInt8 := match d.now.look n with | some x => (match d.file x with | some c => c.bytes | none => []) | none => []
def fsReadD (d : FsD) (n : Nm) : Int × List UInt8 := if (foundD d n []).2 = 0 then (0, bytesOf d n) else ((foundD d n []).2, [])
def FsReadDone (w : World) (r : Int × List UInt8) (e : Ending) (w' : World) : Prop := ∃ v, e = .returned (.tuple #[v, .int .i64 r.1]) ∧ w'.ownsRow w.heap.size 5 1 v r.2.length (r.2.map u8v) ∧ Below w.heap.size w w'
set_option maxHeartbeats 8000000 in
theorem fsRead_calls (f : Nat) (d : FsD) (ρ : Rho) (n : Nm) (w : World) (h : FsAt w f d ρ) (hs : n.length ≤ maxLen) :
 Calls Tryz.prog 57 #[.pointer (some ⟨f, 0, none⟩), .string (strL n)] w (FsReadDone w (fsReadD d n)) := by
 obtain ⟨W2, hW2⟩ : ∃ W2, w.alloc (.cells #[.string (strL n)] 9) = W2 := ⟨_, rfl⟩
 have hb2 : Below w.heap.size w W2 := by rw [← hW2]; exact (Below.refl _ _).alloc (Nat.le_refl _) _
 have hnh3 : W2.heap[w.heap.size]? = some (.cells #[.string (strL n)] 9 (0, 0)) := by rw [← hW2]; exact heap_new_at _ rfl
 have h1 := found_calls f d ρ (.slice (some ⟨w.heap.size, 0, none⟩) 1 1) n [] W2 (h.below hb2) (rdS_one hnh3) (fun k hk => by rw [List.mem_singleton.1 hk]; exact hs)
 obtain ⟨e, he⟩ : ∃ e, (foundD d n []).2 = e := ⟨_, rfl⟩
 have H := Lib.hid h
 have Hb2 := Lib.hid hb2
 by_cases h0 : e = 0
 ·have hok := found_ok (he.trans h0)
  obtain ⟨x, hx⟩ := Option.isSome_iff_exists.1 hok.2.2.2
  rw [he, hok.2.2.1, hx] at h1
  have h1 : Calls Tryz.prog 53 #[.pointer (some ⟨f, 0, none⟩), .slice (some ⟨w.heap.size, 0, none⟩) 1 1] W2 fun e_1 w' => e_1 = .returned (.tuple #[.pointer (some ⟨x, 0, none⟩), .int .i64 e]) ∧ Below W2.heap.size W2 w' := h1
  obtain ⟨c, hc, _⟩ := h.rest.fileOf hx
  have hrd : fsReadD d n = (0, c.bytes) := by unfold fsReadD bytesOf; rw [he, if_pos h0, hx]; show ((0 : Int), (match d.file x with | some c => c.bytes | none => [])) = _; rw [hc]
  subst h0
  have H1 := Lib.hid h1
  have Hc := Lib.hid hc
  have Hrd := Lib.hid hrd
  clear h1 he hok hx hc h hrd hnh3 hb2 hs
  subst hW2
  go_enter Tryz.func57, Tryz.ntmps57
  go_wp2_with fail
  refine (H1.out).mono ?_; rintro e w1 ⟨rfl, hb1⟩
  have hbw1 := Hb2.out.trans (hb1.mono Hb2.out.size)
  have hfx := (H.out.below hbw1).rest.files x c Hc.out
  obtain ⟨⟨x0, x1⟩, _⟩ := cells2 hfx.hd
  have hcl := clone_calls c.row c.bytes w1 (rdB_ofOwn hfx.own) (by have := hfx.small; omega)
  obtain ⟨aR, cR, hrow⟩ := own_form0 hfx.own
  rw [hrow] at x0 hcl
  have Hcl := Lib.hid hcl
  have Hbw1 := Lib.hid hbw1
  clear hcl hfx hrow hbw1 hb1 x1
  go_wp2_with fail
  refine (Hcl.out).mono ?_; rintro e w2 ⟨v2, rfl, hown2, hb2⟩
  have hfin := Lib.hid (show FsReadDone w (fsReadD d n) (.returned (.tuple #[v2, .int .i64 0])) w2 from by
   rw [Hrd.out]; exact ⟨v2, rfl, own_mono hown2 Hbw1.out.size, Hbw1.out.trans (hb2.mono Hbw1.out.size)⟩)
  clear hown2 hb2
  go_wp2
  go_ret2
  exact hfin.out
 ·have h0' : (e == 0) = false := by simpa using h0
  obtain ⟨pv, hpv⟩ : ∃ pv, ptrOf (foundD d n []).1 = pv := ⟨_, rfl⟩
  rw [he, hpv] at h1
  have Hrd : Hid (fsReadD d n = (e, [])) := Lib.hid (by unfold fsReadD; rw [he, if_neg h0])
  have H1 := Lib.hid h1
  clear h1 he hpv hnh3 hb2
  subst hW2
  go_enter Tryz.func57, Tryz.ntmps57
  go_wp2_with fail
  refine (H1.out).mono ?_; rintro e w1 ⟨rfl, hb1⟩
  have hbw1 := Hb2.out.trans (hb1.mono Hb2.out.size)
  go_wp2
  go_ret2
  rw [Hrd.out]
  exact ⟨.slice none 0 0, rfl, World.ownsRow_nil _ _ _ _, hbw1⟩
set_option maxHeartbeats 4000000 in
theorem down_calls (f : Nat) (d : FsD) (ρ : Rho) (w : World) (h : FsAt w f d ρ) :
 Calls Tryz.prog 96 #[.pointer (some ⟨f, 0, none⟩)] w fun e w' => e = .returned (.bool d.down) ∧ w' = w := by
 obtain ⟨⟨c0, c1, c2, c3, c4, c5⟩, _⟩ := fsHd_cells h.hd
 clear c0 c1 c2 c3 c4 h
 generalize d.down = dn at c5
 go_enter Tryz.func96, Tryz.ntmps96
 go_wp2
 go_ret
 exact ⟨rfl, rfl⟩
def roomD (n : Int) : Int := min (max n 0) 16777216
set_option maxHeartbeats 4000000 in
theorem room_calls (f : Nat) (d : FsD) (ρ : Rho) (n : Int) (w : World) (h : FsAt w f d ρ) :
 Calls Tryz.prog 40 #[.pointer (some ⟨f, 0, none⟩), .int .i64 n] w fun e w' => e = .returned (.tuple #[]) ∧ FsAt w' f { d with room := roomD n } ρ ∧ Keeps (fun k => k = f) w w' := by
 obtain ⟨⟨c0, c1, c2, c3, c4, c5⟩, hfz⟩ := fsHd_cells h.hd
 have f3 := hfz 3
 have H := Lib.hid h
 clear c0 c1 c2 c4 c5 hfz h
 have hcase : (n < 0 ∧ roomD n = 0) ∨ (0 ≤ n ∧ n ≤ 16777216 ∧ roomD n = n) ∨ (16777216 < n ∧ roomD n = 16777216) := by unfold roomD; omega
 have hfin : ∀ r : Int, r = roomD n → FsAt (w.setCell ⟨f, 3, none⟩ (.int .i64 r)) f { d with room := roomD n } ρ ∧ Keeps (fun k => k = f) w (w.setCell ⟨f, 3, none⟩ (.int .i64 r)) := by
  intro r hr
  subst hr
  have hk : Keeps (fun k => k = f) w (w.setCell ⟨f, 3, none⟩ (.int .i64 (roomD n))) := Keeps.setCell _ _ _ rfl
  exact ⟨H.out.head hk (heap_setCell_same _ _ 3 _ _ _ H.out.hd) (fun r => ⟨r.rnow, r.rsure, r.dnow, r.dsure, r.rlv, r.own, r.chg, r.files, r.fnow, r.fsure, r.lt⟩), hk⟩
 have Hfin := Lib.hid hfin
 clear hfin
 rcases hcase with ⟨h1, h2⟩ | ⟨h1, h3, h2⟩ | ⟨h1, h2⟩
 all_goals
  have H2 := Lib.hid h2
  clear h2
  go_enter Tryz.func40, Tryz.ntmps40
  go_wp2
  go_end0
  exact ⟨rfl, Hfin.out _ (by rw [H2.out] <;> first | rfl | omega)⟩
end Go.Proofs.YtffnbkmigapmjaaGreatDoor

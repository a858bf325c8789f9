/- Printed out of the texts of wip/tpl. -/
import Derived.Test.YtffnbkmigapmjaaGreatDoorT6
import Derived.Test.YtffnbkmigapmjaaGreatDoorT8
import Derived.Laws.AppendOwn
import Derived.Laws.AppendOwnNone
import Derived.Deep.QuietTactic
import Derived.BigQuiet
set_option linter.unusedSimpArgs false
set_option linter.unusedVariables false
namespace Go.Proofs.YtffnbkmigapmjaaGreatDoor
open Go.RowKit
def endB (l : List UInt8) : Bool := decide (l.length = 0) || l.getLast? == some 10
theorem end_rest (t r : List UInt8) : endB (t ++ 10 :: r) = endB r := by
 unfold endB
 rw [decide_eq_false (by simp), Bool.false_or, List.getLast?_append, List.getLast?_cons]
 cases h : r.getLast? with
 | none =>
  have : r = [] := List.getLast?_eq_none_iff.1 h
  subst this; rfl
 | some x =>
  have : r ≠ [] := by intro e; subst e; cases h
  rw [decide_eq_false (by rw [List.length_eq_zero_iff]; exact this), Bool.false_or]; rfl
theorem end_none {l : List UInt8} (h : cutAt 10 l = none) (hne : l ≠ []) : endB l = false := by
 unfold endB
 rw [decide_eq_false (by rw [List.length_eq_zero_iff]; exact hne), Bool.false_or, beq_eq_false_iff_ne]
 intro hl
 have hm : (10 : UInt8) ∈ l := List.mem_of_getLast? hl
 have : ∀ l : List UInt8, cutAt 10 l = none → (10 : UInt8) ∉ l := by
  intro l
  induction l with
  | nil => simp
  | cons x xs ih =>
   intro h
   by_cases hx : x = 10
   ·rw [cutAt, if_pos hx] at h; cases h
   ·rw [cutAt, if_neg hx] at h
    have h2 : cutAt 10 xs = none := by cases hc : cutAt 10 xs with | none => rfl | some p => rw [hc] at h; cases h
    intro hm
    rcases List.mem_cons.1 hm with e | hm
    ·exact hx e.symm
    ·exact ih h2 hm
 exact this l h hm
def strSz : Value → Nat
 | .string s => s.size
 | _ => 0
set_option maxRecDepth 100000 in
set_option maxHeartbeats 8000000 in
theorem dotsLines_calls (v : Value) (bs : List UInt8) (w : World) (hv : RdB w v bs) (hs : bs.length < 4294967281) (hmax : MaxOk w) :
 Calls Tryz.prog 161 #[v] w fun e w' => (∃ x, e = .returned (.tuple #[x, .bool (bodyB bs)])) ∧ Below w.heap.size w w' := by
 obtain ⟨i0, hi, hz0, hz1, hz2⟩ := info_parts infoStr
 obtain ⟨a, cap, rfl, hlc, hcap⟩ := hv.form
 have hstr := run_strL hv
 have hcon := fun W => Tryz.strings_Contains_one (strL bs) 13 W
 rw [strL_data, indexByte_contains] at hcon
 have hbody : bodyB bs = (!bs.contains 13 && endB bs) := rfl
 have hend : ∀ e, endB bs = e → endB bs = e := fun _ h => h
 rw [hbody]
 obtain ⟨n, hn⟩ : ∃ n, bs.length = n := ⟨_, rfl⟩
 rw [hn] at hlc hstr hs ⊢
 have Hn := Lib.hid hn
 have hsz := strL_size bs
 rw [hn] at hsz
 have Hmax := Lib.hid hmax
 clear hv hn hbody hend hmax
 generalize hc13 : bs.contains 13 = c13 at hcon
 have Hcon := Lib.hid hcon
 clear hc13 hcon
 generalize hgs : strL bs = s0 at hstr Hcon hsz
 cases c13
 ·obtain ⟨eb, heb⟩ : ∃ e, endB bs = e := ⟨_, rfl⟩
  have Heb := Lib.hid heb
  rw [heb]
  clear heb
  go_enter Tryz.func161, Tryz.ntmps161
  go_wp2_with fail
  refine (Hcon.out _).mono ?_; rintro e w1 ⟨rfl, rfl⟩
  go_wp2
  go_loopw [4, 5] (fun s o wr => ∃ (cur : List UInt8) (out : List (List UInt8)), s = .string (strL cur) ∧ endB cur = eb ∧ out.length + cur.length ≤ n ∧ wr.ownsRow w1.heap.size 9 1 o out.length (out.flatMap s1) ∧ Below w1.heap.size w1 wr) (fun s _ _ => strSz s)
  case atStart => exact ⟨bs, [], by rw [hgs], Heb.out, by rw [Hn.out]; simp, nil_row0 _ _ _ _, Below.refl _ _⟩
  case round =>
   obtain ⟨cur, out, rfl, hce, hol, hown, hbw⟩ := hrel
   have hcsz := strL_size cur
   by_cases h0 : cur = []
   ·subst h0
    have : eb = true := by rw [← hce]; rfl
    subst this
    rw [show strL [] = (⟨#[]⟩ : ByteArray) from rfl]
    clear hce
    go_wp2
    go_ret2
    exact ⟨⟨_, rfl⟩, hbw⟩
   ·have hne : (strL cur).size ≠ 0 := by rw [hcsz]; exact fun h => h0 (List.length_eq_zero_iff.1 h)
    have hb := empty_ne hne
    have hb2 : (strL cur).toList.isEmpty = false := by simpa using hb
    obtain ⟨m, hm⟩ := Hmax.out.below hbw
    have hcut := Tryz.strings_Cut (strL cur) ⟨#[10]⟩ m wr (by rw [hcsz]; omega) hm
    rw [show (⟨#[10]⟩ : ByteArray).data.toList = [10] from rfl, cut_one, strL_data] at hcut
    rcases index_one 10 cur with ⟨h1, _⟩ | ⟨t, r, h1, h2, _⟩
    ·rw [h1] at hcut
     simp only at hcut
     have : eb = false := by rw [← hce]; exact end_none h1 h0
     subst this
     have Hcut := Lib.hid hcut
     clear hcut h1 h0 hce hm
     generalize strL cur = sc at hb hb2 Hcut hcsz hne
     go_wp2_with fail
     refine (Hcut.out).mono ?_; rintro e w2 ⟨rfl, k, rfl⟩
     go_wp2
     go_ret2
     exact ⟨⟨_, rfl⟩, below_drewN hbw _⟩
    ·rw [h1] at hcut
     simp only at hcut
     have hce2 : endB r = eb := by rw [← hce, h2, end_rest]
     have hln : out.length + 1 + r.length ≤ n ∧ r.length < cur.length := by
      have := congrArg List.length h2
      simp at this
      omega
     have hrow2 : ∀ k, (wr.drewN k).ownsRow w1.heap.size 9 1 u5 out.length (out.flatMap s1) := fun k => own_below hown (below_drewN (Below.refl _ _) k) (Nat.le_refl _)
     rw [show (⟨t.toArray⟩ : ByteArray) = strL t from rfl, show (⟨r.toArray⟩ : ByteArray) = strL r from rfl] at hcut
     have Hcut := Lib.hid hcut
     have Hce2 := Lib.hid hce2
     have Hln := Lib.hid hln
     have Hrow2 := Lib.hid hrow2
     have Hbw := Lib.hid hbw
     clear hcut h1 h0 hce hm h2 hce2 hln hrow2
     generalize strL cur = sc at hb hb2 Hcut hcsz hne
     go_wp2_with fail
     refine (Hcut.out).mono ?_; rintro e w2 ⟨rfl, k, rfl⟩
     have hrow := Hrow2.out k
     have hbk := below_drewN Hbw.out k
     generalize wr.drewN k = wk at hrow hbk
     have hncell := news_new wk (s1 t) 9 (0, 0)
     have Hncell := Lib.hid hncell
     have hcs1 : ∀ u ∈ s1 t, u.oneCell' = true := by intro u hu; exact s1_one [t] u (by simpa using hu)
     have Hcs1 := Lib.hid hcs1
     have hbd1 : out.length + 1 ≤ maxLen := by show out.length + 1 ≤ 9223372036854775807; omega
     have hbd2 : (out.length + 1) * 16 ≤ 140737488355328 := by omega
     have hbd3 : w1.heap.size ≤ (wk.alloc (.cells #[.string (strL t)] 9)).heap.size := by have := hbk.size; simp; omega
     clear hncell hcs1 hown hbw
     go_wp2_with (at_builtin; go_must (refine wpList_append_own _ rfl _ _ 27 rfl w1.heap.size 9 i0 _ 1 16 Tryz.underlying27 hi hz0 hz1 hz2 rfl (by decide) _ _ _ rfl (hrow.alloc _) ⟨wk.heap.size, 0, none⟩ 1 1 (s1 t) rfl rfl Hncell.out Hcs1.out hbd1 hbd2 hbd3 ?_); rintro v' w3 hown3 hg3 _)
     go_roundw
     case rel =>
      refine ⟨r, out ++ [t], rfl, Hce2.out, by rw [List.length_append]; exact Hln.out.1, ?_, Below.grown (hbk.alloc hbk.size _) hg3 (by have := hbk.size; simp; omega) (fun k hk => own_base hrow k hk)⟩
      rw [List.length_append, List.flatMap_append, List.flatMap_singleton]; exact hown3
     case measure =>
      simp only [strSz]
      rw [hcsz, strL_size]
      exact Hln.out.2
 ·go_enter Tryz.func161, Tryz.ntmps161
  go_wp2_with fail
  refine (Hcon.out _).mono ?_; rintro e w1 ⟨rfl, rfl⟩
  go_wp2
  go_ret2
  exact ⟨⟨_, rfl⟩, Below.refl _ _⟩
def NilOk (v : Value) : Prop := ∀ l c, v = .slice none l c → l = 0 ∧ c = 0
theorem RdL.news {α : Type} {s : Nat} {f : α → List Value} (hf : ∀ x, (f x).length = s) (hs : 0 < s) {w : World} {b off len cap : Nat} {xs : List α} (h : RdL s f w (.slice (some ⟨b, off, none⟩) len cap) xs) :
 ∀ (j : Nat) u, (xs.flatMap f)[j]? = some u → w.cell? ((⟨b, off, none⟩ : Addr).add j) = some u := by
 intro j u hu
 rcases h with ⟨_, _, _, _, rfl⟩ | ⟨b', off', cap', hv, h0, h1, h2, h3, h4⟩
 ·cases hu
 ·cases hv
  have hj : j < xs.length * s := by have := (List.getElem?_eq_some_iff.1 hu).1; rw [flat_len hf] at this; exact this
  have hdiv : j / s < xs.length := (Nat.div_lt_iff_lt_mul hs).2 hj
  have hmod : j % s < s := Nat.mod_lt _ hs
  have e : j = j / s * s + j % s := by rw [Nat.mul_comm]; exact (Nat.div_add_mod j s).symm
  have hx : xs[j / s]? = some xs[j / s] := List.getElem?_eq_getElem hdiv
  have hg := flat_get hf hs xs _ _ hx _ hmod
  rw [← e, hu] at hg
  have := h4 _ _ hx _ _ hg.symm
  rw [← e] at this
  rw [add_at]
  exact this
theorem addr_some {α : Type} {s : Nat} {f : α → List Value} {w : World} {a : Option Addr} {len cap : Nat} {xs : List α} (h : RdL s f w (.slice a len cap) xs) (hne : xs ≠ []) : ∃ b off, a = some ⟨b, off, none⟩ := by
 rcases h with ⟨_, _, _, _, rfl⟩ | ⟨b', off', cap', hv, h0, h1, h2, h3, h4⟩
 ·exact absurd rfl hne
 ·cases hv; exact ⟨_, _, rfl⟩
theorem wpList_append_any {α : Type} {s : Nat} {f : α → List Value} (hf : ∀ x, (f x).length = s) (hs0 : 0 < s) {P : Program} {w : World} {ops : Array Oper} {rest : List Oper} {o : Oper} {a : Act} {Q : Exit → Act → World → Prop} (hgd : o.guard = none) (s1 x : Operand) (t : TypeId)
 (ho : o.op = .call { callee := .builtin .append, args := #[s1, x], argTypes := #[t, t] })
 (base : Nat) (e : TypeId) (i : TypeInfo) (z : Value) (bytes : Nat) (ht : P.underlying t = some (.slice e)) (hi : P.info? e = some i) (hz : i.zero = some z)
 (hsize : i.size = s) (hby : i.bytes = bytes) (hzs : z.cells.size = s)
 (v : Value) (n : Nat) (xs : List Value) (hs : a.eval s1 = v) (hown : w.ownsRow base e s v n xs)
 (u : Value) (ys : List α) (hx : a.eval x = u) (hr : RdL s f w u ys) (hn : NilOk u) (h1 : ∀ c ∈ ys.flatMap f, c.oneCell' = true)
 (h63 : n + ys.length ≤ maxLen) (hbytes : (n + ys.length) * bytes ≤ 140737488355328) (hbase : base ≤ w.heap.size)
 (h : ∀ v' w', w'.ownsRow base e s v' (n + ys.length) (xs ++ ys.flatMap f) → w.grownBy w' v.ownBlock → NilOk v' → wpList P ops Q rest (a.put o.dst v') w') : wpList P ops Q (o :: rest) a w := by
 have hnil : ∀ {v' : Value} {w' : World} {k : Nat} {cs : List Value}, w'.ownsRow base e s v' k cs → NilOk v' := by
  intro v' w' k cs h l c hv
  obtain ⟨_, ⟨h2, h3⟩ | ⟨g, cap, cur, hv', _⟩⟩ := h
  ·rw [hv] at h2; cases h2; exact ⟨rfl, rfl⟩
  ·rw [hv] at hv'; cases hv'
 obtain ⟨ad, cap, rfl, _, _⟩ := hr.form
 cases ad with
 | none =>
  obtain ⟨hl, hc⟩ := hn _ _ rfl
  have hy : ys = [] := List.length_eq_zero_iff.1 hl
  subst hy
  subst hc
  refine wpList_append_own_none hgd s1 x t ho base e i s ht hi v n xs hs hown hx (h v w (by simpa using hown) (World.grownBy.refl _ _) (hnil hown))
 | some ad =>
  refine wpList_append_own w hgd s1 x t ho base e i z s bytes ht hi hz hsize hby hzs hs0 v n xs hs hown ad ys.length cap (ys.flatMap f) hx (flat_len hf ys) ?_ h1 h63 hbytes hbase (fun v' w' h2 h3 _ => h v' w' h2 h3 (hnil h2))
  by_cases hy : ys = []
  ·subst hy; intro j u hu; cases hu
  ·obtain ⟨b, off, e⟩ := addr_some hr hy
   cases e
   exact hr.news hf hs0
set_option maxHeartbeats 1000000 in
theorem envGoodFn_calls (s : ByteArray) (w : World) (hs : s.size < 4294967281) (hmax : MaxOk w) :
 Calls Tryz.prog 163 #[.string s] w fun e w' => e = .returned (.bool (!boxB s.data.toList)) ∧ Below w.heap.size w w' := by
 have h1 := envBox_calls s w hs hmax
 generalize boxB s.data.toList = p at h1
 have H1 := Lib.hid h1
 clear h1
 go_enter Tryz.func163, Tryz.ntmps163
 go_wp2_with fail
 refine (H1.out).mono ?_; rintro e w1 ⟨rfl, hb1⟩
 go_wp2
 go_ret
 exact ⟨rfl, hb1⟩
set_option maxRecDepth 100000 in
set_option maxHeartbeats 4000000 in
theorem indexBad_calls (v : Value) (ls : List (List UInt8)) (w : World) (hv : RdS w v ls) (hs : ∀ l ∈ ls, l.length < 4294967281) (hmax : MaxOk w) :
 Calls Tryz.prog 134 #[v, .func (.func 163) #[] #[]] w fun e w' => (∃ i : Int, e = .returned (.int .i64 i) ∧ ((0 ≤ i ∧ ls.all boxB = false) ∨ (i = -1 ∧ ls.all boxB = true))) ∧ Below w.heap.size w w' := by
 obtain ⟨a, cap, rfl, hlc, hcap⟩ := hv.form
 have hfn := fun (l : List UInt8) W (h : l ∈ ls) hM => envGoodFn_calls (strL l) W (by rw [strL_size]; exact hs l h) hM
 simp only [strL_data] at hfn
 have Hfn := Lib.hid hfn
 have Hv := Lib.hid hv
 have Hmax := Lib.hid hmax
 have hni : (ls.length : Int) ≤ 9223372036854775807 := by omega
 clear hfn hv hs hmax
 go_enter Tryz.func134, Tryz.ntmps134
 go_wp2
 go_loopw [8] (fun i wr => ∃ j : Nat, j ≤ ls.length ∧ i = .int .i64 j ∧ (ls.take j).all boxB = true ∧ Below w.heap.size w wr) (fun i _ => ls.length - (intOf i).toNat)
 case atStart => exact ⟨0, Nat.zero_le _, rfl, rfl, Below.refl _ _⟩
 case round =>
  obtain ⟨j, hj, rfl, hall, hbw⟩ := hrel
  by_cases hlt : j < ls.length
  ·obtain ⟨l, hl⟩ : ∃ l, ls[j]? = some l := ⟨_, List.getElem?_eq_getElem hlt⟩
   obtain ⟨b, off, cap', hsl, hbl, hc⟩ := RdS.at (Hv.out.below (Nat.le_refl _) hbw) hl
   cases hsl
   have hM := Hmax.out.below hbw
   have hcall := fun W hM => Hfn.out l W (List.mem_of_getElem? hl) hM
   have htk : boxB l = true → (ls.take (j + 1)).all boxB = true := fun h => by rw [take_snoc hl, List.all_append, hall]; simpa using h
   have hno : boxB l = false → ls.all boxB = false := fun h => by rw [List.all_eq_false]; exact ⟨l, List.mem_of_getElem? hl, by rw [h]; simp⟩
   generalize boxB l = p at hcall htk hno
   have Hcall := Lib.hid hcall
   have Htk := Lib.hid htk
   have Hno := Lib.hid hno
   have HM := Lib.hid hM
   have hj0 : (0 : Int) ≤ (j : Int) := by omega
   have hj1 : (j : Int) < (ls.length : Int) := by omega
   clear hcall htk hno hall hl hM
   generalize strL l = sl at hc Hcall
   cases p
   ·go_wp2_with fail
    refine (Hcall.out _ HM.out).mono ?_; rintro e w2 ⟨rfl, hb2⟩
    go_wp2
    go_ret
    exact ⟨⟨_, rfl, .inl ⟨hj0, Hno.out (by trivial)⟩⟩, hbw.trans (hb2.mono hbw.size)⟩
   ·go_wp2_with fail
    refine (Hcall.out _ HM.out).mono ?_; rintro e w2 ⟨rfl, hb2⟩
    go_wp2
    go_roundw
    case rel => exact ⟨j + 1, by omega, by simp, Htk.out (by trivial), hbw.trans (hb2.mono hbw.size)⟩
    case measure => simp [intOf] <;> omega
  ·have hje : j = ls.length := by omega
   subst hje
   rw [List.take_of_length_le (Nat.le_refl _)] at hall
   have Hall := Lib.hid hall
   clear hall
   go_wp2
   go_ret
   exact ⟨⟨_, rfl, .inr ⟨rfl, Hall.out⟩⟩, hbw⟩
set_option maxRecDepth 100000 in
set_option maxHeartbeats 4000000 in
theorem containsBad_calls (v : Value) (ls : List (List UInt8)) (w : World) (hv : RdS w v ls) (hs : ∀ l ∈ ls, l.length < 4294967281) (hmax : MaxOk w) :
 Calls Tryz.prog 93 #[v, .func (.func 163) #[] #[]] w fun e w' => e = .returned (.bool (!ls.all boxB)) ∧ Below w.heap.size w w' := by
 have h1 := indexBad_calls v ls w hv hs hmax
 generalize ls.all boxB = p at h1
 have H1 := Lib.hid h1
 clear h1 hv hs hmax
 go_enter Tryz.func93, Tryz.ntmps93
 go_wp2_with fail
 refine (H1.out).mono ?_; rintro e w1 ⟨⟨i, rfl, hi⟩, hb1⟩
 rcases hi with ⟨h0, rfl⟩ | ⟨rfl, rfl⟩
 ·go_wp2
  go_ret
  exact ⟨by first | rfl | simp [h0], hb1⟩
 ·go_wp2
  go_ret
  exact ⟨rfl, hb1⟩
structure MailD where
 id : Int
 parent : Int
 born : Int
 frm : List UInt8
 rcpts : List (List UInt8)
 body : List UInt8
abbrev mailVal (m : MailD) (vr vb : Value) : Value := .agg #[.int .i64 m.id, .int .i64 m.parent, .int .i64 m.born, .string (strL m.frm), vr, vb]
def MailD.good (m : MailD) : Bool :=
 decide (1 ≤ m.id ∧ m.id ≤ 999999999) && (decide (0 ≤ m.parent ∧ m.parent ≤ m.id - 1) && (decide (0 ≤ m.born ∧ m.born ≤ 1099511627776) && (decide (1 ≤ (m.rcpts.length : Int) ∧ (m.rcpts.length : Int) ≤ 8) && (decide (m.body.length ≤ 8192) && (bodyB m.body && ((decide (m.frm.length = 0) || boxB m.frm) && m.rcpts.all boxB))))))
set_option maxRecDepth 100000 in
set_option maxHeartbeats 8000000 in
theorem envGood_calls (m : MailD) (vr vb : Value) (w : World) (hr : RdS w vr m.rcpts) (hb : RdB w vb m.body) (hsr : ∀ l ∈ m.rcpts, l.length < 4294967281) (hsf : m.frm.length < 4294967281) (hmax : MaxOk w) :
 Calls Tryz.prog 112 #[mailVal m vr vb] w fun e w' => e = .returned (.bool m.good) ∧ Below w.heap.size w w' := by
 obtain ⟨ar, capr, rfl, hlr, hcr⟩ := hr.form
 obtain ⟨ab, capb, rfl, hlb, hcb⟩ := hb.form
 obtain ⟨id, parent, born, frm, rcpts, body⟩ := m
 simp only at hr hb hsr hsf hlr hlb
 unfold MailD.good mailVal
 simp only
 obtain ⟨W, hW⟩ : ∃ W, w.alloc (.cells #[.int .i64 id, .int .i64 parent, .int .i64 born, .string (strL frm), .slice ar rcpts.length capr, .slice ab body.length capb] 29) = W := ⟨_, rfl⟩
 have hbW : Below w.heap.size w W := by rw [← hW]; exact (Below.refl _ _).alloc (Nat.le_refl _) _
 have hblk : W.heap[w.heap.size]? = some (.cells #[.int .i64 id, .int .i64 parent, .int .i64 born, .string (strL frm), .slice ar rcpts.length capr, .slice ab body.length capb] 29 (0, 0)) := by rw [← hW]; exact heap_alloc_new w _
 have hw1 := fun W => envWithin_calls id 1 999999999 W
 have hw2 := fun W => envWithin_calls parent 0 (id - 1) W
 have hw3 := fun W => envWithin_calls born 0 1099511627776 W
 have hw4 := fun W => envWithin_calls (rcpts.length : Int) 1 8 W
 have hdl := fun (h : body.length ≤ 8192) => dotsLines_calls (.slice ab body.length capb) body W (hb.below (Nat.le_refl _) hbW) (by omega) (hmax.below hbW)
 have hbx := fun W hM => envBox_calls (strL frm) W (by rw [strL_size]; exact hsf) hM
 have hcf := fun W (hR : RdS W (.slice ar rcpts.length capr) rcpts) hM => containsBad_calls (.slice ar rcpts.length capr) rcpts W hR hsr hM
 rw [strL_data] at hbx
 have hcell : ∀ W', Below W.heap.size W W' → ∀ (j : Nat) v, (#[Value.int .i64 id, .int .i64 parent, .int .i64 born, .string (strL frm), .slice ar rcpts.length capr, .slice ab body.length capb] : Array Value)[j]? = some v → W'.cell? ⟨w.heap.size, j, none⟩ = some v := by
  intro W' hB j v hv
  rw [cell_of_row _ _ _ _ _ _ ((hB.block _ (Array.getElem?_eq_some_iff.1 hblk).1).trans hblk)]
  exact hv
 have hRW : ∀ W', Below W.heap.size W W' → RdS W' (.slice ar rcpts.length capr) rcpts := fun W' hB => (hr.below (Nat.le_refl _) hbW).below (Nat.le_refl _) hB
 have hMW : ∀ W', Below W.heap.size W W' → MaxOk W' := fun W' hB => (hmax.below hbW).below hB
 have c0 := hcell W (Below.refl _ _) 0 _ rfl
 have c1 := hcell W (Below.refl _ _) 1 _ rfl
 have c2 := hcell W (Below.refl _ _) 2 _ rfl
 have c4 := hcell W (Below.refl _ _) 4 _ rfl
 have c5 := hcell W (Below.refl _ _) 5 _ rfl
 have hsf0 := strL_size frm
 generalize bodyB body = p6 at hdl
 generalize boxB frm = p8 at hbx
 generalize rcpts.all boxB = p9 at hcf
 have Hw1 := Lib.hid hw1
 have Hw2 := Lib.hid hw2
 have Hw3 := Lib.hid hw3
 have Hw4 := Lib.hid hw4
 have Hdl := Lib.hid hdl
 have Hbx := Lib.hid hbx
 have Hcf := Lib.hid hcf
 have Hcell := Lib.hid hcell
 have HRW := Lib.hid hRW
 have HMW := Lib.hid hMW
 have hfl : frm.length = 0 ↔ (strL frm).size = 0 := by rw [hsf0]
 have Hfl := Lib.hid hfl
 have HW := Lib.hid hW
 clear hw1 hw2 hw3 hw4 hdl hbx hcf hcell hRW hMW hr hb hsr hsf hmax hblk hsf0 hfl
 have hlri : (rcpts.length : Int) ≤ 9223372036854775807 := by omega
 have hlbi : (body.length : Int) ≤ 9223372036854775807 := by omega
 by_cases h1 : ¬ (1 ≤ id ∧ id ≤ 999999999)
 ·have hd : decide (1 ≤ id ∧ id ≤ 999999999) = false := decide_eq_false h1
  rw [hd] at Hw1 ⊢
  clear hd h1
  go_enter Tryz.func112, Tryz.ntmps112
  go_wp2_with fail
  refine (Hw1.out _).mono ?_; rintro e _ ⟨rfl, rfl⟩
  go_wp2
  go_ret
  exact ⟨rfl, hbW⟩
 replace h1 := Decidable.not_not.1 h1
 have hd1 : decide (1 ≤ id ∧ id ≤ 999999999) = true := decide_eq_true h1
 rw [hd1] at Hw1 ⊢
 clear hd1
 obtain ⟨h1a, h1b⟩ := h1
 by_cases h2 : ¬ (0 ≤ parent ∧ parent ≤ id - 1)
 ·have hd : decide (0 ≤ parent ∧ parent ≤ id - 1) = false := decide_eq_false h2
  rw [hd] at Hw2 ⊢
  clear hd h2
  go_enter Tryz.func112, Tryz.ntmps112
  go_wp2_with fail
  refine (Hw1.out _).mono ?_; rintro e _ ⟨rfl, rfl⟩
  go_wp2_with fail
  refine (Hw2.out _).mono ?_; rintro e _ ⟨rfl, rfl⟩
  go_wp2
  go_ret
  exact ⟨rfl, hbW⟩
 replace h2 := Decidable.not_not.1 h2
 have hd2 : decide (0 ≤ parent ∧ parent ≤ id - 1) = true := decide_eq_true h2
 rw [hd2] at Hw2 ⊢
 clear hd2
 by_cases h3 : ¬ (0 ≤ born ∧ born ≤ 1099511627776)
 ·have hd : decide (0 ≤ born ∧ born ≤ 1099511627776) = false := decide_eq_false h3
  rw [hd] at Hw3 ⊢
  clear hd h3
  go_enter Tryz.func112, Tryz.ntmps112
  go_wp2_with fail
  refine (Hw1.out _).mono ?_; rintro e _ ⟨rfl, rfl⟩
  go_wp2_with fail
  refine (Hw2.out _).mono ?_; rintro e _ ⟨rfl, rfl⟩
  go_wp2_with fail
  refine (Hw3.out _).mono ?_; rintro e _ ⟨rfl, rfl⟩
  go_wp2
  go_ret
  exact ⟨rfl, hbW⟩
 replace h3 := Decidable.not_not.1 h3
 have hd3 : decide (0 ≤ born ∧ born ≤ 1099511627776) = true := decide_eq_true h3
 rw [hd3] at Hw3 ⊢
 clear hd3
 by_cases h4 : ¬ (1 ≤ (rcpts.length : Int) ∧ (rcpts.length : Int) ≤ 8)
 ·have hd : decide (1 ≤ (rcpts.length : Int) ∧ (rcpts.length : Int) ≤ 8) = false := decide_eq_false h4
  rw [hd] at Hw4 ⊢
  clear hd h4
  go_enter Tryz.func112, Tryz.ntmps112
  go_wp2_with fail
  refine (Hw1.out _).mono ?_; rintro e _ ⟨rfl, rfl⟩
  go_wp2_with fail
  refine (Hw2.out _).mono ?_; rintro e _ ⟨rfl, rfl⟩
  go_wp2_with fail
  refine (Hw3.out _).mono ?_; rintro e _ ⟨rfl, rfl⟩
  go_wp2_with fail
  refine (Hw4.out _).mono ?_; rintro e _ ⟨rfl, rfl⟩
  go_wp2
  go_ret
  exact ⟨rfl, hbW⟩
 replace h4 := Decidable.not_not.1 h4
 have hd4 : decide (1 ≤ (rcpts.length : Int) ∧ (rcpts.length : Int) ≤ 8) = true := decide_eq_true h4
 rw [hd4] at Hw4 ⊢
 clear hd4
 by_cases h5 : ¬ ((body.length : Int) ≤ 8192)
 ·rw [decide_eq_false (by omega : ¬ body.length ≤ 8192)]
  clear h2 h3 h4
  go_enter Tryz.func112, Tryz.ntmps112
  go_wp2_with fail
  refine (Hw1.out _).mono ?_; rintro e _ ⟨rfl, rfl⟩
  go_wp2_with fail
  refine (Hw2.out _).mono ?_; rintro e _ ⟨rfl, rfl⟩
  go_wp2_with fail
  refine (Hw3.out _).mono ?_; rintro e _ ⟨rfl, rfl⟩
  go_wp2_with fail
  refine (Hw4.out _).mono ?_; rintro e _ ⟨rfl, rfl⟩
  go_wp2
  go_ret
  exact ⟨rfl, hbW⟩
 replace h5 := Decidable.not_not.1 h5
 rw [decide_eq_true (by omega : body.length ≤ 8192)]
 have Hd2 := Lib.hid (Hdl.out (by omega))
 clear h2 h3 h4
 cases p6
 ·go_enter Tryz.func112, Tryz.ntmps112
  go_wp2_with fail
  refine (Hw1.out _).mono ?_; rintro e _ ⟨rfl, rfl⟩
  go_wp2_with fail
  refine (Hw2.out _).mono ?_; rintro e _ ⟨rfl, rfl⟩
  go_wp2_with fail
  refine (Hw3.out _).mono ?_; rintro e _ ⟨rfl, rfl⟩
  go_wp2_with fail
  refine (Hw4.out _).mono ?_; rintro e _ ⟨rfl, rfl⟩
  go_wp2_with fail
  refine (Hd2.out).mono ?_; rintro e w6 ⟨⟨x, rfl⟩, hb6⟩
  have hb6' := hbW.trans (hb6.mono hbW.size)
  have c3' := Hcell.out w6 hb6 3 _ rfl
  have c4' := Hcell.out w6 hb6 4 _ rfl
  go_wp2
  go_ret
  exact ⟨rfl, hb6'⟩
 by_cases h7 : frm.length = 0
 ·have hz := empty_of_size (Hfl.out.1 h7)
  rw [decide_eq_true h7]
  have hcl : ∀ W', Below W.heap.size W W' → W'.cell? ⟨w.heap.size, 3, none⟩ = some (.string ⟨#[]⟩) := fun W' hB => by rw [← hz]; exact Hcell.out W' hB 3 _ rfl
  have Hcl := Lib.hid hcl
  clear hcl h7 hz
  cases p9
  ·go_enter Tryz.func112, Tryz.ntmps112
   go_wp2_with fail
   refine (Hw1.out _).mono ?_; rintro e _ ⟨rfl, rfl⟩
   go_wp2_with fail
   refine (Hw2.out _).mono ?_; rintro e _ ⟨rfl, rfl⟩
   go_wp2_with fail
   refine (Hw3.out _).mono ?_; rintro e _ ⟨rfl, rfl⟩
   go_wp2_with fail
   refine (Hw4.out _).mono ?_; rintro e _ ⟨rfl, rfl⟩
   go_wp2_with fail
   refine (Hd2.out).mono ?_; rintro e w6 ⟨⟨x, rfl⟩, hb6⟩
   have hb6' := hbW.trans (hb6.mono hbW.size)
   have c3' := Hcl.out w6 hb6
   have c4' := Hcell.out w6 hb6 4 _ rfl
   go_wp2_with fail
   refine (Hcf.out _ (HRW.out w6 hb6) (HMW.out w6 hb6)).mono ?_; rintro e w9 ⟨rfl, hb9⟩
   go_wp2
   go_ret
   exact ⟨rfl, hb6'.trans (hb9.mono hb6'.size)⟩
  ·go_enter Tryz.func112, Tryz.ntmps112
   go_wp2_with fail
   refine (Hw1.out _).mono ?_; rintro e _ ⟨rfl, rfl⟩
   go_wp2_with fail
   refine (Hw2.out _).mono ?_; rintro e _ ⟨rfl, rfl⟩
   go_wp2_with fail
   refine (Hw3.out _).mono ?_; rintro e _ ⟨rfl, rfl⟩
   go_wp2_with fail
   refine (Hw4.out _).mono ?_; rintro e _ ⟨rfl, rfl⟩
   go_wp2_with fail
   refine (Hd2.out).mono ?_; rintro e w6 ⟨⟨x, rfl⟩, hb6⟩
   have hb6' := hbW.trans (hb6.mono hbW.size)
   have c3' := Hcl.out w6 hb6
   have c4' := Hcell.out w6 hb6 4 _ rfl
   go_wp2_with fail
   refine (Hcf.out _ (HRW.out w6 hb6) (HMW.out w6 hb6)).mono ?_; rintro e w9 ⟨rfl, hb9⟩
   go_wp2
   go_ret
   exact ⟨rfl, hb6'.trans (hb9.mono hb6'.size)⟩
 ·have hne : (strL frm).size ≠ 0 := fun h => h7 (Hfl.out.2 h)
  have hb1 := empty_ne hne
  have hb2 : (strL frm).toList.isEmpty = false := by simpa using hb1
  rw [decide_eq_false h7]
  clear h7 hne
  cases p8
  ·go_enter Tryz.func112, Tryz.ntmps112
   go_wp2_with fail
   refine (Hw1.out _).mono ?_; rintro e _ ⟨rfl, rfl⟩
   go_wp2_with fail
   refine (Hw2.out _).mono ?_; rintro e _ ⟨rfl, rfl⟩
   go_wp2_with fail
   refine (Hw3.out _).mono ?_; rintro e _ ⟨rfl, rfl⟩
   go_wp2_with fail
   refine (Hw4.out _).mono ?_; rintro e _ ⟨rfl, rfl⟩
   go_wp2_with fail
   refine (Hd2.out).mono ?_; rintro e w6 ⟨⟨x, rfl⟩, hb6⟩
   have hb6' := hbW.trans (hb6.mono hbW.size)
   have c3' := Hcell.out w6 hb6 3 _ rfl
   have c4' := Hcell.out w6 hb6 4 _ rfl
   go_wp2_with fail
   refine (Hbx.out _ (HMW.out w6 hb6)).mono ?_; rintro e w8 ⟨rfl, hb8⟩
   have hb68 := hb6.trans (hb8.mono hb6.size)
   have hb8' := hbW.trans (hb68.mono hbW.size)
   have c4'' := Hcell.out w8 hb68 4 _ rfl
   go_wp2
   go_ret
   exact ⟨rfl, hb8'⟩
  ·cases p9
   ·go_enter Tryz.func112, Tryz.ntmps112
    go_wp2_with fail
    refine (Hw1.out _).mono ?_; rintro e _ ⟨rfl, rfl⟩
    go_wp2_with fail
    refine (Hw2.out _).mono ?_; rintro e _ ⟨rfl, rfl⟩
    go_wp2_with fail
    refine (Hw3.out _).mono ?_; rintro e _ ⟨rfl, rfl⟩
    go_wp2_with fail
    refine (Hw4.out _).mono ?_; rintro e _ ⟨rfl, rfl⟩
    go_wp2_with fail
    refine (Hd2.out).mono ?_; rintro e w6 ⟨⟨x, rfl⟩, hb6⟩
    have hb6' := hbW.trans (hb6.mono hbW.size)
    have c3' := Hcell.out w6 hb6 3 _ rfl
    have c4' := Hcell.out w6 hb6 4 _ rfl
    go_wp2_with fail
    refine (Hbx.out _ (HMW.out w6 hb6)).mono ?_; rintro e w8 ⟨rfl, hb8⟩
    have hb68 := hb6.trans (hb8.mono hb6.size)
    have hb8' := hbW.trans (hb68.mono hbW.size)
    have c4'' := Hcell.out w8 hb68 4 _ rfl
    go_wp2_with fail
    refine (Hcf.out _ (HRW.out w8 hb68) (HMW.out w8 hb68)).mono ?_; rintro e w9 ⟨rfl, hb9⟩
    go_wp2
    go_ret
    exact ⟨rfl, hb8'.trans (hb9.mono hb8'.size)⟩
   ·go_enter Tryz.func112, Tryz.ntmps112
    go_wp2_with fail
    refine (Hw1.out _).mono ?_; rintro e _ ⟨rfl, rfl⟩
    go_wp2_with fail
    refine (Hw2.out _).mono ?_; rintro e _ ⟨rfl, rfl⟩
    go_wp2_with fail
    refine (Hw3.out _).mono ?_; rintro e _ ⟨rfl, rfl⟩
    go_wp2_with fail
    refine (Hw4.out _).mono ?_; rintro e _ ⟨rfl, rfl⟩
    go_wp2_with fail
    refine (Hd2.out).mono ?_; rintro e w6 ⟨⟨x, rfl⟩, hb6⟩
    have hb6' := hbW.trans (hb6.mono hbW.size)
    have c3' := Hcell.out w6 hb6 3 _ rfl
    have c4' := Hcell.out w6 hb6 4 _ rfl
    go_wp2_with fail
    refine (Hbx.out _ (HMW.out w6 hb6)).mono ?_; rintro e w8 ⟨rfl, hb8⟩
    have hb68 := hb6.trans (hb8.mono hb6.size)
    have hb8' := hbW.trans (hb68.mono hbW.size)
    have c4'' := Hcell.out w8 hb68 4 _ rfl
    go_wp2_with fail
    refine (Hcf.out _ (HRW.out w8 hb68) (HMW.out w8 hb68)).mono ?_; rintro e w9 ⟨rfl, hb9⟩
    go_wp2
    go_ret
    exact ⟨rfl, hb8'.trans (hb9.mono hb8'.size)⟩
set_option maxRecDepth 100000 in
set_option maxHeartbeats 4000000 in
theorem refTexts_calls (v1 v2 : Value) (xs ys : List (List UInt8)) (w : World) (h1 : RdS w v1 xs) (h2 : RdS w v2 ys) :
 Calls Tryz.prog 122 #[v1, v2] w fun e w' => e = .returned (.bool (decide (xs = ys))) ∧ Below w.heap.size w w' := by
 obtain ⟨a1, cap1, rfl, hl1, hc1⟩ := h1.form
 obtain ⟨a2, cap2, rfl, hl2, hc2⟩ := h2.form
 by_cases hlen : (xs.length : Int) = (ys.length : Int)
 ·have hlen' : xs.length = ys.length := by omega
  rw [← hlen'] at h2 hl2 ⊢
  have H1 := Lib.hid h1
  have H2 := Lib.hid h2
  have Hlen := Lib.hid hlen'
  have hni : (xs.length : Int) ≤ 9223372036854775807 := by omega
  clear hlen hlen' h1 h2
  go_enter Tryz.func122, Tryz.ntmps122
  go_wp2
  go_loopw [5] (fun i wr => ∃ j : Nat, j ≤ xs.length ∧ i = .int .i64 j ∧ xs.take j = ys.take j ∧ Below w.heap.size w wr) (fun i _ => xs.length - (intOf i).toNat)
  case atStart => exact ⟨0, Nat.zero_le _, rfl, rfl, Below.refl _ _⟩
  case round =>
   obtain ⟨j, hj, rfl, htk, hbw⟩ := hrel
   by_cases hlt : j < xs.length
   ·obtain ⟨x, hx⟩ : ∃ x, xs[j]? = some x := ⟨_, List.getElem?_eq_getElem hlt⟩
    obtain ⟨y, hy⟩ : ∃ y, ys[j]? = some y := ⟨_, List.getElem?_eq_getElem (by rw [← Hlen.out]; exact hlt)⟩
    obtain ⟨b1, o1, k1, e1, _, p1⟩ := RdS.at (H1.out.below (Nat.le_refl _) hbw) hx
    have hr2 := H2.out.below (Nat.le_refl _) hbw
    obtain ⟨b2, o2, k2, e2, _, p2⟩ := RdS.at hr2 hy
    cases e1
    simp only [Value.slice.injEq] at e2
    obtain ⟨rfl, _, rfl⟩ := e2
    have hj0 : (0 : Int) ≤ (j : Int) := by omega
    have hj1 : (j : Int) < (xs.length : Int) := by omega
    by_cases hxy : x = y
    ·subst hxy
     have hn : xs.take (j + 1) = ys.take (j + 1) := by rw [take_snoc hx, take_snoc hy, htk]
     have Hn := Lib.hid hn
     clear hn htk hx hy hr2
     generalize strL x = sx at p1 p2
     go_wp2
     go_quiet (fail)
     go_wp2
     go_roundw
     case rel => exact ⟨j + 1, by omega, by simp, Hn.out, below_drewN hbw _⟩
     case measure => simp [intOf] <;> omega
    ·have hne : xs ≠ ys := fun e => by rw [e, hy] at hx; cases hx; exact hxy rfl
     have hb : ((strL x).toList == (strL y).toList) = false := (Lib.bytes_beq_false_iff _ _).2 (fun e => hxy (strL_inj e))
     have Hne := Lib.hid hne
     clear hne htk hx hy hr2 hxy
     generalize strL x = sx at p1 hb
     generalize strL y = sy at p2 hb
     go_wp2
     go_quiet (fail)
     go_wp2
     go_ret
     exact ⟨by rw [decide_eq_false Hne.out]; rfl, below_drewN hbw _⟩
   ·have hje : j = xs.length := by omega
    have heq : xs = ys := by
     rw [hje, List.take_of_length_le (Nat.le_refl _), List.take_of_length_le (by rw [Hlen.out]; exact Nat.le_refl _)] at htk; exact htk
    have Heq := Lib.hid heq
    have hjl : ¬ ((j : Int) < (xs.length : Int)) := by omega
    clear htk heq hje
    go_wp2
    go_ret
    exact ⟨by rw [decide_eq_true Heq.out]; rfl, hbw⟩
 ·have hne : xs ≠ ys := fun e => hlen (by rw [e])
  have Hne := Lib.hid hne
  have hq : ((xs.length : Int) == (ys.length : Int)) = false := by simpa using hlen
  clear hne
  go_enter Tryz.func122, Tryz.ntmps122
  go_wp2
  go_ret
  exact ⟨by rw [decide_eq_false Hne.out]; rfl, Below.refl _ _⟩
def MailD.light (m : MailD) : Bool := decide (m.rcpts = [] ∨ m.rcpts.length ≤ 50) && (m.rcpts.all (fun l => decide (l.length ≤ 200)) && (decide (m.frm.length ≤ 200) && decide (m.body.length ≤ 9000)))
end Go.Proofs.YtffnbkmigapmjaaGreatDoor

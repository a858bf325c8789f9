/- Printed out of the texts of wip/tpl. -/
import Derived.Test.YtffnbkmigapmjaaGreatDoorT10
import Derived.Test.YtffnbkmigapmjaaGreatDoorT17
import Derived.Stop.LaidErr
import Derived.Lib.LaidTab
set_option linter.unusedSimpArgs false
set_option linter.unusedVariables false
set_option maxRecDepth 100000
namespace Go.Proofs.YtffnbkmigapmjaaGreatDoor
open Go.RowKit Go.ChangeShapes
theorem tab_gb {w w' : World} {name : String} {k : IntKind} {zs : List Int} {g : Nat} (hg : Tryz.prog.globalNamed name = some g) (hn : g < NG) (h : Lib.TabIs Tryz.prog w name k zs) (hb : GB w w') : Lib.TabIs Tryz.prog w' name k zs := by
 unfold Lib.TabIs World.var? at h ⊢
 rw [hg] at h ⊢
 simp only [Option.bind_some] at h ⊢
 have hl : g < w.heap.size := by
  rcases Nat.lt_or_ge g w.heap.size with h' | h'
  ·exact h'
  ·rw [Array.getElem?_eq_none h'] at h; cases h
 rw [hb.block g hn hl]; exact h
theorem below_grow (w : World) (k : Nat) (os : Array Obj) : Below w.heap.size w (Go.Sort.grow (w.drewN k) os) :=
 ⟨rfl, rfl, rfl, by show w.heap.size ≤ (w.heap ++ os).size; simp, fun i hi => by show (w.heap ++ os)[i]? = w.heap[i]?; rw [Array.getElem?_append_left hi]⟩
theorem itoa_tab {w : World} (h : Lib.TabIs Tryz.prog w "internal/strconv.uint64pow10" .u64 Lib.pow10Tab) (n : Nat) (hn : n ≤ 999999999) : ItoaOk n w := fun w' hb => by
 have h' := tab_gb (g := 1) (by kernel_rfl) (by unfold NG; omega) h hb
 refine (Tryz.strconv_Itoa (n : Int) (by omega) (by omega) w' h').mono ?_
 rintro e w2 ⟨rfl, k, os, rfl⟩
 refine ⟨?_, below_grow w' k os⟩
 have hi : Lib.itoa (n : Int) = Lib.decDigits n := by unfold Lib.itoa; rw [if_neg (by omega), Int.toNat_natCast]
 rw [hi]; rfl
theorem err_row (u : TypeId) (h : Tryz.prog.typeName? 3 u = some "*errors.errorString") : u = 275 :=
 typeName_ptr_named (nm := "errors.errorString") (by rw [show "*" ++ "errors.errorString" = "*errors.errorString" by decide]; kernel_rfl) (by kernel_rfl) (by decide) u (by rw [show "*" ++ "errors.errorString" = "*errors.errorString" by decide]; exact h)
theorem gok_of {W : World} {l1 l2 l4 : String × DataW Unit} {a b : List UInt8} {rest : List (String × DataW Unit)}
 (h : laidMet Tryz.prog (l1 :: l2 :: ("internal/strconv.uint64pow10", Lib.tabData .u64 Lib.pow10Tab) :: l4 :: ("strconv.ErrRange", .iface "*errors.errorString" (.ptr (.agg [.lit (.string a)]))) :: ("strconv.ErrSyntax", .iface "*errors.errorString" (.ptr (.agg [.lit (.string b)]))) :: rest) W) (hs : W.ShapedOpen Tryz.prog) : GOk W := by
 have htab : Lib.TabIs Tryz.prog W "internal/strconv.uint64pow10" .u64 Lib.pow10Tab := Lib.tabIs_of_head (g := 1) (t := 244) (e := 146) (n := 20) (by kernel_rfl) (by kernel_rfl) (by kernel_rfl) (by kernel_rfl) (by kernel_rfl) (by kernel_rfl) h.tail.tail
 obtain ⟨a0, s0, hv0, _⟩ := laid_sentinel (g := 3) (ti := 140) (te := 277) (ts := 9) h.tail.tail.tail.tail (by kernel_rfl) (by kernel_rfl) Tryz.underlying140 err_row Tryz.underlying275 Tryz.underlying277 rfl rfl (by kernel_rfl) (by kernel_rfl) (by kernel_rfl)
 obtain ⟨a1, s1, hv1, _⟩ := laid_sentinel (g := 2) (ti := 140) (te := 277) (ts := 9) h.tail.tail.tail.tail.tail (by kernel_rfl) (by kernel_rfl) Tryz.underlying140 err_row Tryz.underlying275 Tryz.underlying277 rfl rfl (by kernel_rfl) (by kernel_rfl) (by kernel_rfl)
 have c0 : W.cell? ⟨3, 0, none⟩ = some (.iface 275 (.pointer (some a0))) := World.var?_cell (by kernel_rfl) hv0 0
 have c1 : W.cell? ⟨2, 0, none⟩ = some (.iface 275 (.pointer (some a1))) := World.var?_cell (by kernel_rfl) hv1 0
 obtain ⟨m, cm⟩ := maxOk_of hs
 have hsz : NG ≤ W.heap.size := by
  have h0 := Lib.lt_of_cell c0
  have h1 := Lib.lt_of_cell c1
  have h2 := Lib.lt_of_cell cm
  have h3 : 1 < W.heap.size := by
   have h := htab
   unfold Lib.TabIs World.var? at h
   rw [show Tryz.prog.globalNamed "internal/strconv.uint64pow10" = some 1 by kernel_rfl] at h
   simp only [Option.bind_some] at h
   rcases Nat.lt_or_ge 1 W.heap.size with h' | h'
   ·exact h'
   ·rw [Array.getElem?_eq_none h'] at h; cases h
  unfold NG
  dsimp only at h0 h1 h2
  omega
 exact ⟨hsz, itoa_tab htab, ⟨_, c1, .inr ⟨_, _, rfl⟩⟩, ⟨_, c0, .inr ⟨_, _, rfl⟩⟩⟩
end Go.Proofs.YtffnbkmigapmjaaGreatDoor

/-
  What a row lays gives what the store's walks ask of the package variables.
  The walks of a store that is none; the body of the law StoreNone.
-/
import Derived.Test.YtffnbkmigapmjaaGreatDoorS15
import Derived.Test.YtffnbkmigapmjaaGreatDoorS25
import Derived.Test.YtffnbkmigapmjaaGreatDoorS48
import Derived.Stop.LaidErr
import Derived.Lib.LaidTab
set_option linter.unusedSimpArgs false
set_option linter.unusedVariables false
set_option maxRecDepth 100000
namespace Go.Proofs.YtffnbkmigapmjaaGreatDoor
open Go.RowKit Go.ChangeShapes
theorem tab_gb {w w' : World} {name : String} {k : IntKind} {zs : List Int} {g : Nat} (hg : Tryz.prog.globalNamed name = some g) (hn : g < NG) (h : Lib.TabIs Tryz.prog w name k zs) (hb : GB w w') : Lib.TabIs Tryz.prog w' name k zs := by
  unfold Lib.TabIs World.var? at h ⊢
  rw [hg] at h ⊢
  simp only [Option.bind_some] at h ⊢
  have hl : g < w.heap.size := by
    rcases Nat.lt_or_ge g w.heap.size with h' | h'
    · exact h'
    · rw [Array.getElem?_eq_none h'] at h; cases h
  rw [hb.block g hn hl]; exact h
theorem below_grow (w : World) (k : Nat) (os : Array Obj) : Below w.heap.size w (Go.Sort.grow (w.drewN k) os) :=
  ⟨rfl, rfl, rfl, by show w.heap.size ≤ (w.heap ++ os).size; simp, fun i hi => by show (w.heap ++ os)[i]? = w.heap[i]?; rw [Array.getElem?_append_left hi]⟩
theorem itoa_tab {w : World} (h : Lib.TabIs Tryz.prog w "internal/strconv.uint64pow10" .u64 Lib.pow10Tab) (n : Nat) (hn : n ≤ 999999999) : ItoaOk n w := fun w' hb => by
  have h' := tab_gb (g := 1) (by kernel_rfl) (by unfold NG; omega) h hb
  refine (Tryz.strconv_Itoa (n : Int) (by omega) (by omega) w' h').mono ?_
  rintro e w2 ⟨rfl, k, os, rfl⟩
  refine ⟨?_, below_grow w' k os⟩
  have hi : Lib.itoa (n : Int) = Lib.decDigits n := by unfold Lib.itoa; rw [if_neg (by omega), Int.toNat_natCast]
  rw [hi]; rfl
theorem err_row (u : TypeId) (h : Tryz.prog.typeName? 3 u = some "*errors.errorString") : u = 275 :=
  typeName_ptr_named (nm := "errors.errorString") (by rw [show "*" ++ "errors.errorString" = "*errors.errorString" by decide]; kernel_rfl) (by kernel_rfl) (by decide) u (by rw [show "*" ++ "errors.errorString" = "*errors.errorString" by decide]; exact h)
theorem gok_of {W : World} {l1 l2 l4 : String × DataW Unit} {a b : List UInt8} {rest : List (String × DataW Unit)}
    (h : laidMet Tryz.prog (l1 :: l2 :: ("internal/strconv.uint64pow10", Lib.tabData .u64 Lib.pow10Tab) :: l4 :: ("strconv.ErrRange", .iface "*errors.errorString" (.ptr (.agg [.lit (.string a)]))) :: ("strconv.ErrSyntax", .iface "*errors.errorString" (.ptr (.agg [.lit (.string b)]))) :: rest) W) (hs : W.ShapedOpen Tryz.prog) : GOk W := by
  have htab : Lib.TabIs Tryz.prog W "internal/strconv.uint64pow10" .u64 Lib.pow10Tab := Lib.tabIs_of_head (g := 1) (t := 244) (e := 146) (n := 20) (by kernel_rfl) (by kernel_rfl) (by kernel_rfl) (by kernel_rfl) (by kernel_rfl) (by kernel_rfl) h.tail.tail
  obtain ⟨a0, s0, hv0, _⟩ := laid_sentinel (g := 3) (ti := 140) (te := 277) (ts := 9) h.tail.tail.tail.tail (by kernel_rfl) (by kernel_rfl) Tryz.underlying140 err_row Tryz.underlying275 Tryz.underlying277 rfl rfl (by kernel_rfl) (by kernel_rfl) (by kernel_rfl)
  obtain ⟨a1, s1, hv1, _⟩ := laid_sentinel (g := 2) (ti := 140) (te := 277) (ts := 9) h.tail.tail.tail.tail.tail (by kernel_rfl) (by kernel_rfl) Tryz.underlying140 err_row Tryz.underlying275 Tryz.underlying277 rfl rfl (by kernel_rfl) (by kernel_rfl) (by kernel_rfl)
  have c0 : W.cell? ⟨3, 0, none⟩ = some (.iface 275 (.pointer (some a0))) := World.var?_cell (by kernel_rfl) hv0 0
  have c1 : W.cell? ⟨2, 0, none⟩ = some (.iface 275 (.pointer (some a1))) := World.var?_cell (by kernel_rfl) hv1 0
  obtain ⟨m, cm⟩ := maxOk_of hs
  have hsz : NG ≤ W.heap.size := by
    have h0 := Lib.lt_of_cell c0
    have h1 := Lib.lt_of_cell c1
    have h2 := Lib.lt_of_cell cm
    have h3 : 1 < W.heap.size := by
      have h := htab
      unfold Lib.TabIs World.var? at h
      rw [show Tryz.prog.globalNamed "internal/strconv.uint64pow10" = some 1 by kernel_rfl] at h
      simp only [Option.bind_some] at h
      rcases Nat.lt_or_ge 1 W.heap.size with h' | h'
      · exact h'
      · rw [Array.getElem?_eq_none h'] at h; cases h
    unfold NG
    dsimp only at h0 h1 h2
    omega
  exact ⟨hsz, itoa_tab htab, ⟨_, c1, .inr ⟨_, _, rfl⟩⟩, ⟨_, c0, .inr ⟨_, _, rfl⟩⟩⟩
end Go.Proofs.YtffnbkmigapmjaaGreatDoor

set_option linter.unusedSimpArgs false
set_option linter.unusedVariables false
set_option maxRecDepth 100000
namespace Go.Proofs.YtffnbkmigapmjaaGreatDoor
open Go.RowKit Go.Maps
set_option maxHeartbeats 4000000 in
theorem at_nil (id : Int) (w : World) :
    Calls Tryz.prog 60 #[.pointer none, .int .i64 id] w fun e w' => e = .returned (.tuple #[.int .u8 0, .int .i64 1]) ∧ Below w.heap.size w w' := by
  go_enter Tryz.func60, Tryz.ntmps60
  go_wp2_with fail
  refine (sready_nil w).mono ?_; rintro e w1 ⟨rfl, hb1⟩
  go_wp2
  go_ret2
  exact ⟨rfl, hb1⟩
set_option maxHeartbeats 4000000 in
theorem move_nil (id : Int) (w : World) :
    Calls Tryz.prog 23 #[.pointer none, .int .i64 id, .int .u8 105] w fun e w' => e = .returned (.int .i64 1) ∧ Below w.heap.size w w' := by
  have hin : ∀ w, Calls Tryz.prog 44 #[.string ⟨#[105, 97, 100, 104]⟩, .int .u8 105] w fun e w' => e = .returned (.bool true) ∧ w' = w := in_keep 105
  go_enter Tryz.func23, Tryz.ntmps23
  go_wp2_with fail
  refine (hin w).mono ?_; rintro e w0 ⟨rfl, hw0⟩; have hw0 := hw0.symm; subst hw0
  go_wp2_with fail
  refine (at_nil id w).mono ?_; rintro e w1 ⟨rfl, hb1⟩
  go_wp2
  go_ret
  exact ⟨rfl, hb1⟩
set_option maxHeartbeats 4000000 in
theorem drop_nil (id : Int) (w : World) :
    Calls Tryz.prog 22 #[.pointer none, .int .i64 id] w fun e w' => e = .returned (.int .i64 1) ∧ Below w.heap.size w w' := by
  go_enter Tryz.func22, Tryz.ntmps22
  go_wp2_with fail
  refine (at_nil id w).mono ?_; rintro e w1 ⟨rfl, hb1⟩
  go_wp2
  go_ret
  exact ⟨rfl, hb1⟩
set_option maxHeartbeats 4000000 in
theorem list_nil (q : Int) (w : World) :
    Calls Tryz.prog 21 #[.pointer none, .int .u8 q] w fun e w' => e = .returned (.slice none 0 0) ∧ Below w.heap.size w w' := by
  go_enter Tryz.func21, Tryz.ntmps21
  go_wp2
  go_ret
  exact ⟨rfl, Below.refl _ _⟩
set_option maxHeartbeats 4000000 in
theorem commit_nil (m : MailD) (ar ab : Option Addr) (lr lb cr cb : Nat) (w : World) :
    Calls Tryz.prog 24 #[.pointer none, mailVal m (.slice ar lr cr) (.slice ab lb cb)] w fun e w' => e = .returned (.tuple #[.int .i64 0, .int .i64 1]) ∧ Below w.heap.size w w' := by
  obtain ⟨mid, parent, born, frm, rcpts, body⟩ := m
  unfold mailVal
  dsimp only
  generalize strL frm = tf
  have hb := (Below.refl w.heap.size w).alloc (Nat.le_refl _) (.cells #[.int .i64 mid, .int .i64 parent, .int .i64 born, .string tf, .slice ar lr cr, .slice ab lb cb] 29)
  have Hb := Lib.hid hb
  clear hb
  go_enter Tryz.func24, Tryz.ntmps24
  go_wp2
  go_ret2
  exact ⟨rfl, Hb.out⟩
set_option maxHeartbeats 4000000 in
theorem bounce_nil (m : MailD) (ar ab : Option Addr) (lr lb cr cb : Nat) (w : World) :
    Calls Tryz.prog 37 #[.pointer none, mailVal m (.slice ar lr cr) (.slice ab lb cb)] w fun e w' => e = .returned (.tuple #[.int .i64 0, .int .i64 1]) ∧ Below w.heap.size w w' := by
  obtain ⟨mid, parent, born, frm, rcpts, body⟩ := m
  unfold mailVal
  dsimp only
  generalize strL frm = tf
  have hb := (Below.refl w.heap.size w).alloc (Nat.le_refl _) (.cells #[.int .i64 mid, .int .i64 parent, .int .i64 born, .string tf, .slice ar lr cr, .slice ab lb cb] 29)
  have Hb := Lib.hid hb
  clear hb
  go_enter Tryz.func37, Tryz.ntmps37
  go_wp2
  go_ret2
  exact ⟨rfl, Hb.out⟩
set_option maxHeartbeats 4000000 in
theorem idsOpen_nil (w : World) :
    Calls Tryz.prog 55 #[.pointer none] w fun e w' => e = .returned (.tuple #[.pointer none, .int .i64 1]) ∧ Below w.heap.size w w' := by
  go_enter Tryz.func55, Tryz.ntmps55
  go_wp2
  go_ret2
  exact ⟨rfl, Below.refl _ _⟩
set_option maxHeartbeats 4000000 in
theorem open_nil (w : World) :
    Calls Tryz.prog 17 #[.pointer none] w fun e w' => e = .returned (.tuple #[.pointer none, .int .i64 1]) ∧ Below w.heap.size w w' := by
  go_enter Tryz.func17, Tryz.ntmps17
  go_wp2_with fail
  refine (idsOpen_nil w).mono ?_; rintro e w1 ⟨rfl, hb1⟩
  go_wp2
  go_ret2
  exact ⟨rfl, hb1⟩
set_option maxHeartbeats 8000000 in
theorem file_nil (id : Int) (w : World) :
    Calls Tryz.prog 19 #[.pointer none, .int .i64 id] w (FileRes w none) := by
  have hz : ∀ w, (zeroValue 43).run Tryz.prog w = .ok (.agg #[.int .i64 0, .int .i64 0, .int .i64 0, .string ⟨#[]⟩, .slice none 0 0, .slice none 0 0, .slice none 0 0, .int .i64 0]) w := fun _ => by kernel_rfl
  obtain ⟨W, hW⟩ : ∃ W, w.alloc (.cells #[.int .i64 0, .int .i64 0, .int .i64 0, .string ⟨#[]⟩, .slice none 0 0, .slice none 0 0, .slice none 0 0, .int .i64 0] 43) = W := ⟨_, rfl⟩
  have hbW : Below w.heap.size w W := by rw [← hW]; exact (Below.refl _ _).alloc (Nat.le_refl _) _
  have hF : W.heap[w.heap.size]? = some (.cells #[.int .i64 0, .int .i64 0, .int .i64 0, .string ⟨#[]⟩, .slice none 0 0, .slice none 0 0, .slice none 0 0, .int .i64 0] 43 (0, 0)) := by rw [← hW]; exact heap_alloc_new w _
  have hlt : w.heap.size < W.heap.size := by rw [← hW]; simp
  have hwh := where_nil id W
  have hin : ∀ w, Calls Tryz.prog 44 #[.string ⟨#[105, 97, 100, 104]⟩, .int .u8 0] w fun e w' => e = .returned (.bool false) ∧ w' = w := in_keep 0
  have Hwh := Lib.hid hwh
  have Hin := Lib.hid hin
  have HF := Lib.hid (And.intro hbW (And.intro hF hlt))
  clear hwh hin hbW hF hlt
  subst hW
  go_enter Tryz.func19, Tryz.ntmps19
  go_wp2_with fail
  refine (Hwh.out).mono ?_; rintro e w1 ⟨rfl, hb1⟩
  have hF1 := (hb1.block _ HF.out.2.2).trans HF.out.2.1
  have Hb1 := Lib.hid (HF.out.1.trans (hb1.mono HF.out.1.size))
  obtain ⟨⟨x0, x1, x2, x3, x4, x5, x6, x7⟩, y0, y1, y2, y3, y4, y5, y6, y7⟩ := cells8 hF1
  have HF1 := Lib.hid hF1
  clear hb1 hF1
  go_wp2_with fail
  refine (Hin.out w1).mono ?_; rintro e w2 ⟨rfl, hw2⟩; have hw2 := hw2.symm; subst hw2
  go_wp2
  have hB5 := heap8 ⟨_, _, _, _, _, _, _, _, HF1.out⟩ (.int .i64 0) (.int .i64 0) (.int .i64 0) (.string ⟨#[]⟩) (.slice none 0 0) (.slice none 0 0) (.slice none 0 0) (.int .i64 0)
  refine bodyPost_ret (results_row_tmp rfl _ _ w.heap.size 43 _ (0, 0) _ rfl hB5 Tryz.underlying43 rfl (by kernel_rfl)) rfl (fileRes_none rfl ?_)
  exact below8 Hb1.out (Nat.le_refl _) _ _ _ _ _ _ _ _
set_option maxHeartbeats 8000000 in
theorem mark_nil (id : Int) (w : World) :
    Calls Tryz.prog 27 #[.pointer none, .int .i64 id, .agg #[.int .i64 1, .int .i64 0, .int .i64 0]] w fun e w' => e = .returned (.int .i64 1) ∧ Below w.heap.size w w' := by
  obtain ⟨W, hW⟩ : ∃ W, (w.alloc (.cells #[.pointer none] 37)).alloc (.cells #[.int .i64 1, .int .i64 0, .int .i64 0] 53) = W := ⟨_, rfl⟩
  have hbW : Below w.heap.size w W := by rw [← hW]; exact ((Below.refl _ _).alloc (Nat.le_refl _) _).alloc (by simp) _
  have h3 : W.heap[w.heap.size]? = some (.cells #[.pointer none] 37 (0, 0)) := by
    rw [← hW]; exact (Below.heap_alloc _ _ _ (by simp)).trans (heap_alloc_new w _)
  have hlt := (Array.getElem?_eq_some_iff.1 h3).1
  have hen : Calls Tryz.prog 66 #[.agg #[.int .i64 1, .int .i64 0, .int .i64 0]] W (EncDone W (MarkD.mk 1 0 0).bytes) := markEncode_good ⟨1, 0, 0⟩ W (by decide)
  have Hen := Lib.hid hen
  have H3 := Lib.hid (And.intro hbW (And.intro h3 hlt))
  clear hen h3 hbW hlt
  subst hW
  go_enter Tryz.func27, Tryz.ntmps27
  go_wp2_with fail
  refine (Hen.out).mono ?_; rintro e w1 ⟨v, rfl, hrow, hb1⟩
  obtain ⟨av, cv, rfl⟩ := own_form0 hrow
  have h1 := (hb1.block _ H3.out.2.2).trans H3.out.2.1
  have hb1' := H3.out.1.trans (hb1.mono H3.out.1.size)
  generalize (MarkD.mk 1 0 0).bytes.length = nl
  obtain ⟨W2, hW2⟩ : ∃ W2, w1.alloc (.cells #[.slice av nl cv] 22) = W2 := ⟨_, rfl⟩
  have hb2 : Below w.heap.size w W2 := by rw [← hW2]; exact hb1'.alloc hb1'.size _
  have c3 : W2.cell? ⟨w.heap.size, 0, none⟩ = some (.pointer none) := by
    refine cell1 (t := 37) ?_
    rw [← hW2]; exact (Below.heap_alloc _ _ _ (Array.getElem?_eq_some_iff.1 h1).1).trans h1
  have hat := at_nil id W2
  have Hat := Lib.hid hat
  have Hb2 := Lib.hid hb2
  clear hat hb2 hb1' h1 hb1 hrow
  subst hW2
  go_wp2_with fail
  refine (Hat.out).mono ?_; rintro e w3 ⟨rfl, hb3⟩
  have hb3' := Hb2.out.trans (hb3.mono Hb2.out.size)
  clear hb3 c3
  go_wp2
  go_ret
  exact ⟨rfl, hb3'⟩
set_option maxHeartbeats 16000000 in
theorem storeNone_all (m : MailD) (vr vb : Value) (a1 a2 : Int) (w : World) (hr : RdS w vr m.rcpts) (hb : RdB w vb m.body) (hg : GOk w) (hmax : MaxOk w) :
    Calls Tryz.prog 7 #[mailVal m vr vb, .int .i64 a1, .int .u8 a2] w fun e w' => e = .returned (.bool true) ∧ Below w.heap.size w w' := by
  obtain ⟨ar, capr, rfl, hlr, hcr⟩ := hr.form
  obtain ⟨ab, capb, rfl, hlb, hcb⟩ := hb.form
  have hcm := fun w => commit_nil m ar ab m.rcpts.length m.body.length capr capb w
  have hbo := fun w => bounce_nil m ar ab m.rcpts.length m.body.length capr capb w
  have hans := fun w1 (hb : Below w.heap.size w w1) => answers14_calls w1 (hg.below hb) (hmax.below hb)
  unfold mailVal at hcm hbo ⊢
  obtain ⟨W, hW⟩ : ∃ W, w.alloc (.cells #[.int .i64 m.id, .int .i64 m.parent, .int .i64 m.born, .string (strL m.frm), .slice ar m.rcpts.length capr, .slice ab m.body.length capb] 29) = W := ⟨_, rfl⟩
  have hbW : Below w.heap.size w W := by rw [← hW]; exact (Below.refl _ _).alloc (Nat.le_refl _) _
  have hM : W.heap[w.heap.size]? = some (.cells #[.int .i64 m.id, .int .i64 m.parent, .int .i64 m.born, .string (strL m.frm), .slice ar m.rcpts.length capr, .slice ab m.body.length capb] 29 (0, 0)) := by rw [← hW]; exact heap_alloc_new w _
  have hWs : w.heap.size < W.heap.size := (Array.getElem?_eq_some_iff.1 hM).1
  have hcl := fun w1 (hb : Below W.heap.size W w1) => (mail_cells ((hb.block _ hWs).trans hM)).1
  generalize strL m.frm = tf at hcm hbo hW hcl ⊢
  generalize m.id = x0 at hcm hbo hW hcl ⊢
  generalize m.parent = x1 at hcm hbo hW hcl ⊢
  generalize m.born = x2 at hcm hbo hW hcl ⊢
  generalize m.rcpts.length = nr at hcm hbo hW hcl ⊢
  generalize m.body.length = nb at hcm hbo hW hcl ⊢
  have Hcm := Lib.hid hcm
  have Hbo := Lib.hid hbo
  have Hans := Lib.hid hans
  have Hcl := Lib.hid hcl
  have HbW := Lib.hid hbW
  obtain ⟨y0, y1, y2, y3, y4, y5⟩ := hcl W (Below.refl _ _)
  clear hcm hbo hans hcl hM hWs hbW hr hb hg hmax hlr hlb hcr hcb
  subst hW
  by_cases h1 : (1000 : Int) < (nb : Int)
  · have ha := Hans.out _ HbW.out
    have Ha := Lib.hid ha
    clear ha
    go_enter Tryz.func7, Tryz.ntmps7
    go_wp2_with fail
    refine (Ha.out).mono ?_; rintro e w1 ⟨rfl, hb1⟩
    have hb1' := HbW.out.trans (hb1.mono HbW.out.size)
    clear hb1
    go_wp2
    go_ret
    exact ⟨rfl, hb1'⟩
  · by_cases h2 : (20 : Int) < (nr : Int)
    · have ha := Hans.out _ HbW.out
      have Ha := Lib.hid ha
      clear ha
      go_enter Tryz.func7, Tryz.ntmps7
      go_wp2_with fail
      refine (Ha.out).mono ?_; rintro e w1 ⟨rfl, hb1⟩
      have hb1' := HbW.out.trans (hb1.mono HbW.out.size)
      clear hb1
      go_wp2
      go_ret
      exact ⟨rfl, hb1'⟩
    · go_enter Tryz.func7, Tryz.ntmps7
      go_wp2_with fail
      refine (Hcm.out _).mono ?_; rintro e w1 ⟨rfl, hb1⟩
      obtain ⟨y0, y1, y2, y3, y4, y5⟩ := Hcl.out w1 hb1
      have hw1 := HbW.out.trans (hb1.mono HbW.out.size)
      have Hb1 := Lib.hid (And.intro hb1 hw1)
      clear hb1 hw1
      go_wp2_with fail
      refine (Hbo.out w1).mono ?_; rintro e w2 ⟨rfl, hb2⟩
      have hw2 := Hb1.out.2.trans (hb2.mono Hb1.out.2.size)
      have Hb2 := Lib.hid hw2
      clear hb2 hw2 y0 y1 y2 y3 y4 y5
      go_wp2_with fail
      refine (file_nil a1 w2).mono ?_; rintro e w3 ⟨ur, ub, um, rfl, o1, o2, o3, hb3⟩
      obtain ⟨u1, k1, rfl⟩ := own_slice o1
      obtain ⟨u2, k2, rfl⟩ := own_slice o2
      obtain ⟨u3, k3, rfl⟩ := own_slice o3
      have hw3 := Hb2.out.trans (hb3.mono Hb2.out.size)
      obtain ⟨n1, hn1⟩ : ∃ n1, ((none : Option FileD).getD FileD.zero).mail.rcpts.length = n1 := ⟨_, rfl⟩
      obtain ⟨n2, hn2⟩ : ∃ n2, ((none : Option FileD).getD FileD.zero).mail.body.length = n2 := ⟨_, rfl⟩
      obtain ⟨n3, hn3⟩ : ∃ n3, ((none : Option FileD).getD FileD.zero).marks.length = n3 := ⟨_, rfl⟩
      have he : ∀ a b c, fileVal ((none : Option FileD).getD FileD.zero) a b c = .agg #[.int .i64 0, .int .i64 0, .int .i64 0, .string (strL []), a, b, c, .int .i64 0] := fun _ _ _ => rfl
      have hs : (none : Option FileD).isSome = false := rfl
      rw [he, hs, hn1, hn2, hn3]
      generalize strL [] = se
      have hw3a := hw3.alloc hw3.size (.cells #[.int .i64 0, .int .i64 0, .int .i64 0, .string se, .slice u1 n1 k1, .slice u2 n2 k2, .slice u3 n3 k3, .int .i64 0] 43)
      have Hb3 := Lib.hid hw3a
      clear hw3a hw3 hb3 o1 o2 o3 hn1 hn2 hn3 he hs
      go_wp2_with fail
      refine (open_nil _).mono ?_; rintro e w4 ⟨rfl, hb4⟩
      have hw4 := Hb3.out.trans (hb4.mono Hb3.out.size)
      have Ha := Lib.hid (Hans.out _ hw4)
      have Hb4 := Lib.hid hw4
      clear hb4 hw4
      go_wp2_with fail
      refine (Ha.out).mono ?_; rintro e w5 ⟨rfl, hb5⟩
      have hw5 := Hb4.out.trans (hb5.mono Hb4.out.size)
      have Hb5 := Lib.hid hw5
      clear hb5 hw5
      go_wp2_with fail
      refine (mark_nil a1 w5).mono ?_; rintro e w6 ⟨rfl, hb6⟩
      have hw6 := Hb5.out.trans (hb6.mono Hb5.out.size)
      have Hb6 := Lib.hid hw6
      clear hb6 hw6
      go_wp2_with fail
      refine (move_nil a1 w6).mono ?_; rintro e w7 ⟨rfl, hb7⟩
      have hw7 := Hb6.out.trans (hb7.mono Hb6.out.size)
      have Hb7 := Lib.hid hw7
      clear hb7 hw7
      go_wp2_with fail
      refine (drop_nil a1 w7).mono ?_; rintro e w8 ⟨rfl, hb8⟩
      have hw8 := Hb7.out.trans (hb8.mono Hb7.out.size)
      have Hb8 := Lib.hid hw8
      clear hb8 hw8
      go_wp2_with fail
      refine (where_nil a1 w8).mono ?_; rintro e w9 ⟨rfl, hb9⟩
      have hw9 := Hb8.out.trans (hb9.mono Hb8.out.size)
      have Hb9 := Lib.hid hw9
      clear hb9 hw9
      go_wp2_with fail
      refine (list_nil a2 w9).mono ?_; rintro e w10 ⟨rfl, hb10⟩
      have hw10 := Hb9.out.trans (hb10.mono Hb9.out.size)
      clear hb10
      go_wp2
      go_ret
      exact ⟨rfl, hw10⟩
end Go.Proofs.YtffnbkmigapmjaaGreatDoor

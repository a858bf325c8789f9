/-
  The walk of the law EnvOwn.
-/
import Derived.Test.YtjddicoigbidlaaGreatDoorE7
set_option linter.unusedSimpArgs false
set_option linter.unusedVariables false
namespace Go.Proofs.YtjddicoigbidlaaGreatDoor
open Go.RowKit
/-- What stays while the last statement is carried out: three boxed mails, and bytes. -/
def OwnRest (w0 : World) (M Y X : Nat) (m : MailD) (vr vb vr2 vb2 vr3 vb3 v : Value) (R : List UInt8) (w : World) : Prop := Below w0.heap.size w0 w ∧ MailAt w M m vr vb ∧ MailAt w Y m vr2 vb2 ∧ MailAt w X m vr3 vb3 ∧ RdB w v R
abbrev OwnS (w0 : World) (M Y X : Nat) (m : MailD) (vr vb vr2 vb2 vr3 vb3 v : Value) (R : List UInt8) (sr : ByteArray) (w' : World) : Prop :=
  w'.cell? ⟨M, 0, none⟩ = some (.int .i64 m.id) ∧ w'.cell? ⟨M, 1, none⟩ = some (.int .i64 m.parent) ∧ w'.cell? ⟨M, 2, none⟩ = some (.int .i64 m.born) ∧ w'.cell? ⟨M, 3, none⟩ = some (.string (strL m.frm)) ∧ w'.cell? ⟨M, 4, none⟩ = some vr ∧ w'.cell? ⟨M, 5, none⟩ = some vb ∧
  w'.cell? ⟨Y, 0, none⟩ = some (.int .i64 m.id) ∧ w'.cell? ⟨Y, 1, none⟩ = some (.int .i64 m.parent) ∧ w'.cell? ⟨Y, 2, none⟩ = some (.int .i64 m.born) ∧ w'.cell? ⟨Y, 3, none⟩ = some (.string (strL m.frm)) ∧ w'.cell? ⟨Y, 4, none⟩ = some vr2 ∧ w'.cell? ⟨Y, 5, none⟩ = some vb2 ∧
  w'.cell? ⟨X, 0, none⟩ = some (.int .i64 m.id) ∧ w'.cell? ⟨X, 1, none⟩ = some (.int .i64 m.parent) ∧ w'.cell? ⟨X, 2, none⟩ = some (.int .i64 m.born) ∧ w'.cell? ⟨X, 3, none⟩ = some (.string (strL m.frm)) ∧ w'.cell? ⟨X, 4, none⟩ = some vr3 ∧ w'.cell? ⟨X, 5, none⟩ = some vb3 ∧
  (convert 23 9 v).run Tryz.prog w' = .ok (.string sr) w' ∧ OwnRest w0 M Y X m vr vb vr2 vb2 vr3 vb3 v R w'
theorem OwnS.of {w0 w : World} {M Y X : Nat} {m : MailD} {vr vb vr2 vb2 vr3 vb3 v : Value} {R : List UInt8} {sr : ByteArray} (hq : strL R = sr) (h : OwnRest w0 M Y X m vr vb vr2 vb2 vr3 vb3 v R w) : OwnS w0 M Y X m vr vb vr2 vb2 vr3 vb3 v R sr w := by
  obtain ⟨h1, h2, h3, h4, h5⟩ := id h
  subst hq
  exact ⟨h2.cells.1, h2.cells.2.1, h2.cells.2.2.1, h2.cells.2.2.2.1, h2.cells.2.2.2.2.1, h2.cells.2.2.2.2.2, h3.cells.1, h3.cells.2.1, h3.cells.2.2.1, h3.cells.2.2.2.1, h3.cells.2.2.2.2.1, h3.cells.2.2.2.2.2, h4.cells.1, h4.cells.2.1, h4.cells.2.2.1, h4.cells.2.2.2.1, h4.cells.2.2.2.2.1, h4.cells.2.2.2.2.2, run_strL h5, h⟩
theorem OwnS.rest {w0 w : World} {M Y X : Nat} {m : MailD} {vr vb vr2 vb2 vr3 vb3 v : Value} {R : List UInt8} {sr : ByteArray} (h : OwnS w0 M Y X m vr vb vr2 vb2 vr3 vb3 v R sr w) : OwnRest w0 M Y X m vr vb vr2 vb2 vr3 vb3 v R w :=
  h.2.2.2.2.2.2.2.2.2.2.2.2.2.2.2.2.2.2.2
theorem OwnS.go {w0 w w' : World} {M Y X : Nat} {m : MailD} {vr vb vr2 vb2 vr3 vb3 v : Value} {R : List UInt8} {sr : ByteArray} (hq : Hid (strL R = sr)) (hb : Below w.heap.size w w') (h : OwnS w0 M Y X m vr vb vr2 vb2 vr3 vb3 v R sr w) : OwnS w0 M Y X m vr vb vr2 vb2 vr3 vb3 v R sr w' := by
  obtain ⟨h1, h2, h3, h4, h5⟩ := h.rest
  exact OwnS.of hq.out ⟨h1.trans (hb.mono h1.size), h2.below hb, h3.below hb, h4.below hb, h5.below (Nat.le_refl _) hb⟩
set_option maxRecDepth 100000 in
set_option maxHeartbeats 16000000 in
theorem envOwn_walk (m : MailD) (vr vb : Value) (w : World) (hr : RdS w vr m.rcpts) (hb : RdB w vb m.body) (hnr : NilOk vr) (hnb : NilOk vb) (hmax : MaxOk w) :
    Calls Tryz.prog 6 #[mailVal m vr vb] w fun e w' => e = .returned (.bool true) ∧ Below w.heap.size w w' := by
  obtain ⟨i0, hi, hz0, hz1, hz2⟩ := info_parts infoU8
  obtain ⟨ar, capr, rfl, hlr, hcr⟩ := hr.form
  obtain ⟨ab, capb, rfl, hlb, hcb⟩ := hb.form
  have hnew := MailAt.new (m := m) hr hb
  have hb0 : Below w.heap.size w (w.alloc (.cells #[.int .i64 m.id, .int .i64 m.parent, .int .i64 m.born, .string (strL m.frm), .slice ar m.rcpts.length capr, .slice ab m.body.length capb] 25)) := (Below.refl _ _).alloc (Nat.le_refl _) _
  obtain ⟨W, hW⟩ : ∃ W, w.alloc (.cells #[.int .i64 m.id, .int .i64 m.parent, .int .i64 m.born, .string (strL m.frm), .slice ar m.rcpts.length capr, .slice ab m.body.length capb] 25) = W := ⟨_, rfl⟩
  rw [hW] at hnew hb0
  have hmaxW := hmax.below hb0
  have hans := fun W' (h : Below W.heap.size W W') => envAns_calls W' (hmaxW.below h)
  have hlight := fun W' (h : Below W.heap.size W W') => light_calls m (.slice ar m.rcpts.length capr) (.slice ab m.body.length capb) W' (hnew.rs.below (Nat.le_refl _) h) (hnew.rb.below (Nat.le_refl _) h)
  obtain ⟨x0, x1, x2, x3, x4, x5⟩ := hnew.cells
  have Hans := Lib.hid hans
  have Hnew := Lib.hid hnew
  have Hb0 := Lib.hid hb0
  have HmaxW := Lib.hid hmaxW
  have Hnr := Lib.hid hnr
  have Hnb := Lib.hid hnb
  have hbi : (m.body.length : Int) ≤ 9223372036854775807 := by omega
  obtain ⟨lt, hlt⟩ : ∃ lt, m.light = lt := ⟨_, rfl⟩
  rw [hlt] at hlight
  have Hlight := Lib.hid hlight
  have Hlt := Lib.hid hlt
  clear hans hnew hb0 hlight hlt hr hb hmax hmaxW hnr hnb
  subst hW
  go_enter Tryz.func6, Tryz.ntmps6
  go_wp2_with fail
  refine (Hlight.out _ (Below.refl _ _)).mono ?_; rintro e w1 ⟨rfl, hb1⟩
  have hb1' := Hb0.out.trans (hb1.mono Hb0.out.size)
  cases lt
  · go_wp2_with fail
    refine (Hans.out _ hb1).mono ?_; rintro e w2 ⟨rfl, hb2⟩
    go_wp2
    go_ret
    exact ⟨rfl, hb1'.trans (hb2.mono hb1'.size)⟩
  · have hsm := small_of_light Hlt.out
    obtain ⟨hl1, hl2, hl3, hl4⟩ := (light_iff m).1 Hlt.out
    have hl1' : m.rcpts.length ≤ 50 := by rcases hl1 with h | h; rw [h]; decide; exact h
    have hm1 := Hnew.out.below hb1
    obtain ⟨gd, hgd⟩ : ∃ gd, m.good = gd := ⟨_, rfl⟩
    have hgood := refGood_calls m (.slice ar m.rcpts.length capr) (.slice ab m.body.length capb) w1 hm1.rs hm1.rb (fun l h => by have := hsm.2 l h; omega) (by have := hsm.1; omega)
    rw [hgd] at hgood
    obtain ⟨y0, y1, y2, y3, y4, y5⟩ := hm1.cells
    have Hgood := Lib.hid hgood
    have Hgd := Lib.hid hgd
    have Hsm := Lib.hid hsm
    clear hgood hgd hsm hm1 hl1 hl2
    go_wp2_with fail
    refine (Hgood.out).mono ?_; rintro e w2 ⟨rfl, hb2⟩
    have hW2 := hb1.trans (hb2.mono hb1.size)
    have hb2' := hb1'.trans (hb2.mono hb1'.size)
    cases gd
    · go_wp2_with fail
      refine (Hans.out _ hW2).mono ?_; rintro e w3 ⟨rfl, hb3⟩
      go_wp2
      go_ret
      exact ⟨rfl, hb2'.trans (hb3.mono hb2'.size)⟩
    · have hm2 := Hnew.out.below hW2
      obtain ⟨z0, z1, z2, z3, z4, z5⟩ := hm2.cells
      by_cases hbig : 1000 < m.body.length
      · have hbgi : (1000 : Int) < (m.body.length : Int) := by omega
        clear hm2
        go_wp2_with fail
        refine (Hans.out _ hW2).mono ?_; rintro e w3 ⟨rfl, hb3⟩
        go_wp2
        go_ret
        exact ⟨rfl, hb2'.trans (hb3.mono hb2'.size)⟩
      · have hbgi : (m.body.length : Int) ≤ 1000 := by omega
        have howc := own_calls m (.slice ar m.rcpts.length capr) (.slice ab m.body.length capb) w2 hm2.rs hm2.rb Hnr.out Hnb.out (by omega) (by omega)
        have hrec := fun W h1 h2 => record_calls m (.slice ar m.rcpts.length capr) (.slice ab m.body.length capb) W h1 h2 Hnb.out Hsm.out Hgd.out
        have hrl := record_length m
        have hin := inner_small m Hsm.out ((good_iff m).1 Hgd.out).2.2.2.1.2 ((good_iff m).1 Hgd.out).2.2.2.2.1
        have hdr := decode_record m Hsm.out Hgd.out []
        rw [List.append_nil] at hdr
        have henc := fun vr vb W h1 h2 h3 h4 h5 h6 => encode_good m vr vb W h1 h2 h3 Hsm.out h4 Hgd.out h5 h6
        have hsame := fun ra ba W h1 h2 h3 h4 => refSame_calls m m ra ba (.slice ar m.rcpts.length capr) (.slice ab m.body.length capb) W h1 h2 h3 h4
        rw [show decide (m = m) = true by simp] at hsame
        generalize hR : m.record = R at henc hrec hrl hdr
        have hRl : R.length ≤ 1000012 := by omega
        have hd := fun v W h1 h2 => envDecode_calls v R W h1 (by omega) h2
        rw [hdr] at hd
        obtain ⟨L, hL⟩ : ∃ L, R.length = L := ⟨_, rfl⟩
        rw [hL] at hd hRl
        have hL0 : 0 < L := by omega
        have hLI : (L : Int) ≤ 1000012 := by omega
        have Howc := Lib.hid howc
        have Henc := Lib.hid henc
        have Hrec := Lib.hid hrec
        have Hd := Lib.hid hd
        have Hsame := Lib.hid hsame
        have HL := Lib.hid hL
        clear howc henc hrec hrl hin hdr hd hsame hR hL hm2
        go_wp2_with fail
        refine (Howc.out).mono ?_; rintro e w3 ⟨vr3, vb3, rfl, hoL, hoT, hb3⟩
        have hW3 := hW2.trans (hb3.mono hW2.size)
        have hb3' := hb2'.trans (hb3.mono hb2'.size)
        obtain ⟨a3, c3, hv3⟩ := own_form0 hoL
        obtain ⟨a3', c3', hv3'⟩ := own_form0 hoT
        subst hv3
        subst hv3'
        have hm4 := MailAt.new (m := m) (rdL_ofOwn s1_len (by decide) hoL) (rdB_ofOwn hoT)
        obtain ⟨w4, hw4⟩ : ∃ w4, w3.alloc (.cells #[.int .i64 m.id, .int .i64 m.parent, .int .i64 m.born, .string (strL m.frm), .slice a3 m.rcpts.length c3, .slice a3' m.body.length c3'] 25) = w4 := ⟨_, rfl⟩
        have hb4 : Below w3.heap.size w3 w4 := by rw [← hw4]; exact (Below.refl _ _).alloc (Nat.le_refl _) _
        have hs4 : w4.heap.size = w3.heap.size + 1 := by rw [← hw4]; simp
        rw [hw4] at hm4
        have hW4 := hW3.trans (hb4.mono hW3.size)
        have hb4' := hb3'.trans (hb4.mono hb3'.size)
        have hnT := nilOk_own hoT
        have hlL := fun k hk => (hoL.lt k hk).2
        have hlT := fun k hk => (hoT.lt k hk).2
        have henc1 := Henc.out (.slice a3 m.rcpts.length c3) (.slice a3' m.body.length c3') w4 hm4.rs hm4.rb hnT (HmaxW.out.below hW4) (fun k hk => by have := hlL k hk; omega) (fun k hk => by have := hlT k hk; omega)
        obtain ⟨q0, q1, q2, q3, q4, q5⟩ := hm4.cells
        have Henc1 := Lib.hid henc1
        have Hm4 := Lib.hid hm4
        have HnT := Lib.hid hnT
        have HlL := Lib.hid hlL
        have HlT := Lib.hid hlT
        have HW4 := Lib.hid hW4
        have Hb4' := Lib.hid hb4'
        have Hs4 := Lib.hid hs4
        clear henc1 hm4 hnT hlL hlT hoL hoT hW4 hb4' hb4 hs4
        subst hw4
        go_wp2_with fail
        refine (Henc1.out).mono ?_; rintro e w5 ⟨v5, rfl, hown5, hb5⟩
        have hW5 := HW4.out.trans (hb5.mono HW4.out.size)
        have hb5' := Hb4'.out.trans (hb5.mono Hb4'.out.size)
        rw [HL.out] at hown5
        obtain ⟨g5, cap5, hv5, hg5, hg5l, hc5, hc5m⟩ := own_form hown5 hL0
        subst hv5
        have hdc := Hd.out _ w5 (rdB_ofOwn hown5) (HmaxW.out.below hW5)
        have Hdc := Lib.hid hdc
        have Hown5 := Lib.hid hown5
        clear hdc hown5
        go_wp2_with fail
        refine (Hdc.out).mono ?_; rintro e w6 ⟨vr6, vb6, rfl, hoL6, hoT6, hb6⟩
        have hoL6 : w6.ownsRow w5.heap.size 9 1 vr6 m.rcpts.length (m.rcpts.flatMap s1) := hoL6
        have hoT6 : w6.ownsRow w5.heap.size 5 1 vb6 m.body.length (m.body.map u8v) := hoT6
        have he : mailVal ((some (m, L)).elim MailD.zero Prod.fst) vr6 vb6 = mailVal m vr6 vb6 := rfl
        have hel : (Option.elim (some (m, L)) 0 Prod.snd : Nat) = L := rfl
        have hsmm : Option.isSome (some (m, L)) = true := rfl
        rw [he, hel, hsmm]
        have hW6 := hW5.trans (hb6.mono hW5.size)
        have hb6' := hb5'.trans (hb6.mono hb5'.size)
        obtain ⟨a6, c6, hv6⟩ := own_form0 hoL6
        obtain ⟨a6', c6', hv6'⟩ := own_form0 hoT6
        subst hv6
        subst hv6'
        obtain ⟨w7, hw7⟩ : ∃ w7, w6.alloc (.cells #[.int .i64 m.id, .int .i64 m.parent, .int .i64 m.born, .string (strL m.frm), .slice a6 m.rcpts.length c6, .slice a6' m.body.length c6'] 25) = w7 := ⟨_, rfl⟩
        have hb7 : Below w6.heap.size w6 w7 := by rw [← hw7]; exact (Below.refl _ _).alloc (Nat.le_refl _) _
        have hblk7 : w7.heap[w6.heap.size]? = some (.cells #[.int .i64 m.id, .int .i64 m.parent, .int .i64 m.born, .string (strL m.frm), .slice a6 m.rcpts.length c6, .slice a6' m.body.length c6'] 25 (0, 0)) := by rw [← hw7]; exact heap_alloc_new w6 _
        have hW7 := hW6.trans (hb7.mono hW6.size)
        have hb7' := hb6'.trans (hb7.mono hb6'.size)
        have hoL7 := own_below hoL6 hb7 (Nat.le_refl _)
        have hoT7 := own_below hoT6 hb7 (Nat.le_refl _)
        have hown7 := own_below (own_below Hown5.out hb6 (Nat.le_refl _)) hb7 (Nat.le_refl _)
        have hN7 : Below _ _ w7 := hb5.trans ((hb6.trans (hb7.mono hb6.size)).mono hb5.size)
        have hs5 := hb5.size
        have hs6 := hb6.size
        obtain ⟨X, hX⟩ : ∃ X, w6.heap.size = X := ⟨_, rfl⟩
        obtain ⟨N, hN⟩ : ∃ N, w3.heap.size = N := ⟨_, rfl⟩
        have hg5X : g5 < X := by omega
        have hg5N : N < g5 := by have := Hs4.out; omega
        rw [hX] at hblk7
        have hzs : ∃ zs : List UInt8, zs.length = L ∧ w7.ownsRow (N + 1) 5 1 (.slice (some ⟨g5, 0, none⟩) L cap5) L (zs.map u8v) := ⟨R, HL.out, by have := Hs4.out; exact own_mono hown7 (by omega)⟩
        have Hzs := Lib.hid hzs
        have Hblk7 := Lib.hid hblk7
        have HoL7 := Lib.hid hoL7
        have HoT7 := Lib.hid hoT7
        have HN7 := Lib.hid hN7
        have HW7 := Lib.hid hW7
        have Hb7' := Lib.hid hb7'
        have Hb5s := Lib.hid (show g5 < w5.heap.size from hg5l)
        have HX := Lib.hid hX
        have HNd := Lib.hid hN
        have Hw7 := Lib.hid hw7
        clear he hel hsmm hoL6 hoT6 hoL7 hoT7 hown7 hblk7 hN7 hW7 hb7' hzs Hown5 hb7 hW6 hb6' hW5 hb5' hw7
        go_wp2
        rw [Hw7.out]
        try simp only [hX]
        clear hX hN
        go_loopw [9] (fun i wr => ∃ j : Nat, j ≤ L ∧ i = .int .i64 j ∧ (∃ zs : List UInt8, zs.length = L ∧ wr.ownsRow (N + 1) 5 1 (.slice (some ⟨g5, 0, none⟩) L cap5) L (zs.map u8v)) ∧ Keeps (fun k => k = g5) w7 wr) (fun i _ => L - (intOf i).toNat)
        case atStart => exact ⟨0, Nat.zero_le _, rfl, Hzs.out, Keeps.refl _ _⟩
        case round =>
          obtain ⟨j, hj, rfl, ⟨zs, hzl, hown⟩, hK⟩ := hrel
          by_cases hlt : j < L
          · have hlti : (j : Int) < (L : Int) := by omega
            have hj0 : (0 : Int) ≤ (j : Int) := by omega
            obtain ⟨x, hx⟩ : ∃ x, zs[j]? = some x := ⟨_, List.getElem?_eq_getElem (by omega)⟩
            have hcell : wr.cell? ⟨g5, j, none⟩ = some (.int .u8 x.toNat) := by rw [hown.cellAt j (by omega), List.getElem?_map, hx]; rfl
            have hfz := hown.frozenAt j
            have hxor : bits .xor .u8 (x.toNat : Int) 255 = ((x ^^^ 255).toNat : Int) := bits_xor8 x 255
            generalize x ^^^ 255 = y at hxor
            have hst := (hown.stored j (u8v y)).1
            rw [← List.map_set] at hst
            have Hst := Lib.hid hst
            have Hzl := Lib.hid (show (zs.set j y).length = L by rw [List.length_set, hzl])
            clear hst hown hzl hx
            go_wp2
            have hKs := Keeps.setCell (F := fun k => k = g5) wr ⟨g5, j, none⟩ (.int .u8 y.toNat) rfl
            go_roundw
            case rel => exact ⟨j + 1, by omega, by go_num, ⟨_, Hzl.out, Hst.out⟩, hK.trans hKs⟩
            case measure => simp [intOf] <;> omega
          · have hji : ¬ ((j : Int) < (L : Int)) := by omega
            have hoLr := own_keeps HoL7.out hK (fun k hk e => by have := own_base HoL7.out k hk; have := Hb5s.out; omega)
            have hoTr := own_keeps HoT7.out hK (fun k hk e => by have := own_base HoT7.out k hk; have := Hb5s.out; omega)
            have hmX : MailAt wr X m (.slice a6 m.rcpts.length c6) (.slice a6' m.body.length c6') := ⟨hK.heap Hblk7.out (by omega), rdL_ofOwn s1_len (by decide) hoLr, rdB_ofOwn hoTr⟩
            have hsN := HN7.out.size
            have hKN := hK.below (B := w3.heap.size + 1) (fun k hk => by have := HNd.out; omega) (by have := Hs4.out; omega)
            have hbN : Below _ _ wr := HN7.out.trans (by rw [Hs4.out]; exact hKN)
            have hmN := Hm4.out.below hbN
            rw [HNd.out] at hmN
            have hKW := hK.below (B := (w.alloc (.cells #[.int .i64 m.id, .int .i64 m.parent, .int .i64 m.born, .string (strL m.frm), .slice ar m.rcpts.length capr, .slice ab m.body.length capb] 25)).heap.size) (fun k hk => by have := hW3.size; have := HNd.out; omega) HW7.out.size
            have hWr := HW7.out.trans hKW
            have hmM := Hnew.out.below hWr
            have hbr' := Hb0.out.trans (hWr.mono Hb0.out.size)
            obtain ⟨p0, p1, p2, p3, p4, p5⟩ := hmN.cells
            have henc2 := Henc.out (.slice a3 m.rcpts.length c3) (.slice a3' m.body.length c3') wr hmN.rs hmN.rb HnT.out (HmaxW.out.below hWr) (fun k hk => by have := HlL.out k hk; have := hbN.size; have := Hs4.out; omega) (fun k hk => by have := HlT.out k hk; have := hbN.size; have := Hs4.out; omega)
            have Henc2 := Lib.hid henc2
            have HmX := Lib.hid hmX
            have HmN := Lib.hid hmN
            have HmM := Lib.hid hmM
            have HWr := Lib.hid hWr
            have Hbr' := Lib.hid hbr'
            clear henc2 hmX hmN hmM hWr hbr' hKW hbN hKN hoLr hoTr hown
            go_wp2_with fail
            refine (Henc2.out).mono ?_; rintro e w9 ⟨v9, rfl, hown9, hb9⟩
            have hWr9 := HWr.out.trans (hb9.mono HWr.out.size)
            have hb9' := Hbr'.out.trans (hb9.mono Hbr'.out.size)
            obtain ⟨a9, c9, hv9⟩ := own_form0 hown9
            subst hv9
            have hrest : OwnRest w9 w.heap.size N X m (.slice ar m.rcpts.length capr) (.slice ab m.body.length capb) (.slice a3 m.rcpts.length c3) (.slice a3' m.body.length c3') (.slice a6 m.rcpts.length c6) (.slice a6' m.body.length c6') (.slice a9 R.length c9) R w9 := ⟨Below.refl _ _, HmM.out.below hb9, HmN.out.below hb9, HmX.out.below hb9, rdB_ofOwn hown9⟩
            have hcvs := fun W v' (h : RdB W v' R) => run_strL h
            generalize hsr : strL R = sr at *
            have Hsr := Lib.hid hsr
            have hS := OwnS.go Hsr ((Below.refl _ _).drew) (OwnS.of hsr hrest)
            have HS := Lib.hid hS
            have Hcvs := Lib.hid hcvs
            have Hans9 : Hid (∀ W', Below w9.heap.size w9 W' → Calls Tryz.prog 13 #[] W' fun e w' => e = .returned (.bool true) ∧ Below W'.heap.size W' w') := fun W' h => Hans.out W' (hWr9.trans (h.mono hWr9.size))
            have Hfin9 : Hid (∀ W', Below w9.heap.size w9 W' → Below w.heap.size w W') := fun W' h => hb9'.trans (h.mono hb9'.size)
            clear hsr hS hcvs hrest hown9 hWr9 hb9'
            go_wp2
            try rw [HNd.out]
            refine wp_region_noPanic ?_
            refine wp_region_held_drew (S := (fun w' => w'.cell? ⟨w.heap.size, 0, none⟩ = some (.int .i64 m.id) ∧ w'.cell? ⟨w.heap.size, 1, none⟩ = some (.int .i64 m.parent) ∧ w'.cell? ⟨w.heap.size, 2, none⟩ = some (.int .i64 m.born) ∧ w'.cell? ⟨w.heap.size, 3, none⟩ = some (.string (strL m.frm)) ∧ w'.cell? ⟨w.heap.size, 4, none⟩ = some (.slice ar m.rcpts.length capr) ∧ w'.cell? ⟨w.heap.size, 5, none⟩ = some (.slice ab m.body.length capb) ∧ w'.cell? ⟨N, 0, none⟩ = some (.int .i64 m.id) ∧ w'.cell? ⟨N, 1, none⟩ = some (.int .i64 m.parent) ∧ w'.cell? ⟨N, 2, none⟩ = some (.int .i64 m.born) ∧ w'.cell? ⟨N, 3, none⟩ = some (.string (strL m.frm)) ∧ w'.cell? ⟨N, 4, none⟩ = some (.slice a3 m.rcpts.length c3) ∧ w'.cell? ⟨N, 5, none⟩ = some (.slice a3' m.body.length c3') ∧ w'.cell? ⟨X, 0, none⟩ = some (.int .i64 m.id) ∧ w'.cell? ⟨X, 1, none⟩ = some (.int .i64 m.parent) ∧ w'.cell? ⟨X, 2, none⟩ = some (.int .i64 m.born) ∧ w'.cell? ⟨X, 3, none⟩ = some (.string (strL m.frm)) ∧ w'.cell? ⟨X, 4, none⟩ = some (.slice a6 m.rcpts.length c6) ∧ w'.cell? ⟨X, 5, none⟩ = some (.slice a6' m.body.length c6') ∧ (convert 23 9 (.slice a9 R.length c9)).run Tryz.prog w' = .ok (.string sr) w' ∧ OwnRest w9 w.heap.size N X m (.slice ar m.rcpts.length capr) (.slice ab m.body.length capb) (.slice a3 m.rcpts.length c3) (.slice a3' m.body.length c3') (.slice a6 m.rcpts.length c6) (.slice a6' m.body.length c6') (.slice a9 R.length c9) R w')) (by kernel_rfl) (by first | with_reducible exact HS.out | with_reducible assumption) (fun hHeld => ?_)
            refine wpAnyH_ready (rs := [0]) (by kernel_rfl) (by simp) ?_
            refine AllReadyH.cons (o := _) (by simp only [List.getElem?_toArray, List.getElem?_cons_succ, List.getElem?_cons_zero]; rfl) (fun K hK => ?_) AllReadyH.nil
            go_simp
            (go_at_call 13; refine (Hans9.out _ HS.out.rest.1).mono ?_; rintro e wa ⟨rfl, hba⟩; have hSa := OwnS.go Hsr hba HS.out)
            refine hK.out _ _ (by (try dsimp only); first | with_reducible exact HS.out | with_reducible assumption) (fun hHeld => ?_)
            clear hK K
            try simp only [Act.put, List.setIfInBounds_toArray, List.set_cons_zero, List.set_cons_succ]
            refine wpAnyH_take (i := 1) (oi := _) (v := ?_) (by simp only [List.getElem?_toArray, List.getElem?_cons_succ, List.getElem?_cons_zero]; rfl) (by kernel_rfl) (by kernel_rfl) (by kernel_rfl) (fun _ _ _ h => h) (Or.inl ⟨by rfl, ?_⟩) (by assumption) ?_
            rotate_left
            · intro w hSw; (try dsimp only at hSw); go_simp; (try with_reducible rfl)
            try simp only [Act.put, List.setIfInBounds_toArray, List.set_cons_zero, List.set_cons_succ]
            refine wpAnyH_take (i := 2) (oi := _) (v := ?_) (by simp only [List.getElem?_toArray, List.getElem?_cons_succ, List.getElem?_cons_zero]; rfl) (by kernel_rfl) (by kernel_rfl) (by kernel_rfl) (fun _ _ _ h => h) (Or.inl ⟨by rfl, ?_⟩) (by assumption) ?_
            rotate_left
            · intro w hSw; (try dsimp only at hSw); go_simp; (try with_reducible rfl)
            try simp only [Act.put, List.setIfInBounds_toArray, List.set_cons_zero, List.set_cons_succ]
            refine wpAnyH_take (i := 3) (oi := _) (v := ?_) (by simp only [List.getElem?_toArray, List.getElem?_cons_succ, List.getElem?_cons_zero]; rfl) (by kernel_rfl) (by kernel_rfl) (by kernel_rfl) (fun _ _ _ h => h) (Or.inl ⟨by rfl, ?_⟩) (by assumption) ?_
            rotate_left
            · intro w hSw; (try dsimp only at hSw); go_simp; (try with_reducible rfl)
            try simp only [Act.put, List.setIfInBounds_toArray, List.set_cons_zero, List.set_cons_succ]
            refine wpAnyH_take (i := 4) (oi := _) (v := ?_) (by simp only [List.getElem?_toArray, List.getElem?_cons_succ, List.getElem?_cons_zero]; rfl) (by kernel_rfl) (by kernel_rfl) (by kernel_rfl) (fun _ _ _ h => h) (Or.inl ⟨by rfl, ?_⟩) (by assumption) ?_
            rotate_left
            · intro w hSw; (try dsimp only at hSw); go_simp; (try with_reducible rfl)
            try simp only [Act.put, List.setIfInBounds_toArray, List.set_cons_zero, List.set_cons_succ]
            refine wpAnyH_take (i := 5) (oi := _) (v := ?_) (by simp only [List.getElem?_toArray, List.getElem?_cons_succ, List.getElem?_cons_zero]; rfl) (by kernel_rfl) (by kernel_rfl) (by kernel_rfl) (fun _ _ _ h => h) (Or.inl ⟨by rfl, ?_⟩) (by assumption) ?_
            rotate_left
            · intro w hSw; (try dsimp only at hSw); go_simp; (try with_reducible rfl)
            try simp only [Act.put, List.setIfInBounds_toArray, List.set_cons_zero, List.set_cons_succ]
            refine wpAnyH_take (i := 6) (oi := _) (v := ?_) (by simp only [List.getElem?_toArray, List.getElem?_cons_succ, List.getElem?_cons_zero]; rfl) (by kernel_rfl) (by kernel_rfl) (by kernel_rfl) (fun _ _ _ h => h) (Or.inl ⟨by rfl, ?_⟩) (by assumption) ?_
            rotate_left
            · intro w hSw; (try dsimp only at hSw); go_simp; (try with_reducible rfl)
            try simp only [Act.put, List.setIfInBounds_toArray, List.set_cons_zero, List.set_cons_succ]
            refine wpAnyH_ready (rs := [7]) (by kernel_rfl) (by simp) ?_
            refine AllReadyH.cons (o := _) (by simp only [List.getElem?_toArray, List.getElem?_cons_succ, List.getElem?_cons_zero]; rfl) (fun K hK => ?_) AllReadyH.nil
            go_simp
            (go_at_call 20; refine (Hsame.out _ _ _ hSa.rest.2.2.1.rs hSa.rest.2.2.1.rb hSa.rest.2.1.rs hSa.rest.2.1.rb).mono ?_; rintro e wb ⟨rfl, hbb⟩; have hSb := OwnS.go Hsr hbb hSa)
            refine hK.out _ _ (by (try dsimp only); first | with_reducible exact HS.out | with_reducible assumption) (fun hHeld => ?_)
            clear hK K
            try simp only [Act.put, List.setIfInBounds_toArray, List.set_cons_zero, List.set_cons_succ]
            refine wpAnyH_take (i := 8) (oi := _) (v := ?_) (by simp only [List.getElem?_toArray, List.getElem?_cons_succ, List.getElem?_cons_zero]; rfl) (by kernel_rfl) (by kernel_rfl) (by kernel_rfl) (fun _ _ _ h => h) (Or.inl ⟨by rfl, ?_⟩) (by assumption) ?_
            rotate_left
            · intro w hSw; (try dsimp only at hSw); go_simp; (try with_reducible rfl)
            try simp only [Act.put, List.setIfInBounds_toArray, List.set_cons_zero, List.set_cons_succ]
            refine wpAnyH_take (i := 9) (oi := _) (v := ?_) (by simp only [List.getElem?_toArray, List.getElem?_cons_succ, List.getElem?_cons_zero]; rfl) (by kernel_rfl) (by kernel_rfl) (by kernel_rfl) (fun _ _ _ h => h) (Or.inl ⟨by rfl, ?_⟩) (by assumption) ?_
            rotate_left
            · intro w hSw; (try dsimp only at hSw); go_simp; (try with_reducible rfl)
            try simp only [Act.put, List.setIfInBounds_toArray, List.set_cons_zero, List.set_cons_succ]
            refine wpAnyH_take (i := 10) (oi := _) (v := ?_) (by simp only [List.getElem?_toArray, List.getElem?_cons_succ, List.getElem?_cons_zero]; rfl) (by kernel_rfl) (by kernel_rfl) (by kernel_rfl) (fun _ _ _ h => h) (Or.inl ⟨by rfl, ?_⟩) (by assumption) ?_
            rotate_left
            · intro w hSw; (try dsimp only at hSw); go_simp; (try with_reducible rfl)
            try simp only [Act.put, List.setIfInBounds_toArray, List.set_cons_zero, List.set_cons_succ]
            refine wpAnyH_take (i := 11) (oi := _) (v := ?_) (by simp only [List.getElem?_toArray, List.getElem?_cons_succ, List.getElem?_cons_zero]; rfl) (by kernel_rfl) (by kernel_rfl) (by kernel_rfl) (fun _ _ _ h => h) (Or.inl ⟨by rfl, ?_⟩) (by assumption) ?_
            rotate_left
            · intro w hSw; (try dsimp only at hSw); go_simp; (try with_reducible rfl)
            try simp only [Act.put, List.setIfInBounds_toArray, List.set_cons_zero, List.set_cons_succ]
            refine wpAnyH_ready (rs := [12]) (by kernel_rfl) (by simp) ?_
            refine AllReadyH.cons (o := _) (by simp only [List.getElem?_toArray, List.getElem?_cons_succ, List.getElem?_cons_zero]; rfl) (fun K hK => ?_) AllReadyH.nil
            go_simp
            (go_at_call 20; refine (Hsame.out _ _ _ hSb.rest.2.2.2.1.rs hSb.rest.2.2.2.1.rb hSb.rest.2.1.rs hSb.rest.2.1.rb).mono ?_; rintro e wc ⟨rfl, hbc⟩; have hSc := OwnS.go Hsr hbc hSb)
            refine hK.out _ _ (by (try dsimp only); first | with_reducible exact HS.out | with_reducible assumption) (fun hHeld => ?_)
            clear hK K
            try simp only [Act.put, List.setIfInBounds_toArray, List.set_cons_zero, List.set_cons_succ]
            refine wpAnyH_take (i := 13) (oi := _) (v := ?_) (by simp only [List.getElem?_toArray, List.getElem?_cons_succ, List.getElem?_cons_zero]; rfl) (by kernel_rfl) (by kernel_rfl) (by kernel_rfl) (fun _ _ _ h => h) (Or.inl ⟨by rfl, ?_⟩) (by assumption) ?_
            rotate_left
            · intro w hSw; (try dsimp only at hSw); go_simp; (try with_reducible rfl)
            try simp only [Act.put, List.setIfInBounds_toArray, List.set_cons_zero, List.set_cons_succ]
            refine wpAnyH_take (i := 14) (oi := _) (v := ?_) (by simp only [List.getElem?_toArray, List.getElem?_cons_succ, List.getElem?_cons_zero]; rfl) (by kernel_rfl) (by kernel_rfl) (by kernel_rfl) (fun _ _ _ h => h) (Or.inl ⟨by rfl, ?_⟩) (by assumption) ?_
            rotate_left
            · intro w hSw; (try dsimp only at hSw); go_simp; (try with_reducible rfl)
            try simp only [Act.put, List.setIfInBounds_toArray, List.set_cons_zero, List.set_cons_succ]
            refine wpAnyH_take (i := 15) (oi := _) (v := ?_) (by simp only [List.getElem?_toArray, List.getElem?_cons_succ, List.getElem?_cons_zero]; rfl) (by kernel_rfl) (by kernel_rfl) (by kernel_rfl) (fun _ _ _ h => h) (Or.inl ⟨by rfl, ?_⟩) (by assumption) ?_
            rotate_left
            · intro w hSw; (try dsimp only at hSw); go_simp; (try with_reducible rfl)
            try simp only [Act.put, List.setIfInBounds_toArray, List.set_cons_zero, List.set_cons_succ]
            refine wpAnyH_take (i := 16) (oi := _) (v := ?_) (by simp only [List.getElem?_toArray, List.getElem?_cons_succ, List.getElem?_cons_zero]; rfl) (by kernel_rfl) (by kernel_rfl) (by kernel_rfl) (fun _ _ _ h => h) (Or.inl ⟨by rfl, ?_⟩) (by assumption) ?_
            rotate_left
            · intro w hSw; (try dsimp only at hSw); go_simp; (try with_reducible rfl)
            try simp only [Act.put, List.setIfInBounds_toArray, List.set_cons_zero, List.set_cons_succ]
            refine wpAnyH_take (i := 17) (oi := _) (v := ?_) (by simp only [List.getElem?_toArray, List.getElem?_cons_succ, List.getElem?_cons_zero]; rfl) (by kernel_rfl) (by kernel_rfl) (by kernel_rfl) (fun _ _ _ h => h) (Or.inl ⟨by rfl, ?_⟩) (by assumption) ?_
            rotate_left
            · intro w hSw; (try dsimp only at hSw); go_simp; (try with_reducible rfl)
            try simp only [Act.put, List.setIfInBounds_toArray, List.set_cons_zero, List.set_cons_succ]
            refine wpAnyH_ready (rs := [18]) (by kernel_rfl) (by simp) ?_
            refine AllReadyH.cons (o := _) (by simp only [List.getElem?_toArray, List.getElem?_cons_succ, List.getElem?_cons_zero]; rfl) (fun K hK => ?_) AllReadyH.nil
            go_simp
            (go_at_call 19; refine (Hrec.out _ hSc.rest.2.1.rs hSc.rest.2.1.rb).mono ?_; rintro e wd ⟨vd, rfl, hod, hbd⟩; have hSd := OwnS.go Hsr hbd hSc; have hcd := Hcvs.out _ _ (rdB_ofOwn hod); have hfin := Hfin9.out _ hSd.rest.1)
            refine hK.out _ _ (by (try dsimp only); first | with_reducible exact HS.out | with_reducible assumption) (fun hHeld => ?_)
            clear hK K
            try simp only [Act.put, List.setIfInBounds_toArray, List.set_cons_zero, List.set_cons_succ]
            refine wpAnyH_ready (rs := [19]) (by kernel_rfl) (by simp) ?_
            refine AllReadyH.cons (o := _) (by simp only [List.getElem?_toArray, List.getElem?_cons_succ, List.getElem?_cons_zero]; rfl) (fun K hK => ?_) AllReadyH.nil
            go_simp
            refine hK.out _ _ (by (try dsimp only); first | with_reducible exact HS.out | with_reducible assumption) (fun hHeld => ?_)
            clear hK K
            try simp only [Act.put, List.setIfInBounds_toArray, List.set_cons_zero, List.set_cons_succ]
            refine wpAnyH_take (i := 20) (oi := _) (v := ?_) (by simp only [List.getElem?_toArray, List.getElem?_cons_succ, List.getElem?_cons_zero]; rfl) (by kernel_rfl) (by kernel_rfl) (by kernel_rfl) (fun _ _ _ h => h) (Or.inl ⟨by rfl, ?_⟩) (by assumption) ?_
            rotate_left
            · intro w hSw; (try dsimp only at hSw); go_simp; (try with_reducible rfl)
            try simp only [Act.put, List.setIfInBounds_toArray, List.set_cons_zero, List.set_cons_succ]
            refine wpAnyH_take (i := 21) (oi := _) (v := ?_) (by simp only [List.getElem?_toArray, List.getElem?_cons_succ, List.getElem?_cons_zero]; rfl) (by kernel_rfl) (by kernel_rfl) (by kernel_rfl) (fun _ _ _ h => h) (Or.inl ⟨by rfl, ?_⟩) (by assumption) ?_
            rotate_left
            · intro w hSw; (try dsimp only at hSw); go_simp; (try with_reducible rfl)
            try simp only [Act.put, List.setIfInBounds_toArray, List.set_cons_zero, List.set_cons_succ]
            refine wpAnyH_take (i := 22) (oi := _) (v := ?_) (by simp only [List.getElem?_toArray, List.getElem?_cons_succ, List.getElem?_cons_zero]; rfl) (by kernel_rfl) (by kernel_rfl) (by kernel_rfl) (fun _ _ _ h => h) (Or.inl ⟨by rfl, ?_⟩) (by assumption) ?_
            rotate_left
            · intro w hSw; (try dsimp only at hSw); go_simp; (try with_reducible rfl)
            try simp only [Act.put, List.setIfInBounds_toArray, List.set_cons_zero, List.set_cons_succ]
            refine wpAnyH_done (by kernel_rfl) ?_ _
            refine NoPanic.normal ?_
            go_wp2
            go_ret
            exact ⟨rfl, hfin⟩
end Go.Proofs.YtjddicoigbidlaaGreatDoor

/-
  The walks of store.Where, ready, good.
  The walks of env.sum and pillarboxref01.Bytes.
  A mail's record, as plain bytes; a Writer step by step.
-/
import Derived.Test.YtffnbkmigapmjaaGreatDoorS10
import Derived.Test.YtffnbkmigapmjaaGreatDoorS12
import Derived.Test.YtffnbkmigapmjaaGreatDoorS15
import Derived.Test.YtffnbkmigapmjaaGreatDoorS21
import Derived.Test.YtffnbkmigapmjaaGreatDoorS31
set_option linter.unusedSimpArgs false
set_option linter.unusedVariables false
set_option maxRecDepth 100000
namespace Go.Proofs.YtffnbkmigapmjaaGreatDoor
open Go.RowKit Go.Maps
def Wh.at (l : Wh) (n : Int) : UInt8 := (l.look n).getD 0
set_option maxHeartbeats 4000000 in
theorem where_calls (s : Nat) (d : StoD) (ρ : Rho) (w : World) (h : StoAt w s d ρ) (id : Int) (hid : -9223372036854775808 ≤ id ∧ id ≤ 9223372036854775807) :
    Calls Tryz.prog 18 #[.pointer (some ⟨s, 0, none⟩), .int .i64 id] w fun e w' => e = .returned (.int .u8 ((d.whr.at id).toNat : Int)) ∧ Below w.heap.size w w' := by
  have hb : Below w.heap.size w w.drew := (Below.refl _ _).drew
  have c2 := (cells4 h.hd).1.2.2.1
  have hl := wh_look h.whr id hid
  have hl2 := wh_look (h.below hb).whr id hid
  have Hq : Hid (d.whr.at id = (d.whr.look id).getD 0) := Lib.hid rfl
  obtain ⟨qv, hqv⟩ : ∃ qv : Nat, ((d.whr.look id).getD 0).toNat = qv := ⟨_, rfl⟩
  rw [hqv] at hl hl2
  have Hqv := Lib.hid hqv
  have Hb := Lib.hid hb
  clear h hid hqv hb
  go_enter Tryz.func18, Tryz.ntmps18
  go_wp2
  try go_region
  all_goals try go_wp2
  all_goals
    go_ret
    rw [Hq.out, Hqv.out]
    first | exact ⟨rfl, Hb.out⟩ | exact ⟨rfl, Below.refl _ _⟩
set_option maxHeartbeats 4000000 in
theorem where_nil (id : Int) (w : World) :
    Calls Tryz.prog 18 #[.pointer none, .int .i64 id] w fun e w' => e = .returned (.int .u8 0) ∧ Below w.heap.size w w' := by
  go_enter Tryz.func18, Tryz.ntmps18
  go_wp2
  go_ret
  exact ⟨rfl, Below.refl _ _⟩
set_option maxHeartbeats 4000000 in
theorem sready_calls (s : Nat) (d : StoD) (ρ : Rho) (w : World) (h : StoAt w s d ρ) :
    Calls Tryz.prog 64 #[.pointer (some ⟨s, 0, none⟩)] w fun e w' => e = .returned (.int .i64 (if d.down then 2 else 0)) ∧ Below w.heap.size w w' := by
  have c3 := (cells4 h.hd).1.2.2.2
  cases hd : d.down with
  | true =>
    rw [hd] at c3
    clear h hd
    go_enter Tryz.func64, Tryz.ntmps64
    go_wp2
    go_ret
    exact ⟨rfl, Below.refl _ _⟩
  | false =>
    rw [hd] at c3
    clear h hd
    go_enter Tryz.func64, Tryz.ntmps64
    go_wp2
    go_ret
    exact ⟨rfl, Below.refl _ _⟩
set_option maxHeartbeats 4000000 in
theorem sready_nil (w : World) :
    Calls Tryz.prog 64 #[.pointer none] w fun e w' => e = .returned (.int .i64 1) ∧ Below w.heap.size w w' := by
  go_enter Tryz.func64, Tryz.ntmps64
  go_wp2
  go_ret
  exact ⟨rfl, Below.refl _ _⟩
end Go.Proofs.YtffnbkmigapmjaaGreatDoor

set_option linter.unusedSimpArgs false
set_option linter.unusedVariables false
namespace Go.Proofs.YtffnbkmigapmjaaGreatDoor
open Go.RowKit
set_option maxRecDepth 100000 in
set_option maxHeartbeats 1000000 in
theorem envSum_calls (v : Value) (bs : List UInt8) (w : World) (hv : RdB w v bs) :
    Calls Tryz.prog 144 #[v] w (RowDone w (be4 (PbCrc.sum bs))) := by
  go_enter Tryz.func144, Tryz.ntmps144
  go_wp2_with fail
  refine (crcSum_calls _ _ _ hv).mono ?_; rintro e w1 ⟨rfl, hb1⟩
  obtain ⟨c, hcs⟩ : ∃ c, PbCrc.sum bs = c := ⟨_, rfl⟩
  rw [hcs]
  have hlt := c.isLt
  have hc0 : (0 : Int) ≤ (c.toNat : Int) := by omega
  have u24 : IntKind.u8.wrap ((c.toNat : Int) / 16777216) = ((UInt8.ofNat (c.toNat / 2 ^ 24)).toNat : Int) := wrap_u8_shr c.toNat 24
  have u16 : IntKind.u8.wrap ((c.toNat : Int) / 65536) = ((UInt8.ofNat (c.toNat / 2 ^ 16)).toNat : Int) := wrap_u8_shr c.toNat 16
  have u8' : IntKind.u8.wrap ((c.toNat : Int) / 256) = ((UInt8.ofNat (c.toNat / 2 ^ 8)).toNat : Int) := wrap_u8_shr c.toNat 8
  have u0 : IntKind.u8.wrap (c.toNat : Int) = ((UInt8.ofNat c.toNat).toNat : Int) := wrap_u8_nat c.toNat
  have hfin : be4 (PbCrc.sum bs) = [UInt8.ofNat (c.toNat / 2 ^ 24), UInt8.ofNat (c.toNat / 2 ^ 16), UInt8.ofNat (c.toNat / 2 ^ 8), UInt8.ofNat c.toNat] := by rw [hcs]; rfl
  generalize UInt8.ofNat (c.toNat / 2 ^ 24) = b0 at u24 hfin
  generalize UInt8.ofNat (c.toNat / 2 ^ 16) = b1 at u16 hfin
  generalize UInt8.ofNat (c.toNat / 2 ^ 8) = b2 at u8' hfin
  generalize UInt8.ofNat c.toNat = b3 at u0 hfin
  have Hfin := Lib.hid hfin
  clear hfin hcs
  go_wp2
  go_ret
  refine ⟨_, rfl, by rw [Hfin.out]; exact own_mono (World.ownsRow_lit w1 #[u8v b0, u8v b1, u8v b2, u8v b3] 4 (Nat.le_refl _) (by decide) rfl) hb1.size, hb1.alloc hb1.size _⟩
set_option maxRecDepth 100000 in
set_option maxHeartbeats 1000000 in
theorem refBytes_calls (vb : Value) (data : List UInt8) (w : World) (hd : RdB w vb data) (hnil : NilOk vb) (hlen : data.length ≤ 1099511627776) :
    Calls Tryz.prog 124 #[vb] w (RowDone w (lenB data)) := by
  obtain ⟨i0, hi, hz0, hz1, hz2⟩ := info_parts infoU8
  obtain ⟨a, cap, rfl, hlc, hcap⟩ := hd.form
  have hnum := refNum8 data.length (by omega) w
  have hone := bb1_one data
  have Hone := Lib.hid hone
  have Hnum := Lib.hid hnum
  have Hnil := Lib.hid hnil
  clear hone hnum hnil
  go_enter Tryz.func124, Tryz.ntmps124
  go_wp2_with fail
  refine (Hnum.out).mono ?_; rintro e w1 ⟨g, cp, rfl, hown1, hb1, hg1⟩
  have hsrc := rdLB (hd.below (Nat.le_refl _) hb1)
  have hm1 : 8 + data.length ≤ maxLen := by show _ ≤ 9223372036854775807; omega
  have hm2 : (8 + data.length) * 1 ≤ 140737488355328 := by omega
  have hbs := hb1.size
  go_wp2_with (at_builtin; go_must (refine wpList_append_any bb1_len (by decide) rfl (.tmp 5) (.tmp 6) 22 rfl w.heap.size 5 i0 (.int .u8 0) 1 Tryz.underlying22 hi hz0 hz1 hz2 rfl _ _ _ rfl hown1 _ data rfl hsrc Hnil.out Hone.out hm1 hm2 hbs ?_); rintro v2 w2 hown2 hg2 _)
  go_ret
  refine ⟨v2, rfl, ?_, Below.grown hb1 hg2 hbs (fun k hk => own_base hown1 k hk)⟩
  rw [bb1_flat, ← List.map_append] at hown2
  have e : (lenB data).length = 8 + data.length := by rw [lenB, List.length_append, num8_length]
  rw [e]; exact hown2
end Go.Proofs.YtffnbkmigapmjaaGreatDoor

set_option linter.unusedSimpArgs false
set_option linter.unusedVariables false
namespace Go.Proofs.YtffnbkmigapmjaaGreatDoor
open Go.RowKit
theorem nilOk_own {w : World} {base : Nat} {e : TypeId} {size : Nat} {v : Value} {n : Nat} {xs : List Value} (h : w.ownsRow base e size v n xs) : NilOk v := by
  obtain ⟨_, ⟨h2, h3⟩ | ⟨g, cap, cur, hv', _⟩⟩ := h
  · intro l c e; rw [e] at h2; cases h2; exact ⟨rfl, rfl⟩
  · intro l c e; rw [e] at hv'; cases hv'
/-- What is summed of a mail. -/
def MailD.inner (m : MailD) : List UInt8 :=
  ((((num8 m.id.toNat ++ num8 m.parent.toNat ++ num8 m.born.toNat) ++ lenB m.frm) ++ num8 m.rcpts.length) ++ m.rcpts.flatMap lenB) ++ lenB m.body
/-- A mail's record. -/
def MailD.record (m : MailD) : List UInt8 := lenB m.inner ++ be4 (PbCrc.sum m.inner)
theorem lenB_length (l : List UInt8) : (lenB l).length = 8 + l.length := by rw [lenB, List.length_append, num8_length]
theorem flat_lenB_le (ls : List (List UInt8)) (k : Nat) (h : ∀ l ∈ ls, l.length ≤ k) : (ls.flatMap lenB).length ≤ ls.length * (8 + k) := by
  induction ls with
  | nil => simp
  | cons x xs ih =>
    rw [List.flatMap_cons, List.length_append, lenB_length, List.length_cons, Nat.succ_mul]
    have := ih (fun l hl => h l (List.mem_cons_of_mem _ hl))
    have := h x List.mem_cons_self
    omega
/-- A text turned to bytes: a row that is new. -/
theorem conv_text (l : List UInt8) (hs : l.length ≤ 4294967280) (w : World) :
    ∃ C W, (convert 9 22 (.string (strL l))).run Tryz.prog w = .ok (.slice (some ⟨w.heap.size, 0, none⟩) l.length C) W ∧ RdB W (.slice (some ⟨w.heap.size, 0, none⟩) l.length C) l ∧ Below w.heap.size w W := by
  have h := run_bytes_of_string (P := Tryz.prog) w 9 22 5 (strL l) Tryz.underlying9 Tryz.underlying22 Tryz.underlying5
  rw [strL_size] at h
  have hcm : grownCap w l.length 0 5 ≤ 9223372036854775807 := grownCap_le_maxLen w l.length 0 5 (by show _ ≤ 9223372036854775807; omega)
  refine ⟨_, _, h, ?_, (Below.refl _ _).drew.alloc (Nat.le_refl _) _⟩
  by_cases hl : l = []
  · subst hl; exact .inl ⟨_, _, rfl, hcm, rfl⟩
  · refine .inr ⟨_, 0, _, rfl, hl, grownCap_ge _ _ _ _, hcm, by simp [World.alloc], fun j x hx => ?_⟩
    have hi := (List.getElem?_eq_some_iff.1 hx).1
    have hbl : (w.drew.alloc (.cells (bytesRow (strL l) (grownCap w l.length 0 5)) 5 ((bytesRow (strL l) (grownCap w l.length 0 5)).size, (bytesRow (strL l) (grownCap w l.length 0 5)).size + 1))).heap[w.heap.size]? = some (.cells (bytesRow (strL l) (grownCap w l.length 0 5)) 5 ((bytesRow (strL l) (grownCap w l.length 0 5)).size, (bytesRow (strL l) (grownCap w l.length 0 5)).size + 1)) := heap_alloc_new w.drew _
    rw [cell_of_row _ _ _ _ _ _ hbl]
    have h2 := bytesRow_at (strL l) (grownCap w l.length 0 5) j (by simp [strL]; exact hi)
    rw [Nat.zero_add, h2]
    have : (strL l).data[j]'(by simp [strL]; exact hi) = x := by
      have := (List.getElem?_eq_some_iff.1 hx).2
      simp [strL, this]
    rw [this]
/-- A Writer that is not bad, behind a beginning. -/
def WrOn (W0 : World) (b : Nat) (w : World) (bs : List UInt8) : Prop := ∃ v, WrAt w b W0.heap.size v bs false ∧ Keeps (fun k => k = b) W0 w
theorem WrOn.start {W0 : World} {b : Nat} (h : W0.heap[b]? = some (.cells #[.slice none 0 0, .bool false] 167 (0, 0))) : WrOn W0 b W0 [] :=
  ⟨.slice none 0 0, ⟨h, World.ownsRow_nil _ _ _ _, by simp [Value.ownBlock]⟩, Keeps.refl _ _⟩
theorem WrOn.go {W0 : World} {b : Nat} {w w' : World} {bs : List UInt8} (h : WrOn W0 b w bs) (hb : Below w.heap.size w w') : WrOn W0 b w' bs := by
  obtain ⟨v, hW, hK⟩ := h
  have hbS := (Array.getElem?_eq_some_iff.1 hW.blk).1
  exact ⟨v, ⟨(hb.block _ hbS).trans hW.blk, own_below hW.own hb (Nat.le_refl _), hW.ne⟩, hK.trans (Keeps.ofBelow hb)⟩
theorem WrOn.of {W0 : World} {b : Nat} {w : World} {v : Value} {bs cs : List UInt8} (hW : WrAt w b W0.heap.size v bs false) (hK : Keeps (fun k => k = b) W0 w) {e : Ending} {w' : World} (h : WrDone w b W0.heap.size v cs false e w') :
    e = .returned (.tuple #[]) ∧ WrOn W0 b w' cs := by
  obtain ⟨v', rfl, hW', hK', _⟩ := h
  refine ⟨rfl, v', hW', hK.go hK' (fun k hk => ?_)⟩
  rcases hk with h | h
  · exact .inl h
  · exact .inr (own_base hW.own k h)
theorem WrOn.num {W0 : World} {b : Nat} {w : World} {bs : List UInt8} (h : WrOn W0 b w bs) (n : Nat) (hn : n ≤ 4611686018427387904) (hl : bs.length ≤ 1000000000) :
    Calls Tryz.prog 117 #[.pointer (some ⟨b, 0, none⟩), .int .i64 n] w fun e w' => e = .returned (.tuple #[]) ∧ WrOn W0 b w' (bs ++ num8 n) := by
  obtain ⟨v, hW, hK⟩ := h
  exact (wNum_good b W0.heap.size v bs false n w hW hn hK.size (by omega)).mono fun e w' h => WrOn.of hW hK h
theorem WrOn.bytes {W0 : World} {b : Nat} {w w2 : World} {bs : List UInt8} (h : WrOn W0 b w bs) (hB : Below w.heap.size w w2) {vb : Value} {data : List UInt8} (hd : RdB w2 vb data) (hnil : NilOk vb)
    (hk : ∀ k, vb.ownBlock = some k → k ≠ b ∧ (k < W0.heap.size ∨ w.heap.size ≤ k)) (hl : bs.length ≤ 1000000000) (hl2 : data.length ≤ 1000000000) :
    Calls Tryz.prog 165 #[.pointer (some ⟨b, 0, none⟩), vb] w2 fun e w' => e = .returned (.tuple #[]) ∧ WrOn W0 b w' (bs ++ lenB data) := by
  obtain ⟨v0, hW0, hK0⟩ := id h
  obtain ⟨v, hW, hK⟩ : ∃ v, WrAt w2 b W0.heap.size v bs false ∧ Keeps (fun k => k = b) W0 w2 ∧ ∀ k, v.ownBlock = some k → k < w.heap.size := by
    have hbS := (Array.getElem?_eq_some_iff.1 hW0.blk).1
    exact ⟨v0, ⟨(hB.block _ hbS).trans hW0.blk, own_below hW0.own hB (Nat.le_refl _), hW0.ne⟩, hK0.trans (Keeps.ofBelow hB), fun k hk => (hW0.own.lt k hk).2⟩
  obtain ⟨hK, hlt⟩ := hK
  refine (wBytes_good b W0.heap.size v bs false vb data w2 hW hd hnil (fun e => (hk b e).1 rfl) (fun k hk1 hk2 => ?_) hK.size (by omega)).mono fun e w' h => WrOn.of hW hK h
  have h1 := own_base hW.own k hk2
  have h2 := hlt k hk2
  rcases (hk k hk1).2 with h | h <;> omega
theorem WrOn.out {W0 : World} {b : Nat} {w : World} {bs : List UInt8} (h : WrOn W0 b w bs) (hl : bs.length ≤ 1000000000) : Calls Tryz.prog 118 #[.pointer (some ⟨b, 0, none⟩)] w (OutDone w bs) := by
  obtain ⟨v, hW, hK⟩ := h
  exact wOut_calls b W0.heap.size v bs w hW (by omega)
theorem WrOn.cell {W0 : World} {b : Nat} {w : World} {bs : List UInt8} (h : WrOn W0 b w bs) {k o : Nat} {v : Value} (hk : k ≠ b) (hc : W0.cell? ⟨k, o, none⟩ = some v) : w.cell? ⟨k, o, none⟩ = some v := by
  obtain ⟨v, hW, hK⟩ := h
  exact hK.cell hk hc
theorem WrOn.below {W0 : World} {b B : Nat} {w : World} {bs : List UInt8} (h : WrOn W0 b w bs) (hb : B ≤ b) (hB : B ≤ W0.heap.size) : Below B W0 w := by
  obtain ⟨v, hW, hK⟩ := h
  exact hK.below (fun k hk => by omega) hB
theorem WrOn.size {W0 : World} {b : Nat} {w : World} {bs : List UInt8} (h : WrOn W0 b w bs) : W0.heap.size ≤ w.heap.size := by
  obtain ⟨v, hW, hK⟩ := h
  exact hK.size
theorem WrOn.rdb {W0 : World} {b : Nat} {w : World} {bs : List UInt8} (h : WrOn W0 b w bs) {v : Value} {xs : List UInt8} (hr : RdB W0 v xs) (hv : v.ownBlock ≠ some b) : RdB w v xs := by
  obtain ⟨u, hW, hK⟩ := h
  exact hr.keeps hK (fun k hk e => hv (by rw [hk, e]))
theorem WrOn.rds {W0 : World} {b : Nat} {w : World} {bs : List UInt8} (h : WrOn W0 b w bs) {v : Value} {xs : List (List UInt8)} (hr : RdS W0 v xs) (hv : v.ownBlock ≠ some b) : RdS w v xs := by
  obtain ⟨u, hW, hK⟩ := h
  exact RdL.keeps hr hK (fun k o l c hk e => hv (by rw [hk, e]; rfl))
end Go.Proofs.YtffnbkmigapmjaaGreatDoor

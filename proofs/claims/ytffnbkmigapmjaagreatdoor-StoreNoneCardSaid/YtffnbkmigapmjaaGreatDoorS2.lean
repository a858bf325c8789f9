/-
  What package word's Writer does: numbers and texts as bytes.
-/
import Derived.Test.YtffnbkmigapmjaaGreatDoorS1
import Derived.Test.YtffnbkmigapmjaaGreatDoorProg
import Derived.Deep.RegionLaw
import Derived.RegionTactic
import Derived.WalkSpells
set_option linter.unusedSimpArgs false
set_option linter.unusedVariables false
namespace Go.Proofs.YtffnbkmigapmjaaGreatDoor
open Go.RowKit
/-- A number's eight bytes. -/
def num8 (n : Nat) : List UInt8 := (List.range 8).map fun j => UInt8.ofNat (n / 2 ^ (8 * (7 - j)))
theorem num8_length (n : Nat) : (num8 n).length = 8 := by simp [num8]
theorem num8_get (n j : Nat) (h : j < 8) : (num8 n)[j]? = some (UInt8.ofNat (n / 2 ^ (8 * (7 - j)))) := by simp [num8, h]
theorem infoU8 : (Tryz.prog.info? 5).map (fun i => (i.zero, i.size, i.bytes)) = some (some (.int .u8 0), 1, 1) := by kernel_rfl
/-- A Writer in block b, whose bytes lie in v. -/
structure WrAt (w : World) (b base : Nat) (v : Value) (bs : List UInt8) (bad : Bool) : Prop where
  blk : w.heap[b]? = some (.cells #[v, .bool bad] 167 (0, 0))
  own : w.ownsRow base 5 1 v bs.length (bs.map u8v)
  ne : v.ownBlock ≠ some b
theorem wr_kept {w w2 : World} {b : Nat} {v : Value} {bad : Bool} {o : Obj} (hb : w.heap[b]? = some (.cells #[v, .bool bad] 167 (0, 0))) (hbS : b < w.heap.size) (hg : (w.alloc o).drew.grownBy w2 v.ownBlock) (hne : v.ownBlock ≠ some b) :
    w2.cell? ⟨b, 0, none⟩ = some v ∧ w2.frozen? ⟨b, 0, none⟩ = false ∧ w2.heap[b]? = some (.cells #[v, .bool bad] 167 (0, 0)) := by
  have h : w2.heap[b]? = some (.cells #[v, .bool bad] 167 (0, 0)) := (Keeps.grown hg).heap (k := b) ((Below.heap_alloc w o b hbS).trans hb) hne
  exact ⟨by rw [cell_of_row _ _ _ _ _ _ h]; rfl, by simp [World.frozen?, h], h⟩
theorem wr_step {w wr w2 : World} {b base g cap : Nat} {v v1 : Value} {bs : List UInt8} {x : UInt8} {bad : Bool} {o : Obj} (hW : WrAt wr b base v1 bs bad) (hK : Keeps (fun k => k = b ∨ v.ownBlock = some k) w wr)
    (hat : v1.ownBlock = v.ownBlock ∨ ∃ g, v1.ownBlock = some g ∧ w.heap.size ≤ g) (hbS : b < wr.heap.size) (hg : (wr.alloc o).drew.grownBy w2 v1.ownBlock) (hat2 : v1.ownBlock = some g ∨ g = wr.heap.size + 1)
    (hblk : w2.heap[b]? = some (.cells #[v1, .bool bad] 167 (0, 0))) (hown : w2.ownsRow base 5 1 (.slice (some ⟨g, 0, none⟩) (bs.length + 1) cap) (bs.length + 1) (bs.map u8v ++ [u8v x])) :
    WrAt (w2.setCell ⟨b, 0, none⟩ (.slice (some ⟨g, 0, none⟩) (bs.length + 1) cap)) b base (.slice (some ⟨g, 0, none⟩) (bs.length + 1) cap) (bs ++ [x]) bad ∧
    Keeps (fun k => k = b ∨ v.ownBlock = some k) w (w2.setCell ⟨b, 0, none⟩ (.slice (some ⟨g, 0, none⟩) (bs.length + 1) cap)) ∧
    ((Value.slice (some ⟨g, 0, none⟩) (bs.length + 1) cap).ownBlock = v.ownBlock ∨ ∃ g', (Value.slice (some ⟨g, 0, none⟩) (bs.length + 1) cap).ownBlock = some g' ∧ w.heap.size ≤ g') := by
  have hgb : g ≠ b := by
    rcases hat2 with h | h
    · intro e; subst e; exact hW.ne h
    · omega
  have hsz := hK.size
  refine ⟨⟨heap_setCell_same _ _ 0 _ _ _ hblk, ?_, fun e => hgb (by cases e; rfl)⟩, ?_, ?_⟩
  · have e1 : (bs ++ [x]).length = bs.length + 1 := by simp
    have e2 : (bs ++ [x]).map u8v = bs.map u8v ++ [u8v x] := by simp
    rw [e1, e2]
    exact own_keeps hown (Keeps.setCell (F := fun k => k = b) _ ⟨b, 0, none⟩ _ rfl) (fun k hk e => hgb (by cases hk; exact e))
  · refine (((hK.go (Keeps.alloc (fun _ => False) wr o) (fun _ h => h.elim)).go (Keeps.drew (fun _ => False) _) (fun _ h => h.elim)).go (Keeps.grown hg) ?_).go (Keeps.setCell (F := fun k => k = b) _ ⟨b, 0, none⟩ _ rfl) (fun k h => .inl (.inl h))
    intro k hk
    rcases hat with h | ⟨g', h, h'⟩
    · exact .inl (.inr (h ▸ hk))
    · right; rw [h] at hk; cases hk; exact h'
  · rcases hat2 with h | h
    · rcases hat with h1 | ⟨g', h1, h2⟩
      · exact .inl (by show some g = _; rw [← h1, h])
      · exact .inr ⟨g, rfl, by rw [h] at h1; cases h1; exact h2⟩
    · exact .inr ⟨g, rfl, by omega⟩
/-- Behind a call of a Writer's: its bytes, and what may have turned. -/
def WrDone (w : World) (b base : Nat) (v : Value) (bs : List UInt8) (bad : Bool) (e : Ending) (w' : World) : Prop :=
  ∃ v', e = .returned (.tuple #[]) ∧ WrAt w' b base v' bs bad ∧ Keeps (fun k => k = b ∨ v.ownBlock = some k) w w' ∧ (v'.ownBlock = v.ownBlock ∨ ∃ g, v'.ownBlock = some g ∧ w.heap.size ≤ g)
set_option maxRecDepth 100000 in
set_option maxHeartbeats 400000 in
theorem wNum_bad (b base : Nat) (v : Value) (bs : List UInt8) (bad : Bool) (n : Int) (w : World) (hW : WrAt w b base v bs bad) (hn : n < 0 ∨ 4611686018427387904 < n) :
    Calls Tryz.prog 117 #[.pointer (some ⟨b, 0, none⟩), .int .i64 n] w (WrDone w b base v bs true) := by
  have hb := hW.blk
  have hc1 : w.cell? ⟨b, 1, none⟩ = some (.bool bad) := by rw [cell_of_row _ _ _ _ _ _ hb]; rfl
  have hf1 : w.frozen? ⟨b, 1, none⟩ = false := by simp [World.frozen?, hb]
  rcases hn with hn | hn
  all_goals
    go_enter Tryz.func117, Tryz.ntmps117
    go_wp2
    go_end0
    refine ⟨v, rfl, ⟨heap_setCell_same _ _ 1 _ _ _ hb, ?_, hW.ne⟩, Keeps.setCell _ _ _ (.inl rfl), .inl rfl⟩
    exact own_keeps hW.own (Keeps.setCell (F := fun k => k = b) _ ⟨b, 1, none⟩ _ rfl) (fun k hk e => hW.ne (e ▸ hk))
set_option maxRecDepth 100000 in
set_option maxHeartbeats 400000 in
theorem wNum_good (b base : Nat) (v : Value) (bs : List UInt8) (bad : Bool) (n : Nat) (w : World) (hW : WrAt w b base v bs bad) (hn : n ≤ 4611686018427387904) (hbase : base ≤ w.heap.size) (hlen : bs.length + 8 ≤ 1099511627776) :
    Calls Tryz.prog 117 #[.pointer (some ⟨b, 0, none⟩), .int .i64 n] w (WrDone w b base v (bs ++ num8 n) bad) := by
  obtain ⟨i0, hi, hz0, hz1, hz2⟩ := info_parts infoU8
  go_enter Tryz.func117, Tryz.ntmps117
  go_wp2
  go_loopw [4] (fun i wr => ∃ (j : Nat) (v1 : Value), j ≤ 8 ∧ i = .int .i64 (7 - (j : Int)) ∧ WrAt wr b base v1 (bs ++ (num8 n).take j) bad ∧ Keeps (fun k => k = b ∨ v.ownBlock = some k) w wr ∧ (v1.ownBlock = v.ownBlock ∨ ∃ g, v1.ownBlock = some g ∧ w.heap.size ≤ g)) (fun i _ => (intOf i + 1).toNat)
  case atStart => exact ⟨0, v, by omega, rfl, by simpa using hW, Keeps.refl _ _, .inl rfl⟩
  case round =>
    obtain ⟨j, v1, hj, rfl, hW1, hK, hat⟩ := hrel
    by_cases hlt : j < 8
    · have hlen' : (bs ++ (num8 n).take j).length ≤ bs.length + 8 := by simp [num8_length]; omega
      have htake : bs ++ (num8 n).take (j + 1) = (bs ++ (num8 n).take j) ++ [UInt8.ofNat (n / 2 ^ (8 * (7 - j)))] := by rw [List.append_assoc]; congr 1; exact take_snoc (num8_get n j hlt)
      generalize bs ++ (num8 n).take j = cs at hW1 hlen' htake
      have hb := hW1.blk
      have hc0 : wr.cell? ⟨b, 0, none⟩ = some v1 := by rw [cell_of_row _ _ _ _ _ _ hb]; rfl
      have hf0 : wr.frozen? ⟨b, 0, none⟩ = false := by simp [World.frozen?, hb]
      have hown := hW1.own
      obtain ⟨m, hm⟩ : ∃ m : Nat, 7 - j = m := ⟨_, rfl⟩
      have hmI : (7 : Int) - (j : Int) = (m : Int) := by omega
      rw [hm] at htake
      obtain ⟨s, hs⟩ : ∃ s, 8 * m = s := ⟨_, rfl⟩
      have hw8 : IntKind.i64.wrap (8 * (m : Int)) = (s : Int) := by rw [IntWalk.i64_in _ (by omega)]; omega
      rw [hs] at htake
      have hms : min s 64 = s := by omega
      have hu8 := wrap_u8_shr n s
      generalize UInt8.ofNat (n / 2 ^ s) = x at hu8 htake
      have Htake := Lib.hid htake
      clear htake hs hm
      have h63 : cs.length + 1 ≤ maxLen := by unfold maxLen; omega
      have h47 : (cs.length + 1) * 1 ≤ 140737488355328 := by omega
      have hbs : base ≤ (wr.alloc (.cells [u8v x].toArray 5)).drew.heap.size := by have := hK.size; simp; omega
      have hownA : (wr.alloc (.cells #[u8v x] 5)).drew.ownsRow base 5 1 v1 cs.length (cs.map u8v) := World.ownsRow.alloc hown _
      have Hsz : Hid ((wr.alloc (.cells #[u8v x] 5)).drew.heap.size = wr.heap.size + 1) := by show _ = _; simp
      have hbS := (Array.getElem?_eq_some_iff.1 hb).1
      have hne1 := hW1.ne
      have hnewsA := Lib.hid (news_new wr [u8v x] 5 (0, 0))
      rw [hmI]
      go_wp2
      go_region_law (go_must (refine step_append_lies (wr.alloc (.cells #[u8v x] 5)).drew rfl (.tmp 24) (.tmp 30) 22 rfl base 5 i0 (.int .u8 0) 1 1 Tryz.underlying22 hi hz0 hz1 hz2 rfl (by decide) v1 cs.length (cs.map u8v) (by rfl) hownA ⟨wr.heap.size, 0, none⟩ 1 1 [u8v x] (by rfl) rfl hnewsA.out (one_u8 [x]) (by decide) h63 h47 hbs (wr.heap.size + 1) Hsz.out ?_); rintro g cap w2 hown2 hg2 hat2 hlt2; have hblk2 := wr_kept hb hbS hg2 hne1; have hc2 := hblk2.1; have hf2 := hblk2.2.1)
      all_goals
        have hst := wr_step hW1 hK hat hbS hg2 hat2 hblk2.2.2 hown2
        rw [← Htake.out] at hst
        go_wp2
        go_roundw
        case rel => exact ⟨j + 1, _, by omega, by congr 1; omega, hst⟩
        case measure => simp [intOf] <;> omega
    · have hj8 : j = 8 := by omega
      subst hj8
      rw [List.take_of_length_le (by rw [num8_length]; omega)] at hW1
      go_wp2
      go_end0
      exact ⟨v1, rfl, hW1, hK, hat⟩

/-- What slices.Clone of bytes answers: a row of its own. -/
def CloneDone (w : World) (bs : List UInt8) (e : Ending) (w' : World) : Prop :=
  ∃ v', e = .returned v' ∧ w'.ownsRow w.heap.size 5 1 v' bs.length (bs.map u8v) ∧ Below w.heap.size w w'
set_option maxRecDepth 100000 in
set_option maxHeartbeats 400000 in
theorem clone_calls (v : Value) (bs : List UInt8) (w : World) (hv : RdB w v bs) (hlen : bs.length ≤ 140737488355328) :
    Calls Tryz.prog 71 #[v] w (CloneDone w bs) := by
  obtain ⟨i0, hi, hz0, hz1, hz2⟩ := info_parts infoU8
  obtain ⟨a, cap, rfl, hl, hc⟩ := hv.form
  cases a with
  | none =>
    have hbs : bs = [] := by
      rcases hv with ⟨_, _, _, _, h⟩ | ⟨b, off, cap', h, _⟩
      · exact h
      · cases h
    subst hbs
    have hnil := fun w => Lib.run_eql_slice_nil (P := Tryz.prog) w 22 5 none 0 cap 0 0 Tryz.underlying22
    go_enter Tryz.func71, Tryz.ntmps71
    go_wp2
    go_ret
    exact ⟨_, rfl, World.ownsRow_nil _ _ _ _, Below.refl _ _⟩
  | some ad =>
    have hnil := fun w => Lib.run_eql_slice_nil (P := Tryz.prog) w 22 5 (some ad) bs.length cap 0 0 Tryz.underlying22
    have hown0 : (w.alloc (.cells #[] 5)).ownsRow w.heap.size 5 1 (.slice (some ⟨w.heap.size, 0, none⟩) 0 0) 0 [] := World.ownsRow_lit w #[] 0 (Nat.le_refl _) (by decide) rfl
    have hnews : ∀ j u, (bs.map u8v)[j]? = some u → (w.alloc (.cells #[] 5)).cell? (ad.add j) = some u := by
      rcases hv with ⟨_, _, _, _, h⟩ | ⟨b, off, cap', h, _, _, _, hbw, hcell⟩
      · subst h; intro j u h; cases h
      · cases h
        intro j u hu
        rw [List.getElem?_map] at hu
        obtain ⟨x, hx, rfl⟩ := Option.map_eq_some_iff.1 hu
        rw [add_at]
        exact (Below.cell (B := w.heap.size) ((Below.refl _ _).alloc (Nat.le_refl _) _) (p := ⟨b, off + j, none⟩) hbw).trans (hcell j x hx)
    have hnewsL : (bs.map u8v).length = bs.length * 1 := by simp
    have h63 : 0 + bs.length ≤ maxLen := by unfold maxLen; omega
    have h47 : (0 + bs.length) * 1 ≤ 140737488355328 := by omega
    have hbs : w.heap.size ≤ (w.alloc (.cells #[] 5)).heap.size := by simp
    go_enter Tryz.func71, Tryz.ntmps71
    go_wp2_with (at_builtin; go_must (refine wpList_append_own _ rfl (.tmp 5) (.tmp 6) 22 rfl w.heap.size 5 i0 (.int .u8 0) 1 1 Tryz.underlying22 hi hz0 hz1 hz2 rfl (by decide) _ _ _ rfl hown0 ad bs.length cap (bs.map u8v) rfl hnewsL hnews (one_u8 bs) h63 h47 hbs ?_); rintro v1 w1 hown1 hg1 _)
    have hbel : Below w.heap.size w w1 := ((Below.refl _ _).alloc (Nat.le_refl _) _).grown hg1 (by simp) (fun k hk => by cases hk; exact Nat.le_refl _)
    go_ret
    exact ⟨_, rfl, by simpa using hown1, hbel⟩

/-- What Out answers of a Writer that is not bad. -/
def OutDone (w : World) (bs : List UInt8) (e : Ending) (w' : World) : Prop :=
  ∃ v', e = .returned (.tuple #[v', .bool true]) ∧ w'.ownsRow w.heap.size 5 1 v' bs.length (bs.map u8v) ∧ Below w.heap.size w w'
theorem rdB_ofOwn {w : World} {base : Nat} {v : Value} {n : Nat} {bs : List UInt8} (h : w.ownsRow base 5 1 v n (bs.map u8v)) : RdB w v bs := by
  have hn : n = bs.length := by have := h.1; simpa using this.symm
  obtain ⟨h1, ⟨h2, h3⟩ | ⟨g, cap, cur, hv, hg, hh, hc, hm, hs, ht⟩⟩ := h
  · subst h2
    have : bs = [] := by rw [← List.length_eq_zero_iff]; omega
    exact .inl ⟨none, 0, rfl, by omega, this⟩
  · subst hv
    exact rdB_own ⟨h1, .inr ⟨g, cap, cur, rfl, hg, hh, hc, hm, hs, ht⟩⟩ hm
set_option maxRecDepth 100000 in
set_option maxHeartbeats 400000 in
theorem wOut_calls (b base : Nat) (v : Value) (bs : List UInt8) (w : World) (hW : WrAt w b base v bs false) (hlen : bs.length ≤ 140737488355328) :
    Calls Tryz.prog 118 #[.pointer (some ⟨b, 0, none⟩)] w (OutDone w bs) := by
  have hb := hW.blk
  have hc0 : w.cell? ⟨b, 0, none⟩ = some v := by rw [cell_of_row _ _ _ _ _ _ hb]; rfl
  have hc1 : w.cell? ⟨b, 1, none⟩ = some (.bool false) := by rw [cell_of_row _ _ _ _ _ _ hb]; rfl
  have hr := rdB_ofOwn hW.own
  go_enter Tryz.func118, Tryz.ntmps118
  go_wp2_with fail
  refine (clone_calls _ _ _ hr hlen).mono ?_; rintro e w1 ⟨v', rfl, hown, hbel⟩
  go_wp2
  go_ret2
  exact ⟨v', rfl, hown, hbel⟩
set_option maxRecDepth 100000 in
set_option maxHeartbeats 400000 in
theorem wOut_bad (b base : Nat) (v : Value) (bs : List UInt8) (w : World) (hW : WrAt w b base v bs true) :
    Calls Tryz.prog 118 #[.pointer (some ⟨b, 0, none⟩)] w fun e w' => e = .returned (.tuple #[.slice none 0 0, .bool false]) ∧ w = w' := by
  have hb := hW.blk
  have hc1 : w.cell? ⟨b, 1, none⟩ = some (.bool true) := by rw [cell_of_row _ _ _ _ _ _ hb]; rfl
  go_enter Tryz.func118, Tryz.ntmps118
  go_wp2
  go_ret2
  exact ⟨rfl, rfl⟩
end Go.Proofs.YtffnbkmigapmjaaGreatDoor

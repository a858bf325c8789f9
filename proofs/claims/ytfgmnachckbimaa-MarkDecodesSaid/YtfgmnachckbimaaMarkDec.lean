/-
  The walk of the law MarkDecodes.
-/
import Derived.Test.YtfgmnachckbimaaMarkTrn
import Derived.Test.YtfgmnachckbimaaMarks
import Derived.Test.YtfgmnachckbimaaAppend
import Derived.Laws.OwnMore
set_option linter.unusedSimpArgs false
set_option linter.unusedVariables false
namespace Go.Proofs.Ytfgmnachckbimaa
open Go.RowKit
/-- A byte's cell. -/
def b1 (x : UInt8) : List Value := [u8v x]
theorem b1_len (x : UInt8) : (b1 x).length = 1 := rfl
theorem b1_flat (bs : List UInt8) : bs.flatMap b1 = bs.map u8v := by induction bs with
  | nil => rfl
  | cons x xs ih => rw [List.flatMap_cons, ih]; rfl
theorem b1_one (bs : List UInt8) : ∀ c ∈ bs.flatMap b1, c.oneCell' = true := by rw [b1_flat]; exact one_u8 bs
theorem rdL_of_rdB {w : World} {v : Value} {bs : List UInt8} (h : RdB w v bs) : RdL 1 b1 w v bs := by
  rcases h with ⟨a, c, h1, h2, h3⟩ | ⟨b, off, cap, h1, h0, h2, h3, h4, h5⟩
  · exact .inl ⟨a, c, h1, h2, h3⟩
  · refine .inr ⟨b, off, cap, h1, h0, h2, h3, h4, fun i x hx j u hu => ?_⟩
    cases j with
    | zero => rw [b1] at hu; cases hu; rw [Nat.mul_one, Nat.add_zero]; exact h5 i x hx
    | succ j => rw [b1] at hu; cases hu
set_option maxRecDepth 100000 in
set_option maxHeartbeats 8000000 in
theorem markDecodes_walk (v v2 : Value) (ks : List MarkD) (more : List UInt8) (c : Nat) (t : UInt8) (w : World) (hv : RdM w v ks) (hm : RdB w v2 more) (hn2 : NilOk v2) (hml : more.length ≤ 140737488351232) (hc : c ≤ 65535) :
    Calls Try.prog 8 #[v, v2, .int .u16 c, u8v t] w fun e w' => e = .returned (.bool true) ∧ Below w.heap.size w w' := by
  obtain ⟨i0, hi, hz0, hz1, hz2⟩ := info_parts infoU8
  obtain ⟨a, cap, rfl, hlc, hcap⟩ := hv.form
  obtain ⟨am, capm, rfl, hlcm, hcapm⟩ := hm.form
  have hmli : (more.length : Int) ≤ 140737488351232 := by omega
  have Hn2 := Lib.hid hn2
  clear hn2
  go_enter Try.func8, Try.ntmps8
  go_wp2
  go_loopw [9, 10] (fun g i wr => ∃ j : Nat, j ≤ ks.length ∧ i = .int .i64 j ∧ wr.ownsRow w.heap.size 5 1 g (bytesM (ks.take j)).length ((bytesM (ks.take j)).map u8v) ∧ (∀ k ∈ ks.take j, k.good = true) ∧ (j = 0 ∨ (ks.length ≤ 60 ∧ more.length ≤ 500)) ∧ Below w.heap.size w wr) (fun _ i _ => ks.length - (intOf i).toNat)
  case atStart =>
    exact ⟨0, Nat.zero_le _, rfl, by simpa [bytesM] using nil_row w w.heap.size 1 5, by simp, .inl rfl, Below.refl _ _⟩
  case round =>
    obtain ⟨j, hj, rfl, hown, hgd, h60, hbw⟩ := hrel
    by_cases hlt : j < ks.length
    · obtain ⟨k, hk⟩ : ∃ k, ks[j]? = some k := ⟨_, List.getElem?_eq_getElem hlt⟩
      obtain ⟨b, off, cap', hsl, hbl, y0, y1, y2⟩ := RdL.at3 (hv.below (Nat.le_refl _) hbw) hk
      cases hsl
      have hbs := bytesM_snoc hk
      have hts := take_snoc hk
      have hbl2 : (bytesM (ks.take j)).length ≤ 28 * j := by rw [bytesM_length, List.length_take]; omega
      have hmay := mayMark_calls k
      have hgk : ∀ ok, k.good = ok → k.good = ok := fun _ h => h
      have hj0 : (0 : Int) ≤ (j : Int) := by omega
      have hj1 : (j : Int) < (ks.length : Int) := by omega
      by_cases hg : k.good = true
      · have hg' : 1 ≤ k.kind ∧ k.kind ≤ 5 ∧ 0 ≤ k.rcpt ∧ k.rcpt < 8 ∧ 0 ≤ k.n ∧ k.n ≤ 1099511627776 := of_decide_eq_true hg
        have hmk := fun W => refMark_calls k W (by omega) (by omega) (by omega) (by omega) (by omega) (by omega)
        rw [hg] at hmay
        have hgd' : ∀ x ∈ ks.take (j + 1), x.good = true := by
          intro x hx
          rw [hts] at hx
          rcases List.mem_append.1 hx with hx | hx
          · exact hgd x hx
          · simp at hx; rw [hx]; exact hg
        have hkl := bytes_length k
        generalize MarkD.bytes k = kb at hmk hkl hbs
        generalize bytesM (ks.take j) = pre at hbs hbl2 hown
        obtain ⟨kind, rcpt, nn⟩ := k
        simp only at y0 y1 y2
        have Hmay := Lib.hid hmay
        have Hmk := Lib.hid hmk
        have Hbs := Lib.hid hbs
        have Hgd' := Lib.hid hgd'
        clear hmay hmk hbs hgd' hgk hg hg' hgd hts
        by_cases hbig : (60 : Int) < (ks.length : Int)
        · go_wp2_with fail
          refine (Hmay.out _).mono ?_; rintro e w2 ⟨rfl, hb2⟩
          go_wp2_with fail
          refine (markAns_calls _).mono ?_; rintro e w3 ⟨rfl, hb3⟩
          go_wp2
          go_ret
          exact ⟨rfl, (hbw.trans (hb2.mono hbw.size)).trans (hb3.mono (Nat.le_trans hbw.size hb2.size))⟩
        · by_cases hbig2 : (500 : Int) < (more.length : Int)
          · go_wp2_with fail
            refine (Hmay.out _).mono ?_; rintro e w2 ⟨rfl, hb2⟩
            go_wp2_with fail
            refine (markAns_calls _).mono ?_; rintro e w3 ⟨rfl, hb3⟩
            go_wp2
            go_ret
            exact ⟨rfl, (hbw.trans (hb2.mono hbw.size)).trans (hb3.mono (Nat.le_trans hbw.size hb2.size))⟩
          · go_wp2_with fail
            refine (Hmay.out _).mono ?_; rintro e w2 ⟨rfl, hb2⟩
            have c0 := (hb2.cell (p := ⟨b, off + j * 3, none⟩) hbl).trans y0
            have c1 := (hb2.cell (p := ⟨b, off + j * 3 + 1, none⟩) hbl).trans y1
            have c2 := (hb2.cell (p := ⟨b, off + j * 3 + 2, none⟩) hbl).trans y2
            go_wp2_with fail
            refine (Hmk.out _).mono ?_; rintro e w3 ⟨vk, rfl, hownk, hb3⟩; rw [hkl] at hownk
            have hrow3 := own_below (own_below hown hb2 (Nat.le_refl _)) hb3 (Nat.le_refl _)
            have hbw3 := (hbw.trans (hb2.mono hbw.size)).trans (hb3.mono (Nat.le_trans hbw.size hb2.size))
            obtain ⟨gk, capk, rfl, _, _, _, _⟩ := own_form hownk (by omega)
            have hncell := news_own hownk
            have Hncell := Lib.hid hncell
            have hkl' : (kb.map u8v).length = 28 * 1 := by simp [hkl]
            have h63 : pre.length + 28 ≤ maxLen := by show pre.length + 28 ≤ 9223372036854775807; omega
            have hbd2 : (pre.length + 28) * 1 ≤ 140737488355328 := by omega
            have Hkl := Lib.hid hkl
            clear hncell hkl
            go_wp2_with (at_builtin; go_must (refine wpList_append_own _ rfl (.tmp 39) (.tmp 44) 22 rfl w.heap.size 5 i0 (.int .u8 0) 1 1 Try.underlying22 hi hz0 hz1 hz2 rfl (by decide) _ _ _ rfl hrow3 ⟨gk, 0, none⟩ 28 capk (kb.map u8v) rfl hkl' Hncell.out (one_u8 _) h63 hbd2 hbw3.size ?_); rintro v4 w4 hown4 hg4 _)
            go_roundw
            case rel =>
              refine ⟨j + 1, by omega, by simp, ?_, Hgd'.out, (by right; omega), Below.grown hbw3 hg4 hbw3.size (fun k hk => own_base hrow3 k hk)⟩
              rw [Hbs.out, List.length_append, List.map_append, Hkl.out]; exact hown4
            case measure => simp [intOf] <;> omega
      · have hg2 : k.good = false := by simpa using hg
        rw [hg2] at hmay
        obtain ⟨kind, rcpt, nn⟩ := k
        simp only at y0 y1 y2
        have Hmay := Lib.hid hmay
        clear hmay hbs hgk hg hg2 hts
        go_wp2_with fail
        refine (Hmay.out _).mono ?_; rintro e w2 ⟨rfl, hb2⟩
        go_wp2_with fail
        refine (markAns_calls _).mono ?_; rintro e w3 ⟨rfl, hb3⟩
        go_wp2
        go_ret
        exact ⟨rfl, (hbw.trans (hb2.mono hbw.size)).trans (hb3.mono (Nat.le_trans hbw.size hb2.size))⟩
    · have hje : j = ks.length := by omega
      subst hje
      rw [List.take_of_length_le (Nat.le_refl _)] at hown hgd
      have hbsl := bytesM_length ks
      generalize bytesM ks = pre at hown hbsl
      have hpl : pre.length ≤ 1680 := by omega
      have hmr := hm.below (Nat.le_refl _) hbw
      have hmore := rdL_of_rdB hmr
      have hone := b1_one more
      have Hone := Lib.hid hone
      have hpm : pre.length + more.length ≤ 140737488351232 := by omega
      obtain ⟨L, hL⟩ : ∃ L, pre.length + more.length = L := ⟨_, rfl⟩
      have h63 : pre.length + more.length ≤ maxLen := by show pre.length + more.length ≤ 9223372036854775807; omega
      have hbd : (pre.length + more.length) * 1 ≤ 140737488355328 := by omega
      have hpp : pre.map u8v ++ more.flatMap b1 = (pre ++ more).map u8v := by rw [List.map_append, b1_flat]
      have hbl : (pre ++ more).length = L := by rw [List.length_append, hL]
      generalize pre ++ more = bs at hpp hbl
      have HL := Lib.hid hL
      have Hpp := Lib.hid hpp
      have Hbl := Lib.hid hbl
      have hLb : L ≤ 140737488351232 := by omega
      have hLi : (L : Int) ≤ 140737488351232 := by omega
      clear hL hpp hbl hone hgd h60 hbsl hpm
      by_cases h0 : L = 0
      · subst h0
        go_wp2_with (at_builtin; first | (refine wpList_append_any b1_len (by decide) rfl (.tmp 46) (.tmp 47) 22 rfl w.heap.size 5 i0 (.int .u8 0) 1 Try.underlying22 hi hz0 hz1 hz2 rfl _ _ _ rfl hown _ more rfl hmore Hn2.out Hone.out h63 hbd hbw.size ?_; intro v4 w4 hown4 hg4 hnil4; rw [HL.out, Hpp.out] at hown4; have hbw4 := Below.grown hbw hg4 hbw.size (fun k hk => own_base hown k hk); clear hg4; obtain ⟨a4, cap4, hv4⟩ := own_form0 hown4; subst hv4; have Hnil4 := Lib.hid hnil4; clear hnil4; have hown4' : w4.ownsRow w.heap.size 5 1 (.slice a4 0 cap4) bs.length (bs.map u8v) := (by rw [Hbl.out]; exact hown4); have hrd4 := rdB_ofOwn hown4'; have h63b : 0 + bs.length ≤ maxLen := (by rw [Hbl.out]; decide); have hbdb : (0 + bs.length) * 1 ≤ 140737488355328 := (by rw [Hbl.out]; decide)) | (refine wpList_append_any b1_len (by decide) rfl (.tmp 67) (.tmp 68) 22 rfl (w4).heap.size 5 i0 (.int .u8 0) 1 Try.underlying22 hi hz0 hz1 hz2 rfl _ _ _ rfl (World.ownsRow_lit (base := (w4).heap.size) (size := 1) (e := 5) (w4) #[] 0 (Nat.le_refl _) (by decide) rfl) _ bs rfl ((rdL_of_rdB hrd4).below (Nat.le_refl _) ((Below.refl _ _).alloc (Nat.le_refl _) _)) Hnil4.out (b1_one _) h63b hbdb (by simp) ?_; intro v6 w6 hown6 hg6 hnil6; have hb6 : Below (w4).heap.size (w4) w6 := Below.grown ((Below.refl _ _).alloc (Nat.le_refl _) _) hg6 (by simp) (fun k hk => by cases hk; exact Nat.le_refl _); have hrd6 := hrd4.below (Nat.le_refl _) hb6; rw [Nat.zero_add, List.nil_append, b1_flat] at hown6; clear hg6 hnil6))
        have hlen6 : bs.length ≤ 140737488351232 := by rw [Hbl.out]; omega
        refine (markDecode_calls _ bs w6 (rdB_ofOwn hown6) hlen6).mono ?_; rintro e w7 ⟨v7, rfl, hown7, hb7⟩
        have hrd7 := hrd6.below (Nat.le_refl _) hb7
        have hbw6 : Below w.heap.size w w6 := hbw4.trans (hb6.mono hbw4.size)
        have hbw7 := hbw6.trans (hb7.mono hbw6.size)
        have hD := fun v W h => refMarks_calls v bs W h hlen6
        have HD := Lib.hid hD
        clear hD hrd6 hb6 hown6
        go_wp2_with fail
        refine (HD.out _ _ hrd7).mono ?_; rintro e w8 ⟨v8, rfl, hown8, hb8⟩
        have hbw8 := hbw7.trans (hb8.mono hbw7.size)
        have hm7 := (rdL_ofOwn mark_len (by decide) hown7).below (Nat.le_refl _) hb8
        have hm8 := rdL_ofOwn mark_len (by decide) hown8
        generalize decodeM bs = ms at hm7 hm8
        clear hown7 hown8 hb7 hb8 hbw7 hbw6 hrd7
        go_wp2_with fail
        refine (markAns_calls _).mono ?_; rintro e w9 ⟨rfl, hb9⟩
        go_wp2_with fail
        refine (sameMarks_calls _ _ ms _ (hm7.below (Nat.le_refl _) hb9) (hm8.below (Nat.le_refl _) hb9)).mono ?_; rintro e w10 ⟨rfl, hb10⟩
        go_wp2
        go_ret
        exact ⟨rfl, (hbw8.trans (hb9.mono hbw8.size)).trans (hb10.mono (Nat.le_trans hbw8.size hb9.size))⟩
      · have h0' : (0 : Int) < (L : Int) := by omega
        obtain ⟨k, hk⟩ : ∃ k : Nat, c % L = k := ⟨_, rfl⟩
        have hkL : k < L := by rw [← hk]; exact Nat.mod_lt _ (by omega)
        have hrem : Int.tmod (c : Int) (L : Int) = (k : Int) := by rw [Int.tmod_eq_emod_of_nonneg (by omega), ← hk]; simp
        have hrem2 : (c : Int) % (L : Int) = (k : Int) := by rw [← hk]; simp
        have hk0 : (0 : Int) ≤ (k : Int) := by omega
        have hk1 : (k : Int) < (L : Int) := by omega
        obtain ⟨x, hx⟩ : ∃ x, bs[k]? = some x := ⟨_, List.getElem?_eq_getElem (by rw [Hbl.out]; exact hkL)⟩
        have hxor := bits_xor8 x t
        generalize x ^^^ t = y at hxor
        have Hx := Lib.hid hx
        have hLp : 0 < L := by omega
        have hk63 : (k : Int) ≤ 140737488351232 := by omega
        clear hk hx
        go_wp2_with (at_builtin; first | (refine wpList_append_any b1_len (by decide) rfl (.tmp 46) (.tmp 47) 22 rfl w.heap.size 5 i0 (.int .u8 0) 1 Try.underlying22 hi hz0 hz1 hz2 rfl _ _ _ rfl hown _ more rfl hmore Hn2.out Hone.out h63 hbd hbw.size ?_; intro v4 w4 hown4 hg4 hnil4; rw [HL.out, Hpp.out] at hown4; have hbw4 := Below.grown hbw hg4 hbw.size (fun k hk => own_base hown k hk); clear hnil4 hg4; obtain ⟨g4, cap4, hv4, hg4b, _, _, _⟩ := own_form hown4 hLp; subst hv4; have hcell4 : w4.cell? ⟨g4, k, none⟩ = some (.int .u8 x.toNat) := (by rw [hown4.cellAt k (by omega), List.getElem?_map, Hx.out]; rfl); have hfz4 := hown4.frozenAt k; have hst := (hown4.stored k (u8v y)).1; rw [← List.map_set] at hst; have hbl2 : (bs.set k y).length = L := (by rw [List.length_set, Hbl.out]); generalize bs.set k y = bs2 at hst hbl2; have Hbl2 := Lib.hid hbl2; clear hbl2; have hrd5 : RdB (w4.setCell ⟨g4, k, none⟩ (.int .u8 y.toNat)) (.slice (some ⟨g4, 0, none⟩) L cap4) bs2 := (by rw [← Hbl2.out] at hst; have h := rdB_ofOwn hst; rw [Hbl2.out] at h; exact h); have Hnil4 : Hid (NilOk (.slice (some ⟨g4, 0, none⟩) L cap4)) := (fun l c h => by cases h); have h63b : 0 + bs2.length ≤ maxLen := (by rw [Hbl2.out]; show 0 + L ≤ 9223372036854775807; omega); have hbdb : (0 + bs2.length) * 1 ≤ 140737488355328 := (by rw [Hbl2.out]; omega); have Hst := Lib.hid hst; clear hst) | (have hE5 : ((w4.setCell ⟨g4, k, none⟩ (.int .u8 y.toNat)).alloc (.cells #[] 5)).ownsRow w4.heap.size 5 1 (.slice (some ⟨w4.heap.size, 0, none⟩) 0 0) 0 [] := (by have h := World.ownsRow_lit (base := w4.heap.size) (size := 1) (e := 5) (w4.setCell ⟨g4, k, none⟩ (.int .u8 y.toNat)) #[] 0 (by simp) (by decide) rfl; simpa using h); refine wpList_append_any b1_len (by decide) rfl (.tmp 67) (.tmp 68) 22 rfl w4.heap.size 5 i0 (.int .u8 0) 1 Try.underlying22 hi hz0 hz1 hz2 rfl _ _ _ rfl hE5 _ bs2 rfl ((rdL_of_rdB hrd5).below (Nat.le_refl _) ((Below.refl _ _).alloc (Nat.le_refl _) _)) Hnil4.out (b1_one _) h63b hbdb (by simp) ?_; intro v6 w6 hown6 hg6 hnil6; have hb6 : Below (w4.setCell ⟨g4, k, none⟩ (.int .u8 y.toNat)).heap.size (w4.setCell ⟨g4, k, none⟩ (.int .u8 y.toNat)) w6 := Below.grown ((Below.refl _ _).alloc (Nat.le_refl _) _) hg6 (by simp) (fun k hk => by cases hk; simp); have hrd6 := hrd5.below (Nat.le_refl _) hb6; rw [Nat.zero_add, List.nil_append, b1_flat] at hown6; clear hg6 hnil6))
        have hlen6 : bs2.length ≤ 140737488351232 := by rw [Hbl2.out]; omega
        refine (markDecode_calls _ bs2 w6 (rdB_ofOwn hown6) hlen6).mono ?_; rintro e w7 ⟨v7, rfl, hown7, hb7⟩
        have hrd7 := hrd6.below (Nat.le_refl _) hb7
        have hbw6 : Below w.heap.size w w6 := ((hbw4.setCell (by exact hg4b) _).trans (hb6.mono (by have := hbw4.size; simpa using this)))
        have hbw7 := hbw6.trans (hb7.mono hbw6.size)
        have hD := fun v W h => refMarks_calls v bs2 W h hlen6
        have HD := Lib.hid hD
        clear hD hrd6 hb6 hown6
        go_wp2_with fail
        refine (HD.out _ _ hrd7).mono ?_; rintro e w8 ⟨v8, rfl, hown8, hb8⟩
        have hbw8 := hbw7.trans (hb8.mono hbw7.size)
        have hm7 := (rdL_ofOwn mark_len (by decide) hown7).below (Nat.le_refl _) hb8
        have hm8 := rdL_ofOwn mark_len (by decide) hown8
        generalize decodeM bs2 = ms at hm7 hm8
        clear hown7 hown8 hb7 hb8 hbw7 hbw6 hrd7
        go_wp2_with fail
        refine (markAns_calls _).mono ?_; rintro e w9 ⟨rfl, hb9⟩
        go_wp2_with fail
        refine (sameMarks_calls _ _ ms _ (hm7.below (Nat.le_refl _) hb9) (hm8.below (Nat.le_refl _) hb9)).mono ?_; rintro e w10 ⟨rfl, hb10⟩
        go_wp2
        go_ret
        exact ⟨rfl, (hbw8.trans (hb9.mono hbw8.size)).trans (hb10.mono (Nat.le_trans hbw8.size hb9.size))⟩
theorem markDecodes_all (v v2 : Value) (ks : List MarkD) (more : List UInt8) (n m : Int) (w : World) (hv : RdM w v ks) (hm : RdB w v2 more) (hn2 : NilOk v2) (hml : more.length ≤ 140737488351232) (hn : (Lit.int .u16 n).wf = true) (ht : (Lit.int .u8 m).wf = true) :
    Calls Try.prog 8 #[v, v2, .int .u16 n, .int .u8 m] w fun e w' => e = .returned (.bool true) ∧ Below w.heap.size w w' := by
  obtain ⟨l, u⟩ := bounds_u16 hn
  obtain ⟨l2, u2⟩ := bounds_u8 ht
  obtain ⟨c, rfl⟩ := Int.eq_ofNat_of_zero_le l
  have e : Value.int .u8 m = u8v (UInt8.ofNat m.toNat) := by
    show _ = Value.int .u8 ((UInt8.ofNat m.toNat).toNat : Int)
    rw [UInt8.toNat_ofNat', Nat.mod_eq_of_lt (by omega)]
    congr 1; omega
  rw [e]
  exact markDecodes_walk v v2 ks more c _ w hv hm hn2 hml (by omega)
end Go.Proofs.Ytfgmnachckbimaa

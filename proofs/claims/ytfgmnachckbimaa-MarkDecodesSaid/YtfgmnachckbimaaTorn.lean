/-
  The plain side of the laws on marks' bytes: what is written is read again, what is cut is read up to the cut.
-/
import Derived.Test.YtfgmnachckbimaaDecode
import Derived.Test.YtfgmnachckbimaaRow
set_option linter.unusedSimpArgs false
set_option linter.unusedVariables false
namespace Go.Proofs.Ytfgmnachckbimaa
open Go.RowKit
theorem beNat_num8 (n : Nat) (h : n < 18446744073709551616) : beNat (num8 n) = n := by
  have e : num8 n = [UInt8.ofNat (n / 2 ^ 56), UInt8.ofNat (n / 2 ^ 48), UInt8.ofNat (n / 2 ^ 40), UInt8.ofNat (n / 2 ^ 32), UInt8.ofNat (n / 2 ^ 24), UInt8.ofNat (n / 2 ^ 16), UInt8.ofNat (n / 2 ^ 8), UInt8.ofNat (n / 2 ^ 0)] := rfl
  rw [e]
  simp only [beNat, List.foldl_cons, List.foldl_nil, UInt8.toNat_ofNat']
  omega
theorem parse_bytes (k : MarkD) (hg : k.good = true) : parseMark k.bytes = some k := by
  have hg' : 1 ≤ k.kind ∧ k.kind ≤ 5 ∧ 0 ≤ k.rcpt ∧ k.rcpt < 8 ∧ 0 ≤ k.n ∧ k.n ≤ 1099511627776 := of_decide_eq_true hg
  have hm : markOf k.bytes = k := by
    obtain ⟨kind, rcpt, n⟩ := k
    simp only at hg'
    obtain ⟨a, rfl⟩ := Int.eq_ofNat_of_zero_le (show 0 ≤ kind by omega)
    obtain ⟨b, rfl⟩ := Int.eq_ofNat_of_zero_le (show 0 ≤ rcpt by omega)
    obtain ⟨c, rfl⟩ := Int.eq_ofNat_of_zero_le (show 0 ≤ n by omega)
    have ea : (num8 a).length = 8 := num8_length a
    have eb : (num8 b).length = 8 := num8_length b
    have ec : (num8 c).length = 8 := num8_length c
    unfold markOf MarkD.bytes MarkD.body
    simp only [Int.toNat_natCast]
    rw [List.append_assoc, List.append_assoc]
    have t1 : (num8 a ++ (num8 b ++ (num8 c ++ be4 (PbCrc.sum (num8 a ++ num8 b ++ num8 c))))).take 8 = num8 a := by rw [List.take_append_of_le_length (by omega), List.take_of_length_le (by omega)]
    have d1 : (num8 a ++ (num8 b ++ (num8 c ++ be4 (PbCrc.sum (num8 a ++ num8 b ++ num8 c))))).drop 8 = num8 b ++ (num8 c ++ be4 (PbCrc.sum (num8 a ++ num8 b ++ num8 c))) := List.drop_left' ea
    have d2 : (num8 a ++ (num8 b ++ (num8 c ++ be4 (PbCrc.sum (num8 a ++ num8 b ++ num8 c))))).drop 16 = num8 c ++ be4 (PbCrc.sum (num8 a ++ num8 b ++ num8 c)) := by
      rw [show 16 = 8 + 8 from rfl, ← List.drop_drop, d1]; exact List.drop_left' eb
    rw [t1, d1, d2, List.take_append_of_le_length (by omega), List.take_of_length_le (by omega), List.take_append_of_le_length (by omega), List.take_of_length_le (by omega)]
    rw [beNat_num8 a (by omega), beNat_num8 b (by omega), beNat_num8 c (by omega)]
  unfold parseMark
  rw [hm, if_pos ⟨hg, rfl⟩]
/-- The bytes of marks. -/
def bytesM (ks : List MarkD) : List UInt8 := ks.flatMap MarkD.bytes
theorem bytesM_length (ks : List MarkD) : (bytesM ks).length = 28 * ks.length := by
  induction ks with
  | nil => rfl
  | cons k ks ih => unfold bytesM at *; rw [List.flatMap_cons, List.length_append, ih, bytes_length, List.length_cons]; omega
theorem decodeN_cut : ∀ (ks : List MarkD) (m n : Nat), (∀ k ∈ ks, k.good = true) → ks.length ≤ m → n ≤ (bytesM ks).length → decodeN m ((bytesM ks).take n) = ks.take (n / 28) := by
  intro ks
  induction ks with
  | nil => intro m n _ _ _; cases m <;> simp [bytesM, decodeN]
  | cons k ks ih =>
    intro m n hg hm hn
    rw [bytesM_length] at hn
    rw [List.length_cons] at hm hn
    obtain ⟨m, rfl⟩ : ∃ m', m = m' + 1 := ⟨m - 1, by omega⟩
    have hl := bytes_length k
    have hb : bytesM (k :: ks) = k.bytes ++ bytesM ks := rfl
    rw [decodeN]
    by_cases hn28 : n < 28
    · rw [if_pos (by rw [List.length_take]; omega), show n / 28 = 0 by omega]; rfl
    · have hle : ((bytesM (k :: ks)).take n).length = n := by rw [List.length_take, bytesM_length, List.length_cons]; omega
      rw [if_neg (by omega)]
      have ht : ((bytesM (k :: ks)).take n).take 28 = k.bytes := by
        rw [List.take_take, hb, Nat.min_eq_left (by omega), List.take_append_of_le_length (by omega), List.take_of_length_le (by omega)]
      have hd : ((bytesM (k :: ks)).take n).drop 28 = (bytesM ks).take (n - 28) := by
        rw [List.drop_take, hb, List.drop_left' hl]
      rw [ht, hd, parse_bytes k (hg k List.mem_cons_self)]
      simp only
      rw [ih m (n - 28) (fun x hx => hg x (List.mem_cons_of_mem _ hx)) (by omega) (by rw [bytesM_length]; omega)]
      rw [show n / 28 = (n - 28) / 28 + 1 by omega, List.take_succ_cons]
theorem decodeM_cut (ks : List MarkD) (n : Nat) (hg : ∀ k ∈ ks, k.good = true) (hm : ks.length ≤ 4096) (hn : n ≤ (bytesM ks).length) : decodeM ((bytesM ks).take n) = ks.take (n / 28) :=
  decodeN_cut ks 4096 n hg hm hn
/-- A slice's first elements. -/
theorem run_slice_pre {P : Program} {t e : TypeId} {s : Nat} (ht : P.underlying t = some (.slice e)) (hi : (P.info? e).map (·.size) = some s) (a : Option Addr) (len cap h : Nat) (hh : h ≤ cap) (w : World) :
    (Instr.sliceAt t (.slice a len cap) none (some (.int .i64 (h : Int))) none).run P w = .ok (.slice a h cap) w := by
  obtain ⟨i, hi1, hi2⟩ := Option.map_eq_some_iff.1 hi
  simp [Instr.sliceAt, Instr.slice, Instr.sliceBounds, Instr.sliceBound, run_underlying ht, asIntOf, go_sem, hi1, hi2, sizeOf, typeInfo]
  intro h'; omega
theorem RdL.pre {α : Type} {s : Nat} {f : α → List Value} {w : World} {a : Option Addr} {len cap : Nat} {xs : List α} (h : RdL s f w (.slice a len cap) xs) (k : Nat) (hk : k ≤ xs.length) : RdL s f w (.slice a k cap) (xs.take k) := by
  rcases h with ⟨a', c, hv, hc, rfl⟩ | ⟨b, off, cap', hv, hne, h1, h2, h3, h4⟩
  · cases hv
    obtain rfl : k = 0 := by simpa using hk
    exact .inl ⟨_, _, rfl, hc, rfl⟩
  · cases hv
    by_cases e : k = 0
    · subst e; exact .inl ⟨_, _, rfl, h2, rfl⟩
    · have hl : (xs.take k).length = k := by rw [List.length_take]; omega
      refine .inr ⟨b, off, cap, by rw [hl], by intro h; rw [h] at hl; simp at hl; omega, by omega, h2, h3, ?_⟩
      intro i x hx j u hu
      rw [List.getElem?_take] at hx
      split at hx
      · exact h4 i x hx j u hu
      · cases hx
end Go.Proofs.Ytfgmnachckbimaa

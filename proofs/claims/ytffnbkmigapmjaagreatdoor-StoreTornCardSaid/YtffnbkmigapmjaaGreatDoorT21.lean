/-
  A disk's bounds, and that the calls keep them (plain).
  The walk of store.lay: a file, anew.
-/
import Derived.Test.YtffnbkmigapmjaaGreatDoorT20
set_option linter.unusedSimpArgs false
set_option linter.unusedVariables false
set_option maxRecDepth 100000
namespace Go.Proofs.YtffnbkmigapmjaaGreatDoor
structure FsOk (d : FsD) : Prop where
  f0 : -1 ≤ d.fuse
  f1 : d.fuse ≤ 9223372036854775807
  n : d.now.length ≤ 256
  r0 : 0 ≤ d.room
  r1 : d.room ≤ 16777216
theorem FsOk.fuse {d : FsD} (h : FsOk d) : -1 ≤ d.fuse ∧ d.fuse ≤ 9223372036854775807 := ⟨h.f0, h.f1⟩
theorem FsOk.room {d : FsD} (h : FsOk d) : 0 ≤ d.room ∧ d.room ≤ 16777216 := ⟨h.r0, h.r1⟩
/-- Bounds kept; at most k changes more that are not sure. -/
def FsGo (d d' : FsD) (k : Nat) : Prop := FsOk d' ∧ d'.loose.length ≤ d.loose.length + k
theorem FsGo.refl {d : FsD} (h : FsOk d) : FsGo d d 0 := ⟨h, Nat.le_refl _⟩
theorem FsGo.mono {d d' : FsD} {k m : Nat} (h : FsGo d d' k) (hk : k ≤ m) : FsGo d d' m := ⟨h.1, by have := h.2; omega⟩
theorem FsGo.trans {a b c : FsD} {k m : Nat} (h : FsGo a b k) (g : FsGo b c m) : FsGo a c (k + m) := ⟨g.1, by have := h.2; have := g.2; omega⟩
theorem power_go {d : FsD} (h : FsOk d) : FsGo d (powerD d).2 0 := by
  unfold powerD
  split
  · exact ⟨⟨h.f0, h.f1, h.n, h.r0, h.r1⟩, Nat.le_refl _⟩
  · refine ⟨⟨?_, ?_, h.n, h.r0, h.r1⟩, Nat.le_refl _⟩
    · show -1 ≤ (if 0 < d.fuse then d.fuse - 1 else d.fuse)
      have := h.f0; split <;> omega
    · show (if 0 < d.fuse then d.fuse - 1 else d.fuse) ≤ _
      have := h.f1; split <;> omega
theorem power_same (d : FsD) : (powerD d).2.now = d.now ∧ (powerD d).2.sure = d.sure ∧ (powerD d).2.loose = d.loose ∧ (powerD d).2.room = d.room ∧ (powerD d).2.file = d.file := by
  unfold powerD; split <;> exact ⟨rfl, rfl, rfl, rfl, rfl⟩
theorem ins_length (x : Nm × Nat) : ∀ l : Dir, (l.ins x).length = l.length + 1
  | [] => rfl
  | y :: r => by
    rw [Dir.ins]
    split
    · rfl
    · rw [List.length_cons, ins_length x r]; rfl
theorem del_le (l : Dir) (n : Nm) : (l.del n).length ≤ l.length := List.length_filter_le _ _
theorem put_le (l : Dir) (n : Nm) (x : Nat) : (l.put n x).length ≤ l.length + 1 := by
  unfold Dir.put; rw [ins_length]; have := del_le l n; omega
theorem del_lt {l : Dir} {n : Nm} {x : Nat} (h : (n, x) ∈ l) : (l.del n).length < l.length := by
  unfold Dir.del
  exact List.length_filter_lt_length_iff_exists.2 ⟨(n, x), h, by simp⟩
theorem on_le {d : FsD} {c : Chg} (hn : d.now.length ≤ 256) (hc : ∀ n x, c = .create n x → d.now.length < 256) : (c.on d.now).length ≤ 256 := by
  cases c with
  | create n x => have := put_le d.now n x; have := hc n x rfl; show (d.now.put n x).length ≤ _; omega
  | unlink n => have := del_le d.now n; show (d.now.del n).length ≤ _; omega
  | rename a b =>
    show (match d.now.look a with | some x => (d.now.put b x).del a | none => d.now).length ≤ 256
    cases hx : d.now.look a with
    | none => exact hn
    | some x =>
      show ((d.now.put b x).del a).length ≤ 256
      by_cases hab : a = b
      · subst hab
        have h1 : ((a, x) : Nm × Nat) ∈ d.now.put a x := (mem_ins _ _ _).2 (.inl rfl)
        have := del_lt h1
        have := put_le d.now a x
        omega
      · have h0 := look_mem hx
        have h1 : ((a, x) : Nm × Nat) ∈ d.now.put b x := (mem_ins _ _ _).2 (.inr (List.mem_filter.2 ⟨h0, by simpa using hab⟩))
        have := del_lt h1
        have := put_le d.now b x
        omega
theorem change_go {d : FsD} {c : Chg} {v lv : Value} (h : FsOk d) (hc : ∀ n x, c = .create n x → d.now.length < 256) : FsGo d (changeD d c v lv).2 1 := by
  unfold changeD
  split
  · exact ⟨⟨h.f0, h.f1, h.n, h.r0, h.r1⟩, by simp⟩
  · have hp := (power_go h).1
    obtain ⟨s1, s2, s3, s4, s5⟩ := power_same d
    exact ⟨⟨hp.f0, hp.f1, on_le h.n hc, hp.r0, hp.r1⟩, by show (d.loose ++ [(c, v)]).length ≤ _; simp⟩
theorem set_go {d : FsD} {x : Nat} {c : FileC} (h : FsOk d) : FsGo d (d.setFile x c) 0 := ⟨⟨h.f0, h.f1, h.n, h.r0, h.r1⟩, Nat.le_refl _⟩
theorem upd_go {d : FsD} {n : Nm} {g : FileC → FileC} (h : FsOk d) : FsGo d (d.upd n g) 0 := by
  unfold FsD.upd
  split
  · split
    · exact set_go h
    · exact FsGo.refl h
  · exact FsGo.refl h
theorem create_go {d : FsD} {n : Nm} {x : Nat} {v lv : Value} (h : FsOk d) : FsGo d (createD d n x v lv).2 1 := by
  unfold createD
  split
  · split
    · exact (FsGo.refl h).mono (by omega)
    · split
      · exact (FsGo.refl h).mono (by omega)
      · rename_i h1 h2 h3
        have := change_go (d := d.setFile x file0) (c := .create n x) (v := v) (lv := lv) (set_go h).1 (fun _ _ _ => by show d.now.length < 256; omega)
        exact this
  · exact (FsGo.refl h).mono (by omega)
theorem unlink_go {d : FsD} {n : Nm} {v lv : Value} (h : FsOk d) : FsGo d (unlinkD d n v lv).2 1 := by
  unfold unlinkD
  split
  · exact change_go h (fun _ _ e => by cases e)
  · exact (FsGo.refl h).mono (by omega)
theorem rename_go {d : FsD} {a b : Nm} {v lv : Value} (h : FsOk d) : FsGo d (renameD d a b v lv).2 1 := by
  unfold renameD
  split
  · split
    · exact (power_go h).mono (by omega)
    · exact change_go h (fun _ _ e => by cases e)
  · exact (FsGo.refl h).mono (by omega)
theorem sync_go {d : FsD} {n : Nm} (h : FsOk d) : FsGo d (syncD d n).2 0 := by
  unfold syncD
  split
  · split
    · exact (power_go h).trans (upd_go (power_go h).1)
    · exact power_go h
  · exact FsGo.refl h
theorem append_go {d : FsD} {n : Nm} {bs : List UInt8} {row : Value} (h : FsOk d) : FsGo d (appendD d n bs row).2 0 := by
  unfold appendD
  split
  · split
    · exact FsGo.refl h
    · split
      · exact (power_go h).trans (upd_go (power_go h).1)
      · exact power_go h
  · exact FsGo.refl h
theorem dirSync_go {d : FsD} {ms : Nat} (h : FsOk d) : FsGo d (dirSyncD d ms).2 0 := by
  unfold dirSyncD
  split
  · split
    · have hp := (power_go h).1
      exact ⟨⟨hp.f0, hp.f1, hp.n, hp.r0, hp.r1⟩, by show ([] : List (Chg × Value)).length ≤ _; simp⟩
    · exact power_go h
  · exact FsGo.refl h
end Go.Proofs.YtffnbkmigapmjaaGreatDoor

set_option linter.unusedSimpArgs false
set_option linter.unusedVariables false
set_option maxRecDepth 100000
namespace Go.Proofs.YtffnbkmigapmjaaGreatDoor
open Go.RowKit Go.Maps
/-- Steps that went well, one behind the other. -/
inductive Run (S : Nat → FsD → Int → FsD → Prop) (d0 : FsD) : Nat → FsD → Prop
  | zero : Run S d0 0 d0
  | step {i : Nat} {a b : FsD} : Run S d0 i a → S i a 0 b → Run S d0 (i + 1) b
def Outcome (S : Nat → FsD → Int → FsD → Prop) (n : Nat) (d0 : FsD) (er : Int) (fs : FsD) : Prop := (er = 0 ∧ Run S d0 n fs) ∨ (er ≠ 0 ∧ ∃ i a, i < n ∧ Run S d0 i a ∧ S i a er fs)
def layS (tmp nm : Nm) (bs : List UInt8) (i : Nat) (fs : FsD) (er : Int) (fs' : FsD) : Prop :=
  match i with
  | 0 => ∃ v lv, er = (if (unlinkD fs tmp v lv).1 = 4 then 0 else (unlinkD fs tmp v lv).1) ∧ fs' = (unlinkD fs tmp v lv).2
  | 1 => ∃ (x : FreshOf fs) (v lv : Value), er = (createD fs tmp x.x v lv).1 ∧ fs' = (createD fs tmp x.x v lv).2
  | 2 => ∃ row, er = (appendD fs tmp bs row).1 ∧ fs' = (appendD fs tmp bs row).2
  | 3 => er = (syncD fs tmp).1 ∧ fs' = (syncD fs tmp).2
  | 4 => ∃ v lv, er = (renameD fs tmp nm v lv).1 ∧ fs' = (renameD fs tmp nm v lv).2
  | _ => ∃ ms, er = (dirSyncD fs ms).1 ∧ fs' = (dirSyncD fs ms).2
structure LayAll (w : World) (ρ : Rho) (s sb tb qb nb bb cb : Nat) (tmp : Nm) (q : UInt8) (id : Int) (aB : Option Addr) (cB : Nat) (bs : List UInt8) (cl : List Value) : Prop where
  bx : LayBox w ρ sb tb s tmp
  hq : w.heap[qb]? = some (.cells #[.int .u8 q.toNat] 5 (0, 0))
  hn : w.heap[nb]? = some (.cells #[.int .i64 id] 3 (0, 0))
  hb : w.heap[bb]? = some (.cells #[.slice aB bs.length cB] 22 (0, 0))
  hc : RdL 1 v1 w (.slice (some ⟨cb, 0, none⟩) 6 6) cl
  hv : RdB w (.slice aB bs.length cB) bs
  rq : ρ qb = none
  rn : ρ nb = none
  rb : ρ bb = none
  rc : ρ cb = none
  fr : ∀ k, (Value.slice aB bs.length cB).ownBlock = some k → ρ k = none ∧ k < w.heap.size ∧ k ≠ s
  ne : sb ≠ s ∧ tb ≠ s ∧ qb ≠ s ∧ nb ≠ s ∧ bb ≠ s ∧ cb ≠ s
  lt : cb < w.heap.size
section
variable {w w' : World} {ρ ρ' : Rho} {s sb tb qb nb bb cb : Nat} {tmp : Nm} {q : UInt8} {id : Int} {aB : Option Addr} {cB : Nat} {bs : List UInt8} {cl : List Value}
theorem LayAll.go {F : Nat → Prop} (h : LayAll w ρ s sb tb qb nb bb cb tmp q id aB cB bs cl) (hk : Keeps F w w') (hF : ∀ k, F k → ρ.has k ∨ k = s) (hr : ∀ k, ρ k = none → k < w.heap.size → ρ' k = none) : LayAll w' ρ' s sb tb qb nb bb cb tmp q id aB cB bs cl := by
  have hn : ∀ {k : Nat}, ρ k = none → k ≠ s → ¬ F k := fun h1 h2 h3 => (hF _ h3).elim (Rho.not_has h1) h2
  obtain ⟨n1, n2, n3, n4, n5, n6⟩ := h.ne
  have lt : ∀ {b : Nat} {o : Obj}, w.heap[b]? = some o → b < w.heap.size := fun h => (Array.getElem?_eq_some_iff.1 h).1
  exact ⟨⟨hk.heap h.bx.bs (hn h.bx.rs n1), hk.heap h.bx.bt (hn h.bx.rt n2), hr _ h.bx.rs (lt h.bx.bs), hr _ h.bx.rt (lt h.bx.bt)⟩, hk.heap h.hq (hn h.rq n3), hk.heap h.hn (hn h.rn n4), hk.heap h.hb (hn h.rb n5),
    h.hc.keeps hk (fun b o l c e => by injection e with e; injection e with e; injection e with e; rw [← e]; exact hn h.rc n6), h.hv.keeps hk (fun k e => hn (h.fr k e).1 (h.fr k e).2.2),
    hr _ h.rq (lt h.hq), hr _ h.rn (lt h.hn), hr _ h.rb (lt h.hb), hr _ h.rc h.lt, fun k e => ⟨hr _ (h.fr k e).1 (h.fr k e).2.1, Nat.lt_of_lt_of_le (h.fr k e).2.1 hk.size, (h.fr k e).2.2⟩, h.ne, Nat.lt_of_lt_of_le h.lt hk.size⟩
end
/-- Between two steps. -/
structure LayP (w0 : World) (d : StoD) (ρ0 : Rho) (s sb tb qb nb bb cb : Nat) (tmp nm : Nm) (q : UInt8) (id : Int) (aB : Option Addr) (cB : Nat) (bs : List UInt8) (cl : List Value) (i : Nat) (fs : FsD) (ρ : Rho) (w : World) : Prop where
  at_ : StoAt w s { d with fs := fs } ρ
  step : StoStep w0 s d ρ0 w { d with fs := fs } ρ
  run : Run (layS tmp nm bs) d.fs i fs
  go : FsGo d.fs fs i
  all : LayAll w ρ s sb tb qb nb bb cb tmp q id aB cB bs cl
def LayX (w0 : World) (d : StoD) (ρ0 : Rho) (s sb tb : Nat) (tmp nm : Nm) (bs : List UInt8) (er : Int) (w : World) : Prop :=
  ∃ fs ρ i a, StoAt w s { d with fs := fs, down := d.down || decide (er = 2) } ρ ∧ StoStep w0 s d ρ0 w { d with fs := fs, down := d.down || decide (er = 2) } ρ ∧ i < 6 ∧ Run (layS tmp nm bs) d.fs i a ∧ layS tmp nm bs i a er fs ∧ FsGo d.fs fs 6 ∧ LayBox w ρ sb tb s tmp
section
variable {w0 : World} {d : StoD} {ρ0 : Rho} {s sb tb qb nb bb cb : Nat} {tmp nm : Nm} {q : UInt8} {id : Int} {aB : Option Addr} {cB : Nat} {bs : List UInt8} {cl : List Value}
theorem lay_after {i : Nat} (hi : i < 6) {fs fs' : FsD} {ρ ρ' : Rho} {w w' : World} {er : Int} (h : LayP w0 d ρ0 s sb tb qb nb bb cb tmp nm q id aB cB bs cl i fs ρ w) (hF : FsAt w' d.fb fs' ρ') (hst : FsStep w ρ w' ρ') (hS : layS tmp nm bs i fs er fs') (hgo : FsGo fs fs' 1) :
    w'.cell? ⟨s, 3, none⟩ = some (.bool d.down) ∧ w'.frozen? ⟨s, 3, none⟩ = false ∧
    (er = 0 → ∃ fs2 ρ2, LayP w0 d ρ0 s sb tb qb nb bb cb tmp nm q id aB cB bs cl (i + 1) fs2 ρ2 (w'.setCell ⟨s, 3, none⟩ (.bool d.down))) ∧ (er ≠ 0 → LayX w0 d ρ0 s sb tb tmp nm bs er (w'.setCell ⟨s, 3, none⟩ (.bool (d.down || decide (er = 2))))) := by
  obtain ⟨h1, h2⟩ := h.at_.fsStep (d := { d with fs := fs }) hF hst
  have hc := cells4 h1.hd
  have hk : ∀ b : Bool, Keeps (fun k => k = s) w' (w'.setCell ⟨s, 3, none⟩ (.bool b)) := fun b => Keeps.setCell _ _ _ rfl
  refine ⟨hc.1.2.2.2, hc.2 3, fun e0 => ?_, fun e0 => ?_⟩
  · subst e0
    obtain ⟨h3, h4⟩ := h1.head (d' := { d with fs := fs' }) (hk d.down) rfl (heap_setCell_same _ _ 3 _ _ _ h1.hd)
    refine ⟨fs', ρ', h3, (h.step.trans h2).trans h4, .step h.run hS, h.go.trans hgo, ?_⟩
    have a1 := h.all.go (ρ' := ρ') hst.keeps (fun k e => .inl e) (fun k e l => Rho.none_go e l hst)
    exact a1.go (ρ' := ρ') (hk d.down) (fun k e => .inr e) (fun k e _ => e)
  · obtain ⟨h3, h4⟩ := h1.head (d' := { d with fs := fs', down := d.down || decide (er = 2) }) (hk (d.down || decide (er = 2))) rfl (heap_setCell_same _ _ 3 _ _ _ h1.hd)
    have a1 := h.all.go (ρ' := ρ') hst.keeps (fun k e => .inl e) (fun k e l => Rho.none_go e l hst)
    have a2 := a1.go (ρ' := ρ') (hk (d.down || decide (er = 2))) (fun k e => .inr e) (fun k e _ => e)
    exact ⟨fs', ρ', i, fs, h3, (h.step.trans h2).trans h4, hi, h.run, hS, (h.go.trans hgo).mono (by omega), a2.bx⟩
end
end Go.Proofs.YtffnbkmigapmjaaGreatDoor

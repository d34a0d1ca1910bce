/- What the listed package-level variables give: the errors' cells, all different; bytealg.MaxLen holds a number. -/
import Derived.Test.YtaiigmiiidldcaaGreatDoorRows
import Derived.Stop.LaidErr
import Derived.Shelf.Vars
import Derived.Test.YtaiigmiiidldcaaGreatDoorQ12
set_option linter.unusedSimpArgs false
set_option linter.unusedVariables false
namespace Go.Proofs.YtaiigmiiidldcaaGreatDoor
open Go.RowKit Go.ChangeShapes

/-- An error's variable: its name and its text. -/
def errN : Nat → String × List UInt8
  | 103 => ("breviary/api.ErrRange", [97, 32, 110, 117, 109, 98, 101, 114, 32, 111, 117, 116, 32, 111, 102, 32, 105, 116, 115, 32, 114, 97, 110, 103, 101])
  | 104 => ("breviary/api.ErrMany", [116, 111, 111, 32, 109, 97, 110, 121])
  | 107 => ("breviary/api.ErrIO", [105, 116, 32, 99, 97, 110, 39, 116, 32, 98, 101, 32, 114, 101, 97, 100])
  | 109 => ("breviary/api.ErrNoEnt", [110, 111, 32, 115, 117, 99, 104, 32, 102, 105, 108, 101])
  | 110 => ("breviary/api.ErrExist", [116, 104, 101, 114, 101, 32, 105, 115, 32, 111, 110, 101])
  | 111 => ("breviary/api.ErrNotDir", [110, 111, 116, 32, 97, 32, 100, 105, 114, 101, 99, 116, 111, 114, 121])
  | 112 => ("breviary/api.ErrIsDir", [97, 32, 100, 105, 114, 101, 99, 116, 111, 114, 121])
  | 114 => ("breviary/api.ErrInval", [105, 116, 32, 109, 97, 121, 32, 110, 111, 116, 32, 98, 101])
  | 115 => ("breviary/api.ErrLong", [116, 111, 111, 32, 108, 111, 110, 103, 32, 97, 32, 110, 97, 109, 101])
  | 116 => ("breviary/api.ErrLoop", [116, 111, 111, 32, 109, 97, 110, 121, 32, 108, 105, 110, 107, 115, 32, 105, 110, 32, 97, 32, 114, 111, 119])
  | 118 => ("breviary/api.ErrFBig", [116, 111, 111, 32, 103, 114, 101, 97, 116, 32, 97, 32, 102, 105, 108, 101])
  | 119 => ("breviary/api.ErrNoSpc", [110, 111, 32, 115, 112, 97, 99, 101])
  | 120 => ("breviary/api.ErrMFile", [116, 111, 111, 32, 109, 97, 110, 121, 32, 111, 112, 101, 110])
  | 121 => ("breviary/api.ErrBadF", [110, 111, 116, 32, 111, 112, 101, 110])
  | 113 => ("breviary/api.ErrNotEmpty", [110, 111, 116, 32, 101, 109, 112, 116, 121])
  | 117 => ("breviary/api.ErrMLink", [116, 111, 111, 32, 109, 97, 110, 121, 32, 110, 97, 109, 101, 115])
  | _ => ("", [])

abbrev errD (c : Nat) : String × DataW Unit := ((errN c).1, .iface "*errors.errorString" (.ptr (.agg [.lit (.string (errN c).2)])))

def allErrs : List Nat := coreErrs ++ [113, 117]
theorem errN_inj : ∀ c ∈ allErrs, ∀ d ∈ allErrs, (errN c).2 = (errN d).2 → c = d := by decide
theorem errN_glob : (allErrs.all fun c => decide (Tryz.prog.globalNamed (errN c).1 = some (errG c)) && decide ((Tryz.prog.globals[errG c]?).map (·.type) = some 27)) = true := by kernel_rfl

theorem row_eT (u : TypeId) (h : Tryz.prog.typeName? 3 u = some "*errors.errorString") : u = eT :=
  typeName_ptr_named (nm := "errors.errorString") (tp := eT) (by kernel_rfl) (by kernel_rfl) (by decide) u h
theorem cells_eS : Tryz.prog.cellsOf 400 = 1 := by kernel_rfl
theorem cells_str : Tryz.prog.cellsOf 9 = 1 := by kernel_rfl

/-- One listed error: its cell, what it points to. -/
structure ErrAt (W : World) (c : Nat) (a : Addr) : Prop where
  cell : W.cell? ⟨errG c, 0, none⟩ = some (.iface eT (.pointer (some a)))
  text : ∃ s, W.cell? a = some (.string s) ∧ s.data.toList = (errN c).2
  row : ∃ cs t, W.heap[a.block]? = some (.cells cs t (0, 0))

set_option maxRecDepth 100000 in
theorem laid_err {W : World} {c : Nat} (hc : c ∈ allErrs) : ∀ {l : List (String × DataW Unit)}, laidMet Tryz.prog l W → errD c ∈ l → ∃ a, ErrAt W c a
  | [], _, hm => by cases hm
  | x :: r, h, hm => by
    rcases List.mem_cons.1 hm with e | hm'
    · subst e
      have hgl := List.all_eq_true.1 errN_glob c hc
      simp only [Bool.and_eq_true, decide_eq_true_eq] at hgl
      obtain ⟨ps, ⟨g0, t0, cs0, f0, p0, q0, hg0, ht0, hv0, hd0, _, e0⟩, _, hrows⟩ := h
      obtain rfl := Option.some.inj (hgl.1.symm.trans hg0)
      obtain rfl := Option.some.inj (hgl.2.symm.trans ht0)
      subst e0
      obtain ⟨l0⟩ := cs0
      have ok0 : ∀ u v, l0 = [.iface u v] → Value.okWide Tryz.prog W .any 0 u v := fun u v e => by
        subst e
        exact (hrows (errG c) 0 (by simp [MemPlace.row])).2 u v (by simpa using World.var?_cell hg0 hv0 0)
      obtain ⟨a0, s0, rfl, hc0, hs0, hz0, hp0⟩ := errorString_of_trod Tryz.underlying27 row_eT Tryz.underlying384 Tryz.underlying400 rfl rfl Tryz.underlying9 cells_eS cells_str hd0 ok0
      subst hp0
      refine ⟨a0, ?_, ⟨s0, hc0, hs0⟩, (hrows a0.block a0.off (by simp [MemPlace.row])).1⟩
      have := World.var?_cell hg0 hv0 0
      simpa using this
    · exact laid_err hc (laidMet.tail h) hm'

theorem ErrAt.inj {W : World} {c d : Nat} (hc : c ∈ allErrs) (hd : d ∈ allErrs) {a : Addr} (h : ErrAt W c a) (k : ErrAt W d a) : c = d := by
  obtain ⟨s, h1, h2⟩ := h.text
  obtain ⟨s', k1, k2⟩ := k.text
  have e : s = s' := by
    have := h1.symm.trans k1
    simpa using this
  subst e
  exact errN_inj c hc d hd (h2.symm.trans k2)

theorem ErrAt.spot {W : World} {c : Nat} {a : Addr} (h : ErrAt W c a) : a.spot = none := by
  obtain ⟨s, h1, _⟩ := h.text
  obtain ⟨cs, t, h2⟩ := h.row
  unfold World.cell? at h1
  rw [h2] at h1
  cases hs : a.spot with
  | none => rfl
  | some k => rw [hs] at h1; simp at h1

theorem ErrAt.lt {W : World} {c : Nat} {a : Addr} (h : ErrAt W c a) : a.block < W.heap.size := by
  obtain ⟨cs, t, h2⟩ := h.row
  exact (Array.getElem?_eq_some_iff.1 h2).1

theorem ErrAt.fr {W : World} {c : Nat} {a : Addr} (h : ErrAt W c a) : W.frozen? a = false := by
  obtain ⟨cs, t, h2⟩ := h.row
  unfold World.frozen?
  rw [h2]
  simp

theorem ErrAt.shp {W : World} {c : Nat} {a : Addr} (h : ErrAt W c a) : ∃ e n, W.shape? a.block = some (e, n) ∧ 0 < n ∧ W.frozen? ⟨a.block, n, none⟩ = false := by
  obtain ⟨s, h1, _⟩ := h.text
  obtain ⟨cs, t, h2⟩ := h.row
  refine ⟨t, cs.size, ?_, ?_, ?_⟩
  · unfold World.shape?; rw [h2]
  · unfold World.cell? at h1
    rw [h2, h.spot] at h1
    rcases Nat.lt_or_ge a.off cs.size with hlt | hge
    · omega
    · exfalso
      simp [Array.getElem?_eq_none hge] at h1
  · unfold World.frozen?; rw [h2]; simp

theorem big30 : decide (30 < (begin Tryz.prog (fun _ _ => 0) default).world.heap.size) = true := by kernel_rfl
theorem few30 : decide (Tryz.prog.globals.size ≤ 30) = true := by kernel_rfl

theorem maxCell_of {W : World} (h : W.ShapedOpen Tryz.prog) : MaxCell W :=
  cell_of_shapedOpen_int (g := 25) (t := 3) (zero := #[.int .i64 0]) h (of_decide_eq_true (by kernel_rfl)) (by kernel_rfl) rfl (by kernel_rfl) (by kernel_rfl) Tryz.underlying3

/-- Where the errors of L (the chapter's own among them) are listed, the globals are as the contracts ask. -/
theorem glob_of {l : List (String × DataW Unit)} {L : List Nat} {W : World} (h : laidMet Tryz.prog l W) (hs : W.ShapedOpen Tryz.prog) (hcore : ∀ c ∈ coreErrs, c ∈ L) (hall : ∀ c ∈ L, c ∈ allErrs) (hl : ∀ c ∈ L, errD c ∈ l) :
    ∃ A, Glob W.heap.size A L W := by
  have h103 : (103 : Nat) ∈ L := hcore 103 (by decide)
  have hex : ∀ c, ∃ a, (c ∈ L → ErrAt W c a) ∧ ∃ d, d ∈ L ∧ ErrAt W d a := fun c => by
    by_cases hc : c ∈ L
    · obtain ⟨a, ha⟩ := laid_err (hall c hc) h (hl c hc)
      exact ⟨a, fun _ => ha, c, hc, ha⟩
    · obtain ⟨a, ha⟩ := laid_err (hall 103 h103) h (hl 103 h103)
      exact ⟨a, fun hc' => absurd hc' hc, 103, h103, ha⟩
  obtain ⟨A, hA⟩ := Classical.axiomOfChoice hex
  refine ⟨A, { size := Nat.le_refl _, low := ?_, core := hcore, cell := fun c hc => ((hA c).1 hc).cell, below := fun c => ?_, spot := fun c => ?_, inj := fun c hc d hd e => ?_, fr := fun c => ?_, shp := fun c => ?_ }⟩
  · obtain ⟨o, _, ho, _⟩ := hs.2 30 (of_decide_eq_true few30) (of_decide_eq_true big30)
    have := (Array.getElem?_eq_some_iff.1 ho).1
    omega
  · obtain ⟨d, _, hd⟩ := (hA c).2; exact hd.lt
  · obtain ⟨d, _, hd⟩ := (hA c).2; exact hd.spot
  · exact ErrAt.inj (hall c hc) (hall d hd) ((hA c).1 hc) (e ▸ (hA d).1 hd)
  · obtain ⟨d, _, hd⟩ := (hA c).2; exact hd.fr
  · obtain ⟨d, _, hd⟩ := (hA c).2; exact hd.shp
end Go.Proofs.YtaiigmiiidldcaaGreatDoor

/- slices.SortFunc at cells. -/
import Derived.Shelf.SlSortCmp.WholeK
import Derived.Test.YtaiigmiiidldcaaGreatDoorQ14
import Derived.Test.YtaiigmiiidldcaaGreatDoorQ15
set_option linter.unusedSimpArgs false
set_option linter.unusedVariables false
namespace Go.Proofs.YtaiigmiiidldcaaGreatDoor
open Go.RowKit Go.Maps Go.Sort Go.Shelf
open Go.ChangeMaps (setBlock)

theorem ltC (x y : Cel) : ltOf ordC x y = decide (x.1 < y.1 ∨ x.1 = y.1 ∧ x.2 < y.2) := by
  obtain ⟨x1, x2⟩ := x
  obtain ⟨y1, y2⟩ := y
  unfold ltOf ordC orI Lib.compareInt
  simp only
  by_cases h1 : x1 < y1
  · simp [h1]
  · by_cases h2 : y1 < x1
    · simp [h1, h2, show ¬ x1 = y1 by omega]
    · obtain rfl : x1 = y1 := by omega
      by_cases h3 : x2 < y2
      · simp [h3]
      · by_cases h4 : y2 < x2 <;> simp [h3, h4]

theorem swoC : SWO (ltOf ordC) := {
  irrefl := fun x => by rw [ltC]; simp
  trans := fun x y z h1 h2 => by rw [ltC] at *; simp only [decide_eq_true_eq] at *; omega
  ntrans := fun x y z h1 h2 => by rw [ltC] at *; simp only [decide_eq_false_iff_not] at *; omega }

theorem cmpC (blk off size : Nat) (w : World) : CmpLays Tryz.prog 72 #[] celCells 2 ordC blk off size w := fun m os dk hs x y => by
  have := body_order x y (sortWorldK celCells 2 w blk off m dk os)
  simpa [celV, celCells] using this

theorem flatC_get (l : List Cel) (t : Nat) : (l.flatMap celCells)[t]? = (l[t / 2]?).map fun c => (celCells c).getD (t % 2) default := by
  induction l generalizing t with
  | nil => simp
  | cons x l ih =>
    obtain ⟨a, b⟩ := x
    match t with
    | 0 => rfl
    | 1 => rfl
    | t + 2 =>
      have e1 : (t + 2) / 2 = t / 2 + 1 := by omega
      have e2 : (t + 2) % 2 = t % 2 := by omega
      rw [e1, e2, List.getElem?_cons_succ, ← ih t]
      rfl

theorem holdsC {w : World} {g : Nat} {cur : Array Value} {e : TypeId} {ss : List Cel} (hb : w.heap[g]? = some (.cells cur e (0, 0))) (ht : cur.toList.take (ss.length * 2) = ss.flatMap celCells) : HoldsK celCells 2 w g 0 ss.toArray := by
  intro j hj
  rw [size_flatK] at hj
  simp only [List.size_toArray] at hj
  refine ⟨?_, by simp [World.frozen?, hb]⟩
  rw [get_flatK _ _ _ _ (by simpa using hj)]
  have h1 := congrArg (fun L : List Value => L[j]?) ht
  simp only [List.getElem?_take_of_lt hj, flatC_get, Array.getElem?_toList] at h1
  have hj2 : j / 2 < ss.length := by omega
  rw [List.getElem?_eq_getElem hj2] at h1
  simp only [Option.map_some] at h1
  simp only [World.cell?, hb, Nat.zero_add, Option.isSome_none, Bool.false_eq_true, if_false, h1, id]
  congr 1
  rw [show ss.toArray[j / 2]! = ss[j / 2] from by simp [hj2]]
  generalize ss[j / 2] = c
  rcases Nat.mod_two_eq_zero_or_one j with h | h <;> rw [h] <;> rfl

theorem grownBy_sortedK {w : World} {g n : Nat} {os : Array Obj} (d : Array Cel) : w.grownBy (sortWorldK celCells 2 w g 0 n d os) (some g) := by
  refine ⟨rfl, rfl, rfl, by simp [sortWorldK, putRowK], fun k hk hne => ?_⟩
  unfold sortWorldK putRowK
  rw [heap_grow_old _ _ (by simpa using hk)]
  have : g ≠ k := fun e => hne (by rw [e])
  simp [putRow, mapBlock, Sort.ahead, Array.getElem?_modify, this]

set_option maxHeartbeats 400000 in
theorem insC_none (p : Option Addr) (cap : Nat) (fv : Value) (w : World) :
    Calls Tryz.prog 213 #[.slice p 0 cap, .int .i64 0, .int .i64 0, fv] w fun e w' => e = .returned (.tuple #[]) ∧ w = w' := by
  go_enter Tryz.func213, Tryz.ntmps213
  go_wp2_with fail
  refine wp_loop_rounds 1 ?_
  rw [rounds_succ]
  go_wp2_with fail
  go_end0
  exact ⟨rfl, rfl⟩

set_option maxHeartbeats 400000 in
theorem pdqC_none (p : Option Addr) (cap : Nat) (lim : Int) (fv : Value) (w : World) :
    Calls Tryz.prog 143 #[.slice p 0 cap, .int .i64 0, .int .i64 0, .int .i64 lim, fv] w fun e w' => e = .returned (.tuple #[]) ∧ w = w' := by
  have hi := insC_none p cap fv w
  go_enter Tryz.func143, Tryz.ntmps143
  go_wp2_with fail
  refine wp_loop_rounds 1 ?_
  rw [rounds_succ]
  go_wp2_with fail
  refine hi.mono ?_
  rintro e w' ⟨rfl, rfl⟩
  go_wp2_with fail
  (try simp only [Exit.inBlock, Exit.then])
  refine bodyPost_ret (results_none rfl _ _ _) rfl ?_
  exact ⟨rfl, rfl⟩

set_option maxHeartbeats 400000 in
theorem sortC_none (p : Option Addr) (cap : Nat) (fv : Value) (w : World) :
    Calls Tryz.prog 71 #[.slice p 0 cap, fv] w fun e w' => e = .returned (.tuple #[]) ∧ w = w' := by
  have hl := Tryz.bits_Len 0 w (by omega) (by omega)
  have hp := fun lim => pdqC_none p cap lim fv w
  go_enter Tryz.func71, Tryz.ntmps71
  go_wp2_with fail
  refine hl.mono ?_
  rintro e w' ⟨rfl, rfl⟩
  go_wp2_with fail
  refine (hp _).mono ?_
  rintro e w' ⟨rfl, rfl⟩
  go_wp2_with fail
  go_end0
  exact ⟨rfl, rfl⟩

theorem enters_order : ∀ args w, (callFunc 72 args).run Tryz.prog w = .ok (.enter 72 args) w := enters_of Tryz.func72 (by kernel_rfl) rfl

/-- slices.SortFunc of a row of cells of the call's own. -/
theorem sort_cells_own {w : World} {base : Nat} {v : Value} {l : List Cel} (h : w.ownsRow base tCell 2 v l.length (l.flatMap celCells)) (hl : l.length < 1048576) :
    Calls Tryz.prog 71 #[v, .func (.func 72) #[] #[]] w fun e w' => e = .returned (.tuple #[]) ∧ w.grownBy w' v.ownBlock := by
  rcases h.2 with ⟨rfl, h0⟩ | ⟨g, cap, cur, rfl, hbase, hh, h1, h2, h3, h4⟩
  · refine (sortC_none none 0 _ w).mono ?_
    rintro e w' ⟨rfl, rfl⟩
    exact ⟨rfl, ⟨rfl, rfl, rfl, Nat.le_refl _, fun _ _ _ => rfl⟩⟩
  · have hH := holdsC (ss := l) hh h4
    refine (AnyQ.slices_SortFunc Tryz.sortC 2 Tryz.isAgg52 Tryz.sizeOf52 celCells (fun _ => rfl) (fun x v hv => by simp [celCells] at hv; rcases hv with rfl | rfl <;> rfl) ordC swoC 72 #[] g 0 cap l.toArray w enters_order (cmpC _ _ _ _) hH (lt_of_heap hh) (by simp; omega)).mono ?_
    rintro e w' ⟨rfl, d', n, os, hp, hs, rfl⟩
    exact ⟨rfl, grownBy_sortedK _⟩
end Go.Proofs.YtaiigmiiidldcaaGreatDoor

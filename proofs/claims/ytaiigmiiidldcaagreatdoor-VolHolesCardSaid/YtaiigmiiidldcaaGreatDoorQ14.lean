/- body.order: one cell held against another one. -/
import Derived.Deep.RegionHeld3
import Derived.Shelf.SlSortCmp.Insertion
import Derived.Test.YtaiigmiiidldcaaGreatDoorQ05
import Derived.Test.YtaiigmiiidldcaaGreatDoorQ10
import Derived.Test.YtaiigmiiidldcaaGreatDoorQ13
set_option linter.unusedSimpArgs false
set_option linter.unusedVariables false
namespace Go.Proofs.YtaiigmiiidldcaaGreatDoor
open Go.RowKit Go.Maps Go.Sort Go.Shelf
open Go.ChangeMaps (setBlock)

def orI (a b : Int) : Int := if a = 0 then b else a

set_option maxRecDepth 100000 in
set_option maxHeartbeats 1000000 in
theorem cmp_Or {w : World} {g : Nat} {a b : Int} (hb : Blk w g 3 #[.int .i64 a, .int .i64 b]) :
    Calls Tryz.prog 145 #[.slice (some ⟨g, 0, none⟩) 2 2] w fun e w' => e = .returned (.int .i64 (orI a b)) ∧ w = w' := by
  have c0 := hb.cell 0
  have c1 := hb.cell 1
  simp at c0 c1
  have hlt := hb.lt
  clear hb
  unfold orI
  by_cases h : a = 0
  · subst h
    rw [if_pos rfl]
    by_cases h2 : b = 0
    · subst h2
      go_enter Tryz.func145, Tryz.ntmps145
      go_wp2_with fail
      refine wp_loop_rounds 3 ?_
      rw [rounds_succ]
      go_wp2_with fail
      rw [rounds_succ]
      go_wp2_with fail
      rw [rounds_succ]
      go_wp2_with fail
      go_ret
      exact ⟨rfl, rfl⟩
    · have h3 : (b != 0) = true := by simpa using h2
      clear h2
      go_enter Tryz.func145, Tryz.ntmps145
      go_wp2_with fail
      refine wp_loop_rounds 3 ?_
      rw [rounds_succ]
      go_wp2_with fail
      rw [rounds_succ]
      go_wp2_with fail
      go_ret
      exact ⟨rfl, rfl⟩
  · rw [if_neg h]
    have h3 : (a != 0) = true := by simpa using h
    clear h
    go_enter Tryz.func145, Tryz.ntmps145
    go_wp2_with fail
    refine wp_loop_rounds 3 ?_
    rw [rounds_succ]
    go_wp2_with fail
    go_ret
    exact ⟨rfl, rfl⟩

def ordC (x y : Cel) : Int := orI (Lib.compareInt x.1 y.1) (Lib.compareInt x.2 y.2)

set_option maxRecDepth 100000 in
set_option maxHeartbeats 1000000 in
theorem body_order (x y : Cel) (w : World) :
    Calls Tryz.prog 72 #[celV x, celV y] w fun e w' => e = .returned (.int .i64 (ordC x y)) ∧ ∃ q os', w' = grow (w.drewN q) os' := by
  obtain ⟨x1, x2⟩ := x
  obtain ⟨y1, y2⟩ := y
  unfold ordC
  have b0 := (Blk.new w tCell #[.int .i64 x1, .int .i64 x2]).alloc (.cells #[.int .i64 y1, .int .i64 y2] tCell)
  have b1 := Blk.new (w.alloc (.cells #[.int .i64 x1, .int .i64 x2] tCell)) tCell #[.int .i64 y1, .int .i64 y2]
  rw [World.size_alloc] at b1
  have c0 := b0.cell 0
  have c1 := b0.cell 1
  have d0 := b1.cell 0
  have d1 := b1.cell 1
  simp only [List.getElem?_toArray, List.getElem?_cons_zero, List.getElem?_cons_succ] at c0 c1 d0 d1
  have b2 := (Blk.new ((w.alloc (.cells #[.int .i64 x1, .int .i64 x2] tCell)).alloc (.cells #[.int .i64 y1, .int .i64 y2] tCell)) 3 #[.int .i64 (Lib.compareInt x1 y1), .int .i64 (Lib.compareInt x2 y2)]).drew
  rw [World.size_alloc, World.size_alloc] at b2
  clear b0 b1
  simp only [celV]
  go_enter Tryz.func72, Tryz.ntmps72
  go_wp2_with fail
  go_region_held3 (fun w' => w'.cell? ⟨w.heap.size, 0, none⟩ = some (.int .i64 x1) ∧ w'.cell? ⟨w.heap.size, 1, none⟩ = some (.int .i64 x2) ∧ w'.cell? ⟨w.heap.size + 1, 0, none⟩ = some (.int .i64 y1) ∧ w'.cell? ⟨w.heap.size + 1, 1, none⟩ = some (.int .i64 y2)) (refine ⟨?_, ?_, ?_, ?_⟩ <;> (repeat (first | with_reducible assumption | with_reducible refine keepAlloc ?_ | with_reducible refine keepDrew ?_)))
    (first
      | (go_at_call 146; refine (Tryz.cmp_Compare_int _ _ _).mono ?_; rintro e w' ⟨rfl, rfl⟩)
      | (go_at_call 145; refine (cmp_Or b2).mono ?_; rintro e w' ⟨rfl, rfl⟩))
  go_wp2_with fail
  go_ret
  refine ⟨rfl, 1, #[.cells #[.int .i64 x1, .int .i64 x2] tCell, .cells #[.int .i64 y1, .int .i64 y2] tCell, .cells #[.int .i64 (Lib.compareInt x1 y1), .int .i64 (Lib.compareInt x2 y2)] 3], ?_⟩
  simp only [alloc_eq_grow, grow_grow]
  rfl
end Go.Proofs.YtaiigmiiidldcaaGreatDoor

/- slices.Sort of a row of ints of the call's own; Sorting ints: the same for each order of the list. -/
import Derived.Sort.OwnSortedInts
import Derived.Shelf.Slices.In.SortNone
import Derived.Test.YtaiigmiiidldcaaGreatDoorQ19
import Derived.Test.YtaiigmiiidldcaaGreatDoorQ20
set_option linter.unusedSimpArgs false
set_option linter.unusedVariables false
namespace Go.Proofs.YtaiigmiiidldcaaGreatDoor
open Go.RowKit Go.Maps
open Go.ChangeMaps (setBlock)

abbrev tInt : TypeId := 3

def sortI (l : List Int) : List Int := l.mergeSort fun x y => decide (x ≤ y)
theorem sortI_length (l : List Int) : (sortI l).length = l.length := by unfold sortI; simp
theorem sortI_perm (l : List Int) : (sortI l).Perm l := List.mergeSort_perm _ _

theorem sort_ints_own {w : World} {base : Nat} {v : Value} {l : List Int} (h : w.ownsRow base tInt 1 v l.length (l.map intV)) (hl : l.length < 1048576) :
    Calls Tryz.prog 148 #[v] w fun e w' => e = .returned (.tuple #[]) ∧ w'.ownsRow base tInt 1 v l.length ((sortI l).map intV) ∧ w.grownBy w' v.ownBlock := by
  rcases h.2 with ⟨rfl, h0⟩ | ⟨g, cap, cur, rfl, hbase, hh, h1, h2, h3, h4⟩
  · obtain rfl : l = [] := List.eq_nil_of_length_eq_zero h0
    refine (Any.slices_Sort_int_none Tryz.lays189 none 0 w).mono ?_
    rintro e w' ⟨rfl, rfl⟩
    refine ⟨rfl, ?_, ⟨rfl, rfl, rfl, Nat.le_refl _, fun _ _ _ => rfl⟩⟩
    have : sortI [] = [] := List.length_eq_zero_iff.1 (sortI_length [])
    rw [this]
    exact h
  · have hH := holds_of_blockI (ss := l) hh (by rw [Nat.mul_one] at h4; exact h4)
    refine (Tryz.slices_Sort_int g 0 cap l w hH (lt_of_heap hh) (by omega)).mono ?_
    rintro e w' ⟨rfl, n, os, rfl⟩
    refine ⟨rfl, ?_, grownBy_sortedI _⟩
    exact ownsRow_sortedI (ts := sortI l) (sortI_length l) hbase hh h1 h2 h3
end Go.Proofs.YtaiigmiiidldcaaGreatDoor

namespace Go.Proofs.YtaiigmiiidldcaaGreatDoor
open Go.RowKit

theorem sortI_sorted (l : List Int) : (sortI l).Pairwise (fun x y => x ≤ y) := by
  have h := List.pairwise_mergeSort (le := fun x y : Int => decide (x ≤ y)) (fun a b c h1 h2 => by simp at *; omega) (fun a b => by simp; omega) l
  exact h.imp (by intro a b h; simpa using h)

theorem sortI_congr {l l' : List Int} (h : l.Perm l') : sortI l = sortI l' := by
  have hp : (sortI l).Perm (sortI l') := (sortI_perm l).trans (h.trans (sortI_perm l').symm)
  exact List.Perm.eq_of_pairwise (fun a b _ _ h1 h2 => Int.le_antisymm h1 h2) (sortI_sorted l) (sortI_sorted l') hp
end Go.Proofs.YtaiigmiiidldcaaGreatDoor

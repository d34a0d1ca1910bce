/- Package body: Clone. -/
import Derived.Deep.RegionHeld3
import Derived.Test.YtaiigmiiidldcaaGreatDoorQ07
set_option linter.unusedSimpArgs false
set_option linter.unusedVariables false
namespace Go.Proofs.YtaiigmiiidldcaaGreatDoor
open Go.RowKit Go.Maps
open Go.ChangeMaps (setBlock)

set_option maxRecDepth 100000 in
set_option maxHeartbeats 1000000 in
theorem body_Clone {w : World} {b : Nat} {B : Bod} {F : List Nat} (h : BodyRep w b B F) :
    Calls Tryz.prog 94 #[.pointer (some ⟨b, 0, none⟩)] w fun e w' => ∃ d' F', e = .returned (.pointer (some ⟨d', 0, none⟩)) ∧ Mods [] w w' ∧ BodyRep w' d' B F' ∧ (∀ g ∈ F', w.heap.size ≤ g) ∧ F'.Nodup ∧ d' ∈ F' := by
  obtain ⟨ml, md, raw, b1, b2, b3, b4, b5, b6, rfl⟩ := h
  obtain ⟨es1, k1, e1, e2⟩ := b2.cloned
  obtain ⟨es2, k2, f1, f2⟩ := b3.cloned
  have c0 := b1.cell 0
  have c1 := b1.cell 1
  simp at c0 c1
  have hlt := b1.lt
  have hf2 : ∀ o, (w.alloc o).drew.heap[md]? = some (.map es2 k2) := fun o => by
    have := ((Mods.refl [] w).alloc o).drew.at f1 (by simp)
    exact this
  have g2 := MapRep.cloned (b3.alloc (.map es1 k1)).drew
  obtain ⟨es2', k2', f1', f2'⟩ := g2
  rw [hf2 (.map es1 k1)] at f1'
  cases f1'
  have d0 := fun o => ((b1.alloc o).drew).cell 0
  have d1 := fun o => ((b1.alloc o).drew).cell 1
  have q0 := fun o o' => (((b1.alloc o).alloc o').drew).cell 0
  have q1 := fun o o' => (((b1.alloc o).alloc o').drew).cell 1
  have r0 := fun o o' o'' => ((((b1.alloc o).alloc o').alloc o'').drew).cell 0
  have r1 := fun o o' o'' => ((((b1.alloc o).alloc o').alloc o'').drew).cell 1
  simp at d0 d1 q0 q1 r0 r1
  have hd := b3.lt
  clear b1
  go_enter Tryz.func94, Tryz.ntmps94
  go_wp2_with fail
  go_region_held3 (fun w' => w'.cell? ⟨b, 0, none⟩ = some (.map (some ml)) ∧ w'.cell? ⟨b, 1, none⟩ = some (.map (some md))) (first | exact ⟨c0, c1⟩ | exact ⟨d0 _, d1 _⟩ | exact ⟨q0 _ _, q1 _ _⟩ | exact ⟨r0 _ _ _, r1 _ _ _⟩)
    (first | (go_at_call 171; refine (clone_cellB ml es1 k1 _ ?_).mono ?_; (exact e1); rintro e w' ⟨rfl, rfl⟩) | (go_at_call 172; refine (clone_cellI md es2 k2 _ ?_).mono ?_; (exact hf2 _); rintro e w' ⟨rfl, rfl⟩))
  go_wp2_with fail
  go_ret
  simp only [World.size_drew, World.size_alloc] at f2'
  refine ⟨w.heap.size + 1 + 1, [w.heap.size + 1 + 1, w.heap.size, w.heap.size + 1], by simp, (((Mods.refl _ _).alloc _).alloc _).alloc _ |>.drew, ⟨w.heap.size, w.heap.size + 1, raw, ?_, ?_, ?_, b4, ?_, by omega, rfl⟩, ?_, ?_, ?_⟩
  · have := (Blk.new ((w.alloc (.map es1 k1)).alloc (.map es2 k2)) tBody #[.map (some w.heap.size), .map (some (w.heap.size + 1))]).drew
    simpa using this
  · exact ((e2.alloc _).alloc _).drew
  · exact f2'.alloc _
  · intro p hp
    exact (b5 p hp).mods ((((Mods.refl [] w).alloc _).alloc _).alloc _ |>.drew) (by intro g hg; cases hg)
  · simp; omega
  · simp; omega
  · simp
end Go.Proofs.YtaiigmiiidldcaaGreatDoor

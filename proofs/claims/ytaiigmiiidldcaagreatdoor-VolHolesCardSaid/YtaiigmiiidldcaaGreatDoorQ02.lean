/- What the package-level errors hold, and that it is kept; Package node: what its calls do. -/
import Derived.Test.YtaiigmiiidldcaaGreatDoorProg
import Derived.Test.YtaiigmiiidldcaaGreatDoorQ01
set_option linter.unusedSimpArgs false
set_option linter.unusedVariables false
namespace Go.Proofs.YtaiigmiiidldcaaGreatDoor
open Go.RowKit

/-- The pointer type of errors.New's. -/
abbrev eT : TypeId := 384
/-- The block of an error's variable. -/
def errG : Nat → Nat
  | 103 => 7
  | 104 => 8
  | 107 => 5
  | 109 => 0
  | 110 => 13
  | 111 => 10
  | 112 => 1
  | 114 => 3
  | 115 => 12
  | 116 => 20
  | 118 => 2
  | 119 => 6
  | 120 => 4
  | 121 => 11
  | 113 => 14
  | 117 => 9
  | _ => 0

def coreErrs : List Nat := [103, 104, 107, 109, 110, 111, 112, 114, 115, 116, 118, 119, 120, 121]

/-- All that the code reads of package-level variables lies below B0, as it was laid; L: the errors that are laid. -/
structure Glob (B0 : Nat) (A : Nat → Addr) (L : List Nat) (w : World) : Prop where
  size : B0 ≤ w.heap.size
  low : 30 ≤ B0
  core : ∀ c ∈ coreErrs, c ∈ L
  cell : ∀ c ∈ L, w.cell? ⟨errG c, 0, none⟩ = some (.iface eT (.pointer (some (A c))))
  below : ∀ c, (A c).block < B0
  spot : ∀ c, (A c).spot = none
  inj : ∀ c ∈ L, ∀ d ∈ L, A c = A d → c = d
  fr : ∀ c, w.frozen? (A c) = false
  shp : ∀ c, ∃ e n, w.shape? (A c).block = some (e, n) ∧ 0 < n ∧ w.frozen? ⟨(A c).block, n, none⟩ = false

theorem errG_lt (c : Nat) : errG c < 30 := by
  unfold errG
  split <;> decide

section
variable {B0 : Nat} {A : Nat → Addr} {L : List Nat} {w w' : World}
theorem Glob.lt (G : Glob B0 A L w) (g : Nat) (h : g < 30) : g < w.heap.size := by have := G.size; have := G.low; omega
theorem Glob.keep (G : Glob B0 A L w) (h : ∀ k, k < B0 → w'.heap[k]? = w.heap[k]?) (hs : B0 ≤ w'.heap.size) : Glob B0 A L w' := by
  have hc : ∀ a : Addr, a.block < B0 → w'.cell? a = w.cell? a := fun a ha => World.cell?_of_block (h a.block ha)
  have hf : ∀ a : Addr, a.block < B0 → w'.frozen? a = w.frozen? a := fun a ha => World.frozen?_of_block (h a.block ha)
  refine ⟨hs, G.low, G.core, fun c hc' => ?_, G.below, G.spot, G.inj, fun c => ?_, fun c => ?_⟩
  · rw [hc _ (show errG c < B0 from by have := errG_lt c; have := G.low; omega)]; exact G.cell c hc'
  · rw [hf _ (G.below c)]; exact G.fr c
  · obtain ⟨e, n, h1, h2, h3⟩ := G.shp c
    refine ⟨e, n, ?_, h2, ?_⟩
    · rw [← h1]; unfold World.shape?; rw [h _ (G.below c)]
    · rw [hf ⟨(A c).block, n, none⟩ (G.below c)]; exact h3
theorem Glob.mods {F : List Nat} (G : Glob B0 A L w) (m : Mods F w w') (hF : ∀ g ∈ F, B0 ≤ g) : Glob B0 A L w' :=
  G.keep (fun k hk => m.block k (by have := G.size; omega) (fun hk' => by have := hF k hk'; omega)) (Nat.le_trans G.size m.size)
theorem Glob.mods0 (G : Glob B0 A L w) (m : Mods [] w w') : Glob B0 A L w' := G.mods m (by simp)
end
end Go.Proofs.YtaiigmiiidldcaaGreatDoor

namespace Go.Proofs.YtaiigmiiidldcaaGreatDoor
open Go.RowKit Go.Maps
open Go.ChangeMaps (setBlock)

set_option maxHeartbeats 400000 in
theorem node_id (n : Int) (h1 : 1 ≤ n) (h2 : n ≤ 16777215) (w : World) :
    Calls Tryz.prog 225 #[.int .i64 n] w fun e w' => e = .returned (.bool true) ∧ w = w' := by
  go_enter Tryz.func225, Tryz.ntmps225
  go_wp2
  go_ret
  exact ⟨rfl, rfl⟩

set_option maxHeartbeats 400000 in
theorem node_kind (n : Int) (h1 : 1 ≤ n) (h2 : n ≤ 3) (w : World) :
    Calls Tryz.prog 226 #[.int .i64 n] w fun e w' => e = .returned (.bool true) ∧ w = w' := by
  go_enter Tryz.func226, Tryz.ntmps226
  go_wp2
  go_ret
  exact ⟨rfl, rfl⟩

set_option maxHeartbeats 1000000 in
theorem node_Valid_file (i l s : Int) (h1 : 1 ≤ i) (h2 : i ≤ 16777215) (h3 : 0 ≤ l) (h4 : l ≤ 16) (h5 : 0 ≤ s) (h6 : s ≤ 16384) (w : World) :
    Calls Tryz.prog 149 #[.agg #[.int .i64 i, .int .i64 1, .int .i64 l, .int .i64 s, .string ByteArray.empty, .int .i64 0]] w fun e w' => e = .returned .nilIface ∧ Mods [] w w' := by
  go_enter Tryz.func149, Tryz.ntmps149
  go_wp2_with (first | (go_at_call 225; refine (node_id _ (by omega) (by omega) _).mono ?_; rintro e w' ⟨rfl, rfl⟩) | (go_at_call 226; refine (node_kind _ (by omega) (by omega) _).mono ?_; rintro e w' ⟨rfl, rfl⟩))
  go_ret
  exact ⟨rfl, (Mods.refl _ _).alloc _⟩

set_option maxHeartbeats 1000000 in
theorem node_Valid_dir (i l p : Int) (h1 : 1 ≤ i) (h2 : i ≤ 16777215) (h3 : 0 ≤ l) (h4 : l ≤ 16) (h5 : 1 ≤ p) (h6 : p ≤ 16777215) (w : World) :
    Calls Tryz.prog 149 #[.agg #[.int .i64 i, .int .i64 2, .int .i64 l, .int .i64 0, .string ByteArray.empty, .int .i64 p]] w fun e w' => e = .returned .nilIface ∧ Mods [] w w' := by
  go_enter Tryz.func149, Tryz.ntmps149
  go_wp2_with (first | (go_at_call 225; refine (node_id _ (by omega) (by omega) _).mono ?_; rintro e w' ⟨rfl, rfl⟩) | (go_at_call 226; refine (node_kind _ (by omega) (by omega) _).mono ?_; rintro e w' ⟨rfl, rfl⟩))
  go_ret
  exact ⟨rfl, (Mods.refl _ _).alloc _⟩

set_option maxHeartbeats 1000000 in
theorem node_Valid_link (i l : Int) (t : ByteArray) (h1 : 1 ≤ i) (h2 : i ≤ 16777215) (h3 : 0 ≤ l) (h4 : l ≤ 16) (h5 : t ≠ ByteArray.empty) (h6 : t.size ≤ 88) (w : World) :
    Calls Tryz.prog 149 #[.agg #[.int .i64 i, .int .i64 3, .int .i64 l, .int .i64 0, .string t, .int .i64 0]] w fun e w' => e = .returned .nilIface ∧ Mods [] w w' := by
  have e2 : t.toList.isEmpty = false := by
    rw [ByteArray.toList_eq]
    cases h : t.data.toList with
    | nil => exact absurd (by apply ByteArray.ext; simpa using h) h5
    | cons a b => rfl
  clear h5
  go_enter Tryz.func149, Tryz.ntmps149
  go_wp2_with (first | (go_at_call 225; refine (node_id _ (by omega) (by omega) _).mono ?_; rintro e w' ⟨rfl, rfl⟩) | (go_at_call 226; refine (node_kind _ (by omega) (by omega) _).mono ?_; rintro e w' ⟨rfl, rfl⟩))
  go_ret
  exact ⟨rfl, (Mods.refl _ _).alloc _⟩

theorem node_Valid {n : Nd} (h : NdOk n) (w : World) :
    Calls Tryz.prog 149 #[n.val] w fun e w' => e = .returned .nilIface ∧ Mods [] w w' := by
  obtain ⟨i, k, l, s, t, p⟩ := n
  obtain ⟨h1, h2, h3, h4, h5, h6, h7⟩ := h
  rcases h7 with ⟨h, h', h''⟩ | ⟨h, h', h'', h7, h8⟩ | ⟨h, h', h'', h7, h8⟩ <;> simp only at * <;> subst h <;> subst h'
  · subst h''; exact node_Valid_file i l s h1 h2 h3 h4 h5 h6 w
  · subst h''; exact node_Valid_dir i l p h1 h2 h3 h4 h7 h8 w
  · subst h8; exact node_Valid_link i l t h1 h2 h3 h4 h'' h7 w
end Go.Proofs.YtaiigmiiidldcaaGreatDoor

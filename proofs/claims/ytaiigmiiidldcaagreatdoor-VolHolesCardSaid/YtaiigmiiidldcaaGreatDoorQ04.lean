/- maps.Clone at the five map types. -/
import Derived.Shelf.SlMaps.Clone
import Derived.Test.YtaiigmiiidldcaaGreatDoorQ03
set_option linter.unusedSimpArgs false
set_option linter.unusedVariables false
namespace Go.Proofs.YtaiigmiiidldcaaGreatDoor
open Go.RowKit Go.Maps

set_option maxRecDepth 100000 in
set_option maxHeartbeats 1000000 in
theorem clone_cellB (b : Nat) (es : Array MapEntry) (clock : Nat) (w : World) (hb : w.heap[b]? = some (.map es clock)) :
    Calls Tryz.prog 171 #[.map (some b)] w fun e w' => e = .returned (.map (some w.heap.size)) ∧ w.alloc (.map es clock) = w' := by
  have hq := fun w => run_eql_map_nil_sl (P := Tryz.prog) w 133 _ _ (some b) Tryz.underlying133
  go_enter Tryz.func171, Tryz.ntmps171
  go_wp2_with fail
  rw [run_callFunc_extern Tryz.func238 (by kernel_rfl) (by kernel_rfl) (by kernel_rfl) (e := Extern.MapsClone.clone) (by kernel_rfl), run_maps_clone_sl w 133 hb]
  simp only [Result.andThen]
  rw [Oper.upon_value]
  go_wp2_with fail
  rw [run_typeAssert_map_sl _ 133 20 _ _ _ Tryz.underlying133]
  simp only [Result.andThen]
  rw [Oper.upon_value]
  go_wp2_with fail
  go_ret
  exact ⟨rfl, rfl⟩

set_option maxRecDepth 100000 in
set_option maxHeartbeats 1000000 in
theorem clone_cellB_nil (w : World) :
    Calls Tryz.prog 171 #[.map none] w fun e w' => e = .returned (.map none) ∧ w = w' := by
  have hq := fun w => run_eql_map_nil_sl (P := Tryz.prog) w 133 _ _ none Tryz.underlying133
  go_enter Tryz.func171, Tryz.ntmps171
  go_wp2_with fail
  go_ret
  exact ⟨rfl, rfl⟩

set_option maxRecDepth 100000 in
set_option maxHeartbeats 1000000 in
theorem clone_cellI (b : Nat) (es : Array MapEntry) (clock : Nat) (w : World) (hb : w.heap[b]? = some (.map es clock)) :
    Calls Tryz.prog 172 #[.map (some b)] w fun e w' => e = .returned (.map (some w.heap.size)) ∧ w.alloc (.map es clock) = w' := by
  have hq := fun w => run_eql_map_nil_sl (P := Tryz.prog) w 134 _ _ (some b) Tryz.underlying134
  go_enter Tryz.func172, Tryz.ntmps172
  go_wp2_with fail
  rw [run_callFunc_extern Tryz.func238 (by kernel_rfl) (by kernel_rfl) (by kernel_rfl) (e := Extern.MapsClone.clone) (by kernel_rfl), run_maps_clone_sl w 134 hb]
  simp only [Result.andThen]
  rw [Oper.upon_value]
  go_wp2_with fail
  rw [run_typeAssert_map_sl _ 134 20 _ _ _ Tryz.underlying134]
  simp only [Result.andThen]
  rw [Oper.upon_value]
  go_wp2_with fail
  go_ret
  exact ⟨rfl, rfl⟩

set_option maxRecDepth 100000 in
set_option maxHeartbeats 1000000 in
theorem clone_cellI_nil (w : World) :
    Calls Tryz.prog 172 #[.map none] w fun e w' => e = .returned (.map none) ∧ w = w' := by
  have hq := fun w => run_eql_map_nil_sl (P := Tryz.prog) w 134 _ _ none Tryz.underlying134
  go_enter Tryz.func172, Tryz.ntmps172
  go_wp2_with fail
  go_ret
  exact ⟨rfl, rfl⟩

set_option maxRecDepth 100000 in
set_option maxHeartbeats 1000000 in
theorem clone_handle (b : Nat) (es : Array MapEntry) (clock : Nat) (w : World) (hb : w.heap[b]? = some (.map es clock)) :
    Calls Tryz.prog 173 #[.map (some b)] w fun e w' => e = .returned (.map (some w.heap.size)) ∧ w.alloc (.map es clock) = w' := by
  have hq := fun w => run_eql_map_nil_sl (P := Tryz.prog) w 198 _ _ (some b) Tryz.underlying198
  go_enter Tryz.func173, Tryz.ntmps173
  go_wp2_with fail
  rw [run_callFunc_extern Tryz.func238 (by kernel_rfl) (by kernel_rfl) (by kernel_rfl) (e := Extern.MapsClone.clone) (by kernel_rfl), run_maps_clone_sl w 198 hb]
  simp only [Result.andThen]
  rw [Oper.upon_value]
  go_wp2_with fail
  rw [run_typeAssert_map_sl _ 198 20 _ _ _ Tryz.underlying198]
  simp only [Result.andThen]
  rw [Oper.upon_value]
  go_wp2_with fail
  go_ret
  exact ⟨rfl, rfl⟩

set_option maxRecDepth 100000 in
set_option maxHeartbeats 1000000 in
theorem clone_handle_nil (w : World) :
    Calls Tryz.prog 173 #[.map none] w fun e w' => e = .returned (.map none) ∧ w = w' := by
  have hq := fun w => run_eql_map_nil_sl (P := Tryz.prog) w 198 _ _ none Tryz.underlying198
  go_enter Tryz.func173, Tryz.ntmps173
  go_wp2_with fail
  go_ret
  exact ⟨rfl, rfl⟩

set_option maxRecDepth 100000 in
set_option maxHeartbeats 1000000 in
theorem clone_nd (b : Nat) (es : Array MapEntry) (clock : Nat) (w : World) (hb : w.heap[b]? = some (.map es clock)) :
    Calls Tryz.prog 286 #[.map (some b)] w fun e w' => e = .returned (.map (some w.heap.size)) ∧ w.alloc (.map es clock) = w' := by
  have hq := fun w => run_eql_map_nil_sl (P := Tryz.prog) w 216 _ _ (some b) Tryz.underlying216
  go_enter Tryz.func286, Tryz.ntmps286
  go_wp2_with fail
  rw [run_callFunc_extern Tryz.func238 (by kernel_rfl) (by kernel_rfl) (by kernel_rfl) (e := Extern.MapsClone.clone) (by kernel_rfl), run_maps_clone_sl w 216 hb]
  simp only [Result.andThen]
  rw [Oper.upon_value]
  go_wp2_with fail
  rw [run_typeAssert_map_sl _ 216 20 _ _ _ Tryz.underlying216]
  simp only [Result.andThen]
  rw [Oper.upon_value]
  go_wp2_with fail
  go_ret
  exact ⟨rfl, rfl⟩

set_option maxRecDepth 100000 in
set_option maxHeartbeats 1000000 in
theorem clone_nd_nil (w : World) :
    Calls Tryz.prog 286 #[.map none] w fun e w' => e = .returned (.map none) ∧ w = w' := by
  have hq := fun w => run_eql_map_nil_sl (P := Tryz.prog) w 216 _ _ none Tryz.underlying216
  go_enter Tryz.func286, Tryz.ntmps286
  go_wp2_with fail
  go_ret
  exact ⟨rfl, rfl⟩

set_option maxRecDepth 100000 in
set_option maxHeartbeats 1000000 in
theorem clone_ent (b : Nat) (es : Array MapEntry) (clock : Nat) (w : World) (hb : w.heap[b]? = some (.map es clock)) :
    Calls Tryz.prog 287 #[.map (some b)] w fun e w' => e = .returned (.map (some w.heap.size)) ∧ w.alloc (.map es clock) = w' := by
  have hq := fun w => run_eql_map_nil_sl (P := Tryz.prog) w 252 _ _ (some b) Tryz.underlying252
  go_enter Tryz.func287, Tryz.ntmps287
  go_wp2_with fail
  rw [run_callFunc_extern Tryz.func238 (by kernel_rfl) (by kernel_rfl) (by kernel_rfl) (e := Extern.MapsClone.clone) (by kernel_rfl), run_maps_clone_sl w 252 hb]
  simp only [Result.andThen]
  rw [Oper.upon_value]
  go_wp2_with fail
  rw [run_typeAssert_map_sl _ 252 20 _ _ _ Tryz.underlying252]
  simp only [Result.andThen]
  rw [Oper.upon_value]
  go_wp2_with fail
  go_ret
  exact ⟨rfl, rfl⟩

set_option maxRecDepth 100000 in
set_option maxHeartbeats 1000000 in
theorem clone_ent_nil (w : World) :
    Calls Tryz.prog 287 #[.map none] w fun e w' => e = .returned (.map none) ∧ w = w' := by
  have hq := fun w => run_eql_map_nil_sl (P := Tryz.prog) w 252 _ _ none Tryz.underlying252
  go_enter Tryz.func287, Tryz.ntmps287
  go_wp2_with fail
  go_ret
  exact ⟨rfl, rfl⟩

/-- A copied map reads as the old one; the old one still does. -/
theorem MapRep.cloned {κ ν : Type} {w : World} {r : Nat} {ek : κ → Value} {ev : ν → Value} {ok : κ → Prop} {l : List (κ × ν)} (h : MapRep w r ek ev ok l) :
    ∃ es clock, w.heap[r]? = some (.map es clock) ∧ MapRep (w.alloc (.map es clock)) w.heap.size ek ev ok l := by
  obtain ⟨es, clock, hb, h1⟩ := h.ex
  exact ⟨es, clock, hb, h.oks, h.nodup, es, clock, Go.heap_alloc_new w _, h1⟩
end Go.Proofs.YtaiigmiiidldcaaGreatDoor

/- slices.Sorted at ints; node.Table.All: all numbers, rising. -/
import Derived.Test.YtaiigmiiidldcaaGreatDoorQ10
import Derived.Test.YtaiigmiiidldcaaGreatDoorQ21
set_option linter.unusedSimpArgs false
set_option linter.unusedVariables false
namespace Go.Proofs.YtaiigmiiidldcaaGreatDoor
open Go.RowKit Go.Maps Go.Sort Go.Shelf
open Go.ChangeMaps (setBlock)

theorem flat_intCells (l : List Int) : l.flatMap intCells = l.map intV := by
  induction l with
  | nil => rfl
  | cons x l ih => simp [intCells, intV, ih]

theorem calls_of_in {n : Nat} {f : FuncId} {args : Array Value} {w : World} {R : Ending → World → Prop} (h : CallsIn Fence.wide n Tryz.prog f args w R) : Calls Tryz.prog f args w R := (callsIn_wide (n := n)).1 h

set_option maxHeartbeats 400000 in
theorem sortedI {w : World} (g : Nat) (lb : Array Value) (eg : ∀ args w, (callFunc g args).run Tryz.prog w = .ok (.enter g args) w) (S : List Int → Prop) (N : Nat) (hN : N ≤ 1000000)
    (hseq : SeqStopsK Fence.wide 2 Tryz.prog g lb (fun x => #[intV x]) KeepsWalks S (fun _ => True) N w) (hS : ∀ ss, S ss → ss.length ≤ 1000000) :
    Calls Tryz.prog 162 #[.func (.func g) #[] lb] w fun e w' => ∃ v ss, e = .returned v ∧ S ss ∧ w'.ownsRow w.heap.size tInt 1 v ss.length ((sortI ss).map intV) ∧ Mods [] w w' := by
  have hc := calls_of_in (collectI (w := w) 4 (by omega) g lb eg S N hN hseq)
  go_enter Tryz.func162, Tryz.ntmps162
  go_wp2_with fail
  refine hc.mono ?_
  rintro e w1 ⟨v, ss, rfl, hss, hrow, m1⟩
  rw [flat_intCells] at hrow
  have hs := sort_ints_own hrow (by have := hS ss hss; omega)
  go_wp2_with fail
  refine hs.mono ?_
  rintro e w2 ⟨rfl, hrow2, hg⟩
  go_wp2_with fail
  go_ret
  refine ⟨_, ss, rfl, hss, hrow2, m1.grown hg (fun k hk => .inr ?_)⟩
  rcases Nat.lt_or_ge k w.heap.size with h1 | h1
  · exact absurd hk.symm (row_ne_low hrow h1)
  · exact h1

theorem iter233 : ∀ args w, (callFunc 233 args).run Tryz.prog w = .ok (.enter 233 args) w := enters_of Tryz.func233 (by kernel_rfl) rfl

set_option maxHeartbeats 1000000 in
/-- Of a table that holds a node. -/
theorem table_All {w : World} {t : Nat} {T : Tbl} {F : List Nat} (h : TableRep w t T F) (h0 : T.l ≠ []) (hlen : T.l.length ≤ 1000000) :
    Calls Tryz.prog 86 #[.pointer (some ⟨t, 0, none⟩)] w fun e w' => ∃ v, e = .returned v ∧ w'.ownsRow w.heap.size tInt 1 v T.l.length ((sortI (T.l.map (·.1))).map intV) ∧ Mods [] w w' := by
  rcases h with ⟨_, h1, _⟩ | ⟨m, hb, hm, rfl⟩
  · exact absurd h1 h0
  · have hk := calls_of_in (keysN_in 5 (some m) w)
    have m0 := (Mods.refl [] w).alloc (.cells #[.map (some m)] 216)
    have hbm := (Blk.new w 216 #[.map (some m)]).cell 0
    simp only [List.getElem?_toArray, List.getElem?_cons_zero] at hbm
    have hseq := keysN_stops (w := w.alloc (.cells #[.map (some m)] 216)) 2 (by omega) w.heap.size (by simp) hbm (hm.mods m0 (by simp))
    have hs := sortedI _ _ iter233 _ _ hlen hseq (fun ss hp => by have := hp.length_eq; simp at this; omega)
    have c0 := hb.cell 0
    simp only [List.getElem?_toArray, List.getElem?_cons_zero] at c0
    have HS := Lib.hid hs
    clear hs hseq hbm
    go_enter Tryz.func86, Tryz.ntmps86
    go_wp2_with fail
    refine hk.mono ?_
    rintro e w1 ⟨rfl, rfl⟩
    go_wp2_with fail
    refine HS.out.mono ?_
    rintro e w2 ⟨v, ss, rfl, hp, hrow, m2⟩
    go_wp2_with fail
    go_ret
    refine ⟨v, rfl, ?_, m0.then m2⟩
    have hl : ss.length = T.l.length := by have := hp.length_eq; simpa using this
    rw [← hl, ← sortI_congr hp]
    exact ownsRow_base hrow (by simp)
end Go.Proofs.YtaiigmiiidldcaaGreatDoor

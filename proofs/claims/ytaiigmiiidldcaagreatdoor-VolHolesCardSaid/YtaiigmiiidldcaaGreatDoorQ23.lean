/- Package body: Cells, how many. -/
import Derived.Test.YtaiigmiiidldcaaGreatDoorQ16
import Derived.Test.YtaiigmiiidldcaaGreatDoorQ22
set_option linter.unusedSimpArgs false
set_option linter.unusedVariables false
namespace Go.Proofs.YtaiigmiiidldcaaGreatDoor
open Go.RowKit Go.Maps Go.Sort Go.Shelf
open Go.ChangeMaps (setBlock)

set_option maxHeartbeats 400000 in
theorem sortedFuncC {w : World} (g : Nat) (lb : Array Value) (eg : ∀ args w, (callFunc g args).run Tryz.prog w = .ok (.enter g args) w) (S : List Cel → Prop) (N : Nat) (hN : N ≤ 1000000)
    (hseq : SeqStopsK Fence.wide 2 Tryz.prog g lb (fun x => #[celV x]) KeepsWalks S (fun _ => True) N w) (hS : ∀ ss, S ss → ss.length ≤ 1000000) :
    Calls Tryz.prog 141 #[.func (.func g) #[] lb, .func (.func 72) #[] #[]] w fun e w' => ∃ A c ss, e = .returned (.slice A (List.length ss) c) ∧ S ss ∧ Mods [] w w' := by
  have hc := calls_of_in (collectC (w := w) 4 (by omega) g lb eg S N hN hseq)
  go_enter Tryz.func141, Tryz.ntmps141
  go_wp2_with fail
  refine hc.mono ?_
  rintro e w1 ⟨v, ss, rfl, hss, hrow, m1⟩
  have hs := sort_cells_own hrow (by have := hS ss hss; omega)
  have hv : ∃ A c, v = .slice A ss.length c := by
    rcases hrow.2 with ⟨rfl, h0⟩ | ⟨g, cap, cur, rfl, _⟩
    · exact ⟨none, 0, by rw [h0]⟩
    · exact ⟨_, _, rfl⟩
  go_wp2_with fail
  refine hs.mono ?_
  rintro e w2 ⟨rfl, hg⟩
  have hm : Mods [] w w2 := m1.grown hg (fun k hk => .inr (by
    rcases Nat.lt_or_ge k w.heap.size with h1 | h1
    · exact absurd hk.symm (row_ne_low hrow h1)
    · exact h1))
  obtain ⟨A, c, rfl⟩ := hv
  go_wp2_with fail
  go_ret
  exact ⟨A, c, ss, rfl, hss, hm⟩

theorem iter212 : ∀ args w, (callFunc 212 args).run Tryz.prog w = .ok (.enter 212 args) w := enters_of Tryz.func212 (by kernel_rfl) rfl

set_option maxHeartbeats 1000000 in
theorem body_Cells {w : World} {b : Nat} {B : Bod} {F : List Nat} (h : BodyRep w b B F) (hlen : B.l.length ≤ 1000000) :
    Calls Tryz.prog 68 #[.pointer (some ⟨b, 0, none⟩)] w fun e w' => ∃ A c, e = .returned (.slice A B.l.length c) ∧ Mods [] w w' := by
  obtain ⟨ml, md, raw, b1, b2, b3, b4, b5, b6, rfl⟩ := h
  have hrl : raw.length = B.l.length := by rw [b4]; simp
  have hk := calls_of_in (keysC_in 5 (some ml) w)
  have m0 := (Mods.refl [] w).alloc (.cells #[.map (some ml)] tMapBytes)
  have hbm := (Blk.new w tMapBytes #[.map (some ml)]).cell 0
  simp only [List.getElem?_toArray, List.getElem?_cons_zero] at hbm
  have hseq := keysC_stops (w := w.alloc (.cells #[.map (some ml)] tMapBytes)) 2 (by omega) w.heap.size (by simp) hbm (b2.mods m0 (by simp))
  have hs := sortedFuncC _ _ iter212 _ _ (by omega) hseq (fun ss hp => by have := hp.length_eq; simp at this; omega)
  have c0 := b1.cell 0
  simp only [List.getElem?_toArray, List.getElem?_cons_zero] at c0
  have HS := Lib.hid hs
  have HL := Lib.hid hrl
  clear hs hseq hbm hrl b4
  go_enter Tryz.func68, Tryz.ntmps68
  go_wp2_with fail
  refine hk.mono ?_
  rintro e w1 ⟨rfl, rfl⟩
  go_wp2_with fail
  refine HS.out.mono ?_
  rintro e w2 ⟨A, c, ss, rfl, hp, m2⟩
  have hl : ss.length = B.l.length := by have := hp.length_eq; have := HL.out; simp at *; omega
  rw [hl]
  clear hl
  go_wp2_with fail
  go_ret
  exact ⟨A, c, rfl, m0.then m2⟩
end Go.Proofs.YtaiigmiiidldcaaGreatDoor

/- Package walk: Dir, and that the world's own block is as it was. -/
import Derived.Test.YtaiigmiiidldcaaGreatDoorQ13
set_option linter.unusedSimpArgs false
set_option linter.unusedVariables false
namespace Go.Proofs.YtaiigmiiidldcaaGreatDoor
open Go.RowKit Go.Maps
open Go.ChangeMaps (setBlock)

set_option maxRecDepth 100000 in
set_option maxHeartbeats 1000000 in
theorem world_Dir_keep {w : World} {p : Nat} {W : Wld} {F : List Nat} (h : WldRep w p W F) (i : Int) (hi : okInt i) (hd : W.dir i = true) :
    Calls Tryz.prog 103 #[.pointer (some ⟨p, 0, none⟩), .int .i64 i] w fun e w' => ∃ d F' Fd, e = .returned (.tuple #[.pointer (some ⟨d, 0, none⟩), .bool true]) ∧ Mods F w w' ∧ Within w F F' ∧ WldAt w' p W F' i d Fd ∧ w'.heap[p]? = w.heap[p]? := by
  have hg := world_dir h i hi
  rw [hd] at hg
  obtain ⟨t, m, Ft, raw, h, rfl⟩ := h
  generalize (W.T.get i).1 = n at *
  obtain ⟨n1, n2, n3, n4, n5, n6⟩ := n
  simp only [Nd.val] at *
  cases hr : aGet raw i with
  | some r =>
    obtain ⟨d, D, Fd⟩ := r
    have hp : dirP raw i = .pointer (some ⟨d, 0, none⟩) := by unfold dirP; rw [hr]; rfl
    have hD : D = W.δ i := by rw [h.δ, dOf, hr]
    subst hD
    have HI := Lib.hid h
    go_enter Tryz.func103, Tryz.ntmps103
    go_wp2_with fail
    refine hg.mono ?_
    rintro e w1 ⟨rfl, m1⟩
    have h1 := (HI.out.mods0 m1).mods0 ((Mods.refl [] w1).alloc (.cells #[.int .i64 n1, .int .i64 n2, .int .i64 n3, .int .i64 n4, .string n5, .int .i64 n6] tNd))
    have hb := h1.blk
    have c0 := hb.cell 0
    have c1 := hb.cell 1
    simp at c0 c1
    have hl := map_lookup_dir h1.map hi
    rw [hp] at hl
    have hlt := h.blk.lt
    clear hg h h1 hb
    go_wp2_with fail
    go_ret2
    refine ⟨d, _, Fd, rfl, (m1.alloc _).of_nil, Within.refl _ _, ⟨t, m, Ft, raw, ?_, rfl, hr⟩, (m1.alloc _).block p HI.out.blk.lt (by simp)⟩
    exact (HI.out.mods0 m1).mods0 ((Mods.refl [] w1).alloc _)
  | none =>
    have HI := Lib.hid h
    have hlt := h.blk.lt
    have hltm := h.map.lt
    have hpm : p ≠ m := h.map.ne_blk h.blk
    go_enter Tryz.func103, Tryz.ntmps103
    go_wp2_with fail
    refine hg.mono ?_
    rintro e w1 ⟨rfl, m1⟩
    have mA := m1.alloc (.cells #[.int .i64 n1, .int .i64 n2, .int .i64 n3, .int .i64 n4, .string n5, .int .i64 n6] tNd)
    have h1 := HI.out.mods0 mA
    have hb := h1.blk
    have c0 := hb.cell 0
    have c1 := hb.cell 1
    simp at c0 c1
    have hl := map_lookup_dir h1.map hi
    have hp0 : dirP raw i = .pointer none := by unfold dirP; rw [hr]
    rw [hp0] at hl
    have mB := mA.alloc (.cells #[.map none] tDir)
    have h2 := HI.out.mods0 mB
    obtain ⟨w3, hu, m3, hs3, hm3⟩ := h2.map.update intEnc Tryz.underlying129 (k := i) hi ((w1.heap.size + 1, [], [w1.heap.size + 1]) : DirG)
    simp only [intV, dirV] at hu
    have hsz := m1.size
    have hpb := h2.blk.mods m3 (by simpa using hpm)
    have hb2 := h2.blk
    have e0 := hb2.cell 0
    have e1 := hb2.cell 1
    simp at e0 e1
    have q0 := hpb.cell 0
    have q1 := hpb.cell 1
    simp at q0 q1
    have hp1 : dirP (aPut raw i ((w1.heap.size + 1, [], [w1.heap.size + 1]) : DirG)) i = .pointer (some ⟨w1.heap.size + 1, 0, none⟩) := by unfold dirP; rw [aGet_aPut, if_pos rfl]; rfl
    have hl3 := map_lookup_dir hm3 hi
    rw [hp1] at hl3
    have hnb := Blk.new (w1.alloc (.cells #[.int .i64 n1, .int .i64 n2, .int .i64 n3, .int .i64 n4, .string n5, .int .i64 n6] tNd)) tDir #[.map none]
    rw [World.size_alloc] at hnb
    have HB := Lib.hid hnb
    have HM := Lib.hid hm3
    have M3 := Lib.hid m3
    clear hg h h1 hb hp0 hp1 h2 hb2 hpb hm3 hnb hs3 m3
    go_wp2_with fail
    go_ret2
    obtain ⟨r1, r2⟩ := HI.out.touch hr mB HB.out (by omega) M3.out HM.out
    exact ⟨_, _, _, rfl, mB.of_nil.seq (Within.refl _ _) (M3.out.mono (by simp)), r2, r1, (mB.of_nil.seq (Within.refl _ [m]) M3.out).block p hlt (by simpa using hpm)⟩
end Go.Proofs.YtaiigmiiidldcaaGreatDoor

/- Package vol: stat, Fstat. -/
import Derived.Test.YtaiigmiiidldcaaGreatDoorQ28
import Derived.Test.YtaiigmiiidldcaaGreatDoorQ29
set_option linter.unusedSimpArgs false
set_option linter.unusedVariables false
namespace Go.Proofs.YtaiigmiiidldcaaGreatDoor
open Go.RowKit Go.Maps
open Go.ChangeMaps (setBlock)

abbrev tStat : TypeId := 35

theorem stat_ld {w : World} {g : Nat} {a b c d e : Int} (h : Blk w g tStat #[.int .i64 a, .int .i64 b, .int .i64 c, .int .i64 d, .int .i64 e]) : (loadVar tStat ⟨g, 0, none⟩).run Tryz.prog w = .ok (.agg #[.int .i64 a, .int .i64 b, .int .i64 c, .int .i64 d, .int .i64 e]) w :=
  run_loadVar_row (P := Tryz.prog) _ g tStat 35 _ (0, 0) _ h Tryz.underlying35 rfl (by kernel_rfl)

def statV (n : Nd) (B : Bod) : Value := .agg #[.int .i64 n.id, .int .i64 n.kind, .int .i64 n.links, .int .i64 n.size, .int .i64 ((idxOf B.l n.id).length : Int)]

theorem row_slice {w : World} {base n size : Nat} {e : TypeId} {v : Value} {xs : List Value} (h : w.ownsRow base e size v n xs) : ∃ A c, v = .slice A n c := by
  rcases h.2 with ⟨rfl, h0⟩ | ⟨g, cap, cur, rfl, _⟩
  · exact ⟨none, 0, by rw [h0]⟩
  · exact ⟨_, _, rfl⟩

set_option maxRecDepth 100000 in
set_option maxHeartbeats 2000000 in
theorem vol_stat {w : World} {v : Nat} {S : VolSt} {F : List Nat} (h : VolRep w v S F) (n : Nd) (hlen : S.B.l.length ≤ 1000000) :
    Calls Tryz.prog 65 #[.pointer (some ⟨v, 0, none⟩), n.val] w fun e w' => e = .returned (statV n S.B) ∧ Mods [] w w' := by
  obtain ⟨t, b, f, Ft, Fb, Ff, h, rfl⟩ := h
  obtain ⟨y1, y2, y3, y4, y5, y6⟩ := n
  have HO := Lib.hid (fun (w' : World) (m' : Mods [] w w') => body_Of (h.body.mods0 m') y1 hlen)
  have hb := h.blk
  have c1 := hb.cell 1
  simp only [List.getElem?_toArray, List.getElem?_cons_zero, List.getElem?_cons_succ] at c1
  have nb := (Blk.new w tNd #[.int .i64 y1, .int .i64 y2, .int .i64 y3, .int .i64 y4, .string y5, .int .i64 y6]).alloc (.cells #[.int .i64 0, .int .i64 0, .int .i64 0, .int .i64 0, .int .i64 0] tStat)
  have rb := Blk.new (w.alloc (.cells #[.int .i64 y1, .int .i64 y2, .int .i64 y3, .int .i64 y4, .string y5, .int .i64 y6] tNd)) tStat #[.int .i64 0, .int .i64 0, .int .i64 0, .int .i64 0, .int .i64 0]
  rw [World.size_alloc] at rb
  have n0 := nb.cell 0
  have n1 := nb.cell 1
  have n2 := nb.cell 2
  have n3 := nb.cell 3
  simp only [List.getElem?_toArray, List.getElem?_cons_zero, List.getElem?_cons_succ] at n0 n1 n2 n3
  have m0 := ((Mods.refl [] w).alloc (.cells #[.int .i64 y1, .int .i64 y2, .int .i64 y3, .int .i64 y4, .string y5, .int .i64 y6] tNd)).alloc (.cells #[.int .i64 0, .int .i64 0, .int .i64 0, .int .i64 0, .int .i64 0] tStat)
  have mD := m0.drew
  have d1 := keepMods m0 c1 (by simp)
  have hlt := hb.lt
  unfold statV
  simp only [Nd.val]
  generalize (idxOf S.B.l y1).length = nB at *
  clear hb h nb hlen
  go_enter Tryz.func65, Tryz.ntmps65
  go_wp2_with fail
  go_region_held3 (fun w' => w'.cell? ⟨v, 1, none⟩ = some (.pointer (some ⟨b, 0, none⟩)) ∧ w'.cell? ⟨w.heap.size, 0, none⟩ = some (.int .i64 y1) ∧ w'.cell? ⟨w.heap.size, 1, none⟩ = some (.int .i64 y2) ∧ w'.cell? ⟨w.heap.size, 2, none⟩ = some (.int .i64 y3) ∧ w'.cell? ⟨w.heap.size, 3, none⟩ = some (.int .i64 y4)) (refine ⟨?_, ?_, ?_, ?_, ?_⟩ <;> (repeat (first | with_reducible assumption | with_reducible refine keepAlloc ?_ | with_reducible refine keepDrew ?_ | (with_reducible refine keepStore ?_ (by simp; try omega)))))
    (first
      | (go_at_call 75; refine (HO.out _ mD).mono ?_; rintro e w2 ⟨vs, rfl, hrow, m2⟩; obtain ⟨As, cs, rfl⟩ := row_slice hrow; have d1 := keepMods m2 (keepDrew d1) (by simp); have n0 := keepMods m2 (keepDrew n0) (by simp); have n1 := keepMods m2 (keepDrew n1) (by simp); have n2 := keepMods m2 (keepDrew n2) (by simp); have n3 := keepMods m2 (keepDrew n3) (by simp); have rb2 := rb.drew.mods0 m2; have fr2 := rb2.frozen; have z0 := rb2.cell 0; have z1 := rb2.cell 1; have z2 := rb2.cell 2; have z3 := rb2.cell 3; have z4 := rb2.cell 4; have lt2 := rb2.lt))
  go_wp2_with fail
  have e2 := ((((rb2.set_ 0 (.int .i64 y1)).set_ 1 (.int .i64 y2)).set_ 2 (.int .i64 y3)).set_ 3 (.int .i64 y4)).set_ 4 (.int .i64 (nB : Int))
  simp only [List.setIfInBounds_toArray, List.set_cons_zero, List.set_cons_succ] at e2
  have ld := stat_ld e2
  have mS := (((((mD.then m2).setCell (p := ⟨w.heap.size + 1, 0, none⟩) (.inr (by simp)) (.int .i64 y1)).setCell (p := ⟨w.heap.size + 1, 1, none⟩) (.inr (by simp)) (.int .i64 y2)).setCell (p := ⟨w.heap.size + 1, 2, none⟩) (.inr (by simp)) (.int .i64 y3)).setCell (p := ⟨w.heap.size + 1, 3, none⟩) (.inr (by simp)) (.int .i64 y4)).setCell (p := ⟨w.heap.size + 1, 4, none⟩) (.inr (by simp)) (.int .i64 (nB : Int))
  exact bodyPost_ret (v := .agg #[.int .i64 y1, .int .i64 y2, .int .i64 y3, .int .i64 y4, .int .i64 (nB : Int)]) (by simp [results, Tryz.results65, asAddr, ld]) rfl ⟨rfl, mS⟩

set_option maxRecDepth 100000 in
set_option maxHeartbeats 2000000 in
theorem vol_Fstat {w : World} {v : Nat} {S : VolSt} {F : List Nat} (h : VolRep w v S F) (fd : Int) (hfd : okInt fd) {x : Hd} (hx : aGet S.D fd = some x) (hxn : okInt x.node) (hlen : S.B.l.length ≤ 1000000) :
    Calls Tryz.prog 20 #[.pointer (some ⟨v, 0, none⟩), .int .i64 fd] w fun e w' => e = .returned (.tuple #[statV (S.W.T.get x.node).1 S.B, .nilIface]) ∧ Mods [] w w' := by
  have m0 := (Mods.refl [] w).alloc (.cells #[.int .i64 0, .int .i64 0, .int .i64 0, .int .i64 0, .int .i64 0] tStat)
  have ha := vol_at_yes (h.mods0 m0) fd hfd hx hxn
  have HST := Lib.hid (fun (w' : World) (m' : Mods [] w w') => vol_stat (h.mods0 m') (S.W.T.get x.node).1 hlen)
  have rb := Blk.new w tStat #[.int .i64 0, .int .i64 0, .int .i64 0, .int .i64 0, .int .i64 0]
  generalize (S.W.T.get x.node).1 = n at *
  obtain ⟨y1, y2, y3, y4, y5, y6⟩ := n
  obtain ⟨xn, xp⟩ := x
  unfold statV at HST ⊢
  simp only [Hd.val, Nd.val] at *
  generalize (idxOf S.B.l y1).length = nB at *
  have hlt := h.vlt
  clear h hx hxn hlen
  go_enter Tryz.func20, Tryz.ntmps20
  go_wp2_with fail
  refine ha.mono ?_
  rintro e w1 ⟨rfl, m1⟩
  have mA := ((m0.then m1).alloc (.cells #[.int .i64 xn, .int .i64 xp] tHandle)).alloc (.cells #[.int .i64 y1, .int .i64 y2, .int .i64 y3, .int .i64 y4, .string y5, .int .i64 y6] tNd)
  have hs := HST.out _ mA
  have rb1 := ((rb.mods0 m1).alloc (.cells #[.int .i64 xn, .int .i64 xp] tHandle)).alloc (.cells #[.int .i64 y1, .int .i64 y2, .int .i64 y3, .int .i64 y4, .string y5, .int .i64 y6] tNd)
  have HS := Lib.hid hs
  clear ha hs HST
  go_wp2_with fail
  refine HS.out.mono ?_
  rintro e w2 ⟨rfl, m2⟩
  have rb2 := rb1.mods0 m2
  have fr2 := rb2.frozen
  have z0 := rb2.cell 0
  have z1 := rb2.cell 1
  have z2 := rb2.cell 2
  have z3 := rb2.cell 3
  have z4 := rb2.cell 4
  have lt2 := rb2.lt
  simp only [List.getElem?_toArray, List.getElem?_cons_zero, List.getElem?_cons_succ] at z0 z1 z2 z3 z4
  clear HS
  go_wp2_with fail
  have e2 := ((((rb2.set_ 0 (.int .i64 y1)).set_ 1 (.int .i64 y2)).set_ 2 (.int .i64 y3)).set_ 3 (.int .i64 y4)).set_ 4 (.int .i64 (nB : Int))
  simp only [List.setIfInBounds_toArray, List.set_cons_zero, List.set_cons_succ] at e2
  have ld := stat_ld e2
  have mS := (((((mA.then m2).setCell (p := ⟨w.heap.size, 0, none⟩) (.inr (by simp)) (.int .i64 y1)).setCell (p := ⟨w.heap.size, 1, none⟩) (.inr (by simp)) (.int .i64 y2)).setCell (p := ⟨w.heap.size, 2, none⟩) (.inr (by simp)) (.int .i64 y3)).setCell (p := ⟨w.heap.size, 3, none⟩) (.inr (by simp)) (.int .i64 y4)).setCell (p := ⟨w.heap.size, 4, none⟩) (.inr (by simp)) (.int .i64 (nB : Int))
  exact bodyPost_ret (v := .tuple #[.agg #[.int .i64 y1, .int .i64 y2, .int .i64 y3, .int .i64 y4, .int .i64 (nB : Int)], .nilIface]) (by simp [results, Tryz.results20, asAddr, ld, Result.andThen]) rfl ⟨rfl, mS⟩
end Go.Proofs.YtaiigmiiidldcaaGreatDoor

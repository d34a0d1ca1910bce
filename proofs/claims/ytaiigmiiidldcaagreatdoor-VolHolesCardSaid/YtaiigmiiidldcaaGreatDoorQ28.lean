/- Package vol: Open, of a new file and of one that is there. -/
import Derived.Test.YtaiigmiiidldcaaGreatDoorQ26
import Derived.Test.YtaiigmiiidldcaaGreatDoorQ27
set_option linter.unusedSimpArgs false
set_option linter.unusedVariables false
namespace Go.Proofs.YtaiigmiiidldcaaGreatDoor
open Go.RowKit Go.Maps
open Go.ChangeMaps (setBlock)

theorem MkOk.withW {W : Wld} {s : ByteArray} {k : Int} {P : Pth} {d nd : Int} {nm : ByteArray} (h : MkOk W s k P d nd nm) : MkOk W s k P d nd nm := h

set_option maxRecDepth 100000 in
set_option maxHeartbeats 2000000 in
theorem vol_Open_new {B0 : Nat} {A : Nat → Addr} {L : List Nat} {w : World} (G : Glob B0 A L w) (hM : MaxCell w) {v : Nat} {S : VolSt} {F : List Nat} (h : VolRep w v S F) (hF : ∀ g ∈ F, B0 ≤ g) {s : ByteArray} {P : Pth} {d nd : Int} {nm : ByteArray} (hmk : MkOk S.W s 1 P d nd nm)
    (hlook : (look1 S.W s).1 = 109)
    (k : Nat) (hk : k < 16) (hmin : ∀ j : Nat, j < k → ∃ x, aGet S.D (j : Int) = some x) (hno : aGet S.D (k : Int) = none) {S' : VolSt} (hS : S' = ⟨S.W.make 1 d nm, S.B, aPut S.D (k : Int) ⟨S.W.T.last + 1, 0⟩, S.q⟩)
    (hB : VolB S) (hB' : VolB S') (hc : (S'.charge : Int) ≤ S.q ∨ S'.charge ≤ S.charge) :
    Calls Tryz.prog 16 #[.pointer (some ⟨v, 0, none⟩), .string s, .bool true] w fun e w' => e = .returned (.tuple #[.int .i64 (k : Int), .nilIface]) ∧ ∃ F', Mods F w w' ∧ Within w F F' ∧ VolRep w' v S' F' := by
  obtain ⟨t, b, f, Ft, Fb, Ff, h, rfl⟩ := h
  have hl := tree_Look1 G hM h.tree (fun g hg => hF g (by simp [hg])) hmk.ok hmk.nl s true
  rw [hlook, errV_pos eT A (by decide)] at hl
  have HCR := Lib.hid (fun (w' : World) (F' : List Nat) (G' : Glob B0 A L w') (hM' : MaxCell w') (h' : VolRep w' v S F') (hF' : ∀ g ∈ F', B0 ≤ g) => vol_create_yes G' hM' h' hF' hmk k hk hmin hno hS hB hB' hc)
  have hb := h.blk
  have c0 := hb.cell 0
  simp only [List.getElem?_toArray, List.getElem?_cons_zero] at c0
  have HH := Lib.hid h
  have HG := Lib.hid G
  have HM := Lib.hid hM
  have hlt := hb.lt
  have hlF := h.lt
  have hsz := G.size
  have hlow := G.low
  generalize (look1 S.W s).2 = nl at *
  obtain ⟨y1, y2, y3, y4, y5, y6⟩ := nl
  simp only [Nd.val] at hl
  clear hb h hmk hS hB hB' hc hmin hno hlook G hM
  go_enter Tryz.func16, Tryz.ntmps16
  go_wp2_with fail
  refine hl.mono ?_
  rintro e w1 ⟨F1, rfl, m1, wi1, hT1⟩
  have mA : Mods Ft w (w1.alloc (.cells #[.int .i64 y1, .int .i64 y2, .int .i64 y3, .int .i64 y4, .string y5, .int .i64 y6] tNd)) := m1.alloc _
  have hG1 := HG.out.mods mA (fun g hg => hF g (by simp [hg]))
  have g0 : (w1.alloc (.cells #[.int .i64 y1, .int .i64 y2, .int .i64 y3, .int .i64 y4, .string y5, .int .i64 y6] tNd)).cell? ⟨0, 0, none⟩ = _ := hG1.cell 109 (hG1.core _ (by decide))
  have h1 := HH.out.setTree mA (hT1.mods0 ((Mods.refl [] w1).alloc _)) wi1
  have hM1 := maxCell_mods HM.out HG.out mA (fun g hg => hF g (by simp [hg]))
  have hWi : Within w (v :: (Ft ++ (Fb ++ Ff))) (v :: (F1 ++ (Fb ++ Ff))) := fun g hg => by
    simp only [List.mem_cons, List.mem_append] at hg ⊢
    rcases hg with hg | hg | hg
    · exact .inl (.inl hg)
    · rcases wi1 g hg with h1 | h1
      · exact .inl (.inr (.inl h1))
      · exact .inr h1
    · exact .inl (.inr (.inr hg))
  have hcr := HCR.out _ _ hG1 hM1 ⟨t, b, f, F1, Fb, Ff, h1, rfl⟩ (fun g hg => by
    rcases hWi g hg with h2 | h2
    · exact hF g h2
    · omega)
  have hcr' := Lib.hid hcr
  clear hl hG1 h1 hM1 hcr
  have hlw1 : 0 < w1.heap.size := by have := m1.size; omega
  have heq := fun w => err_eq (A 109) w
  go_wp2_with fail
  refine hcr'.out.mono ?_
  rintro e w2 ⟨rfl, F2, m2, wi2, hV2⟩
  clear heq
  go_wp2_with fail
  go_ret2
  refine ⟨rfl, F2, (mA.mono (fun g hg => by simp [hg])).trans m2 (fun g hg => ?_), fun g hg => ?_, hV2⟩
  · exact hWi g hg
  · rcases wi2 g hg with h1 | h1
    · exact hWi g h1
    · have := mA.size; right; omega

set_option maxRecDepth 100000 in
set_option maxHeartbeats 2000000 in
/-- Of a file that is there. -/
theorem vol_Open_old {B0 : Nat} {A : Nat → Addr} {L : List Nat} {w : World} (G : Glob B0 A L w) (hM : MaxCell w) {v : Nat} {S : VolSt} {F : List Nat} (h : VolRep w v S F) (hF : ∀ g ∈ F, B0 ≤ g) (hok : WldOk S.W) (hnl : NoLink S.W) (s : ByteArray) (cr : Bool) {n : Nd} (hlook : look1 S.W s = (0, n)) (hkind : n.kind ≠ 2)
    (k : Nat) (hk : k < 16) (hmin : ∀ j : Nat, j < k → ∃ x, aGet S.D (j : Int) = some x) (hno : aGet S.D (k : Int) = none) :
    Calls Tryz.prog 16 #[.pointer (some ⟨v, 0, none⟩), .string s, .bool cr] w fun e w' => e = .returned (.tuple #[.int .i64 (k : Int), .nilIface]) ∧ ∃ F', Mods F w w' ∧ Within w F F' ∧ VolRep w' v ⟨S.W, S.B, aPut S.D (k : Int) ⟨n.id, 0⟩, S.q⟩ F' := by
  obtain ⟨t, b, f, Ft, Fb, Ff, h, rfl⟩ := h
  have hl := tree_Look1 G hM h.tree (fun g hg => hF g (by simp [hg])) hok hnl s true
  rw [hlook] at hl
  simp only [errV_zero] at hl
  have hb := h.blk
  have c0 := hb.cell 0
  have c2 := hb.cell 2
  simp only [List.getElem?_toArray, List.getElem?_cons_zero, List.getElem?_cons_succ] at c0 c2
  have HH := Lib.hid h
  have hlt := hb.lt
  have hlF := h.lt
  have hsz := G.size
  have hlow := G.low
  have hG := Lib.hid G
  have hvT : v ∉ Ft := h.own.1
  obtain ⟨y1, y2, y3, y4, y5, y6⟩ := n
  simp only [Nd.val] at hl
  simp only at hkind ⊢
  have hkd : (y2 == 2) = false := by simpa using hkind
  clear hb h hlook G hM hkind
  go_enter Tryz.func16, Tryz.ntmps16
  go_wp2_with fail
  refine hl.mono ?_
  rintro e w1 ⟨F1, rfl, m1, wi1, hT1⟩
  have mA : Mods Ft w (w1.alloc (.cells #[.int .i64 y1, .int .i64 y2, .int .i64 y3, .int .i64 y4, .string y5, .int .i64 y6] tNd)) := m1.alloc _
  have hG1 := hG.out.mods mA (fun g hg => hF g (by simp [hg]))
  have g0 : (w1.alloc (.cells #[.int .i64 y1, .int .i64 y2, .int .i64 y3, .int .i64 y4, .string y5, .int .i64 y6] tNd)).cell? ⟨0, 0, none⟩ = _ := hG1.cell 109 (hG1.core _ (by decide))
  have h1 := Lib.hid (HH.out.setTree mA (hT1.mods0 ((Mods.refl [] w1).alloc _)) wi1)
  have hWi : Within w (v :: (Ft ++ (Fb ++ Ff))) (v :: (F1 ++ (Fb ++ Ff))) := fun g hg => by
    simp only [List.mem_cons, List.mem_append] at hg ⊢
    rcases hg with hg | hg | hg
    · exact .inl (.inl hg)
    · rcases wi1 g hg with h1 | h1
      · exact .inl (.inr (.inl h1))
      · exact .inr h1
    · exact .inl (.inr (.inr hg))
  have nb := Blk.new w1 tNd #[.int .i64 y1, .int .i64 y2, .int .i64 y3, .int .i64 y4, .string y5, .int .i64 y6]
  have n0 := nb.cell 0
  have n1 := nb.cell 1
  have d2 := keepMods mA c2 hvT
  have hneq : ∀ w a, (binOp .eql tError .nilIface (.iface eT (.pointer (some a)))).run Tryz.prog w = .ok (.bool false) w := fun w a => run_eql_iface_nil_left (P := Tryz.prog) w eT (.pointer (some a)) Tryz.underlying27
  simp only [List.getElem?_toArray, List.getElem?_cons_zero, List.getElem?_cons_succ] at n0 n1
  have hlw1 : 0 < w1.heap.size := by have := m1.size; omega
  have HO := Lib.hid (fun (w' : World) (m' : Mods [] (w1.alloc (.cells #[.int .i64 y1, .int .i64 y2, .int .i64 y3, .int .i64 y4, .string y5, .int .i64 y6] tNd)) w') => files_Open_yes (h1.out.files.mods0 m') y1 k hk hmin hno)
  have mD := (Mods.refl [] (w1.alloc (.cells #[.int .i64 y1, .int .i64 y2, .int .i64 y3, .int .i64 y4, .string y5, .int .i64 y6] tNd))).drew
  have hltn := nb.lt
  clear hl hG1 nb hmin hno
  go_wp2_with fail
  go_region_held3 (fun w' => w'.cell? ⟨v, 2, none⟩ = some (.pointer (some ⟨f, 0, none⟩)) ∧ w'.cell? ⟨w1.heap.size, 0, none⟩ = some (.int .i64 y1)) (refine ⟨?_, ?_⟩ <;> (repeat (first | with_reducible assumption | with_reducible refine keepAlloc ?_ | with_reducible refine keepDrew ?_)))
    (first
      | (go_at_call 56; refine (HO.out _ mD).mono ?_; rintro e w2 ⟨rfl, m2, Ff', wf2, hn2, hf2⟩; have d2 := keepMods m2 (keepDrew d2) (by exact h1.out.own.2.2); have n0 := keepMods m2 (keepDrew n0) (fun hg => by have := h1.out.files.lt' _ hg; simp only at this; have h9 := hlF _ (show w1.heap.size ∈ v :: (Ft ++ (Fb ++ Ff)) by simp [hg]); have := m1.size; omega)))
  go_wp2_with fail
  go_ret2
  have sz1 := mA.size
  have h2 := (h1.out.mods0 mD).setFiles m2 hf2 wf2
  refine ⟨rfl, _, ((mA.mono (fun g hg => by simp [hg])).then mD).trans m2 (fun g hg => .inl (by simp [hg])), fun g hg => ?_, ⟨t, b, f, F1, Fb, Ff', h2, rfl⟩⟩
  simp only [List.mem_cons, List.mem_append] at hg
  rcases hg with hg | hg | hg | hg
  · exact hWi g (by simp [hg])
  · exact hWi g (by simp [hg])
  · exact hWi g (by simp [hg])
  · rcases wf2 g hg with h9 | h9
    · exact hWi g (by simp [h9])
    · simp at h9 sz1; right; omega
end Go.Proofs.YtaiigmiiidldcaaGreatDoor

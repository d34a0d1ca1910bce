/- Package vol: Count; Package vol: tried: what is to be done is tried on a copy ahead; Package vol: create's closure: makes a file, and opens it; Package vol: create, where all goes well. -/
import Derived.Test.YtaiigmiiidldcaaGreatDoorQ19
import Derived.Test.YtaiigmiiidldcaaGreatDoorQ23
import Derived.Test.YtaiigmiiidldcaaGreatDoorQ25
set_option linter.unusedSimpArgs false
set_option linter.unusedVariables false
namespace Go.Proofs.YtaiigmiiidldcaaGreatDoor
open Go.RowKit Go.Maps
open Go.ChangeMaps (setBlock)

section
variable {w w' : World} {v : Nat} {S : VolSt} {t b f : Nat} {Ft Fb Ff Ft' : List Nat}
/-- The tree is changed. -/
theorem VolIs.setTree (h : VolIs w v S t b f Ft Fb Ff) (m : Mods Ft w w') {W' : Wld} (ht : TreeRep w' t W' Ft') (hw : Within w Ft Ft') :
    VolIs w' v ⟨W', S.B, S.D, S.q⟩ t b f Ft' Fb Ff := by
  refine ⟨h.blk.mods m h.own.1, ht, h.body.mods m (fun g hg hg' => h.tb g hg' hg) (h.tree.noRow (by decide) (by decide) (by decide) (by decide)), h.files.mods m (fun g hg hg' => h.tf g hg' hg), ?_, ?_, h.bf, ?_, h.own.2.1, h.own.2.2⟩
  · intro g hg hg'
    rcases hw g hg with h1 | h1
    · exact h.tb g h1 hg'
    · have := h.body.old g hg'; omega
  · intro g hg hg'
    rcases hw g hg with h1 | h1
    · exact h.tf g h1 hg'
    · have := h.files.lt' g hg'; omega
  · intro hg
    rcases hw _ hg with h1 | h1
    · exact h.own.1 h1
    · have := h.blk.lt; omega
/-- The blocks are changed. -/
theorem VolIs.setBody (h : VolIs w v S t b f Ft Fb Ff) (m : Mods Fb w w') {B' : Bod} (hb : BodyRep w' b B' Fb) :
    VolIs w' v ⟨S.W, B', S.D, S.q⟩ t b f Ft Fb Ff :=
  ⟨h.blk.mods m h.own.2.1, h.tree.mods m h.tb, hb, h.files.mods m (fun g hg hg' => h.bf g hg' hg), h.tb, h.tf, h.bf, h.own⟩
end

theorem cell_heap {w w' : World} {a : Addr} {v : Value} (e : w'.heap[a.block]? = w.heap[a.block]?) (h : w.cell? a = some v) : w'.cell? a = some v := (World.cell?_of_block e).trans h
theorem count_ld {w : World} {g : Nat} {a b c : Int} (h : Blk w g tCount #[.int .i64 a, .int .i64 b, .int .i64 c]) : (loadVar tCount ⟨g, 0, none⟩).run Tryz.prog w = .ok (.agg #[.int .i64 a, .int .i64 b, .int .i64 c]) w :=
  run_loadVar_row (P := Tryz.prog) _ g tCount 39 _ (0, 0) _ h Tryz.underlying39 rfl (by kernel_rfl)

theorem TableRep.okIds {w : World} {t : Nat} {T : Tbl} {F : List Nat} (h : TableRep w t T F) : ∀ p ∈ T.l, okInt p.1 := by
  rcases h with ⟨_, h0, _⟩ | ⟨m, _, hm, _⟩
  · rw [h0]; simp
  · exact hm.oks

set_option maxRecDepth 100000 in
set_option maxHeartbeats 1000000 in
theorem vol_Count {w : World} {v : Nat} {S : VolSt} {F : List Nat} (h : VolRep w v S F) (h0 : S.W.T.l ≠ []) (hlen : S.W.T.l.length ≤ 1000000) (hsum : S.W.ents ≤ 1000000) (hblk : S.B.l.length ≤ 1000000) :
    Calls Tryz.prog 21 #[.pointer (some ⟨v, 0, none⟩)] w fun e w' => ∃ F', e = .returned (.agg #[.int .i64 (S.W.T.l.length : Int), .int .i64 (S.W.ents : Int), .int .i64 (S.B.l.length : Int)]) ∧ Mods F w w' ∧ Within w F F' ∧ VolRep w' v S F' := by
  obtain ⟨t, b, f, Ft, Fb, Ff, h, rfl⟩ := h
  obtain ⟨p, F1, htb, hw, hFt, hnt⟩ := id h.tree
  obtain ⟨tt, m, Fn, raw, hI, hF1⟩ := id hw
  have hb := h.blk
  have c0 := hb.cell 0
  have c1 := hb.cell 1
  have t0 := htb.cell 0
  have p0 := hI.blk.cell 0
  simp only [List.getElem?_toArray, List.getElem?_cons_zero, List.getElem?_cons_succ] at c0 c1 t0 p0
  have HL := Lib.hid (fun (w' : World) (m' : Mods [] w w') => table_Len (hI.tab.mods0 m'))
  have HE := Lib.hid (fun (w' : World) (m' : Mods [] w w') => tree_Entries (h.tree.mods0 m') h0 hlen hsum hI.tab.okIds)
  have HC := Lib.hid (fun (w' : World) (m' : Mods Ft w w') => body_Cells (h.body.mods m' (fun g hg hg' => h.tb g hg' hg) (h.tree.noRow (by decide) (by decide) (by decide) (by decide))) hblk)
  have HB := Lib.hid htb
  have hlt := hb.lt
  have hltt := htb.lt
  have hltp := hI.blk.lt
  have hv1 : v ∉ Ft := h.own.1
  have hlF := h.tree.lt
  have HI := Lib.hid h
  have mD := ((Mods.refl [] w).alloc (.cells #[.int .i64 0, .int .i64 0, .int .i64 0] tCount)).drew
  have rb := (Blk.new w tCount #[.int .i64 0, .int .i64 0, .int .i64 0]).drew
  have k0 := keepMods mD c0 (by simp)
  have k1 := keepMods mD c1 (by simp)
  have k2 := keepMods mD t0 (by simp)
  have k3 := keepMods mD p0 (by simp)
  have sD := mD.size
  generalize S.W.T.l.length = nN at *
  generalize S.W.ents = nE at *
  generalize S.B.l.length = nB at *
  clear hb h htb hw hI hFt hnt hF1 h0 hlen hsum hblk
  go_enter Tryz.func21, Tryz.ntmps21
  go_wp2_with fail
  go_region_held3 (fun w' => w'.cell? ⟨v, 0, none⟩ = some (.pointer (some ⟨t, 0, none⟩)) ∧ w'.cell? ⟨v, 1, none⟩ = some (.pointer (some ⟨b, 0, none⟩)) ∧ w'.cell? ⟨t, 0, none⟩ = some (.pointer (some ⟨p, 0, none⟩)) ∧ w'.cell? ⟨p, 0, none⟩ = some (.pointer (some ⟨tt, 0, none⟩))) (refine ⟨?_, ?_, ?_, ?_⟩ <;> (repeat (first | with_reducible assumption | with_reducible refine keepAlloc ?_ | with_reducible refine keepDrew ?_ | (with_reducible refine keepStore ?_ (by simp; try omega)))))
    (first
      | (go_at_call 66; refine (HL.out _ mD).mono ?_; rintro e w' ⟨rfl, rfl⟩)
      | (go_at_call 67; refine (HE.out _ mD).mono ?_; rintro e w1 ⟨F', rfl, m1, wi1, hT1, hkt, hkp⟩; have hkp := hkp p (HB.out.mods0 mD); have k0 := keepMods m1 k0 hv1; have k1 := keepMods m1 k1 hv1; have k2 := cell_heap hkt k2; have k3 := cell_heap hkp k3; have rb1 := rb.mods m1 (fun hg => by have := hlF _ hg; omega); have m1' := mD.of_nil.seq (Within.refl w Ft) m1; clear hkt hkp)
      | (go_at_call 68; refine (HC.out _ m1').mono ?_; rintro e w2 ⟨A, c, rfl, m2⟩; have k0 := keepMods m2 k0 (by simp); have k1 := keepMods m2 k1 (by simp); have k2 := keepMods m2 k2 (by simp); have k3 := keepMods m2 k3 (by simp); have rb2 := rb1.mods0 m2; have fr2 := rb2.frozen; have z0 := rb2.cell 0; have z1 := rb2.cell 1; have z2 := rb2.cell 2; have m2' := m1'.then m2; have lt2 := rb2.lt))
  go_wp2_with fail
  have e2 := ((rb2.set_ 0 (.int .i64 (nN : Int))).set_ 1 (.int .i64 (nE : Int))).set_ 2 (.int .i64 (nB : Int))
  simp only [List.setIfInBounds_toArray, List.set_cons_zero, List.set_cons_succ] at e2
  have ld := count_ld e2
  have mS := (((Mods.refl [w.heap.size] w2).setCell (p := ⟨w.heap.size, 0, none⟩) (.inl (by simp)) (.int .i64 (nN : Int))).setCell (p := ⟨w.heap.size, 1, none⟩) (.inl (by simp)) (.int .i64 (nE : Int))).setCell (p := ⟨w.heap.size, 2, none⟩) (.inl (by simp)) (.int .i64 (nB : Int))
  have mZ := m2'.trans mS (by intro g hg; simp at hg; subst hg; right; omega)
  have hwi : Within w Ft F' := fun g hg => by
    rcases wi1 g hg with h1 | h1
    · exact .inl h1
    · simp at h1; right; omega
  have hT3 := (hT1.mods0 m2).mods mS (fun g hg => by
    rcases wi1 g hg with h1 | h1
    · have := hlF g h1; simp; omega
    · simp at h1; simp; omega)
  refine bodyPost_ret (v := .agg #[.int .i64 (nN : Int), .int .i64 (nE : Int), .int .i64 (nB : Int)]) (by simp [results, Tryz.results21, asAddr, ld]) rfl ⟨v :: (F' ++ (Fb ++ Ff)), rfl, mZ.mono (fun g hg => by simp [hg]), ?_, t, b, f, F', Fb, Ff, HI.out.setTree mZ hT3 hwi, rfl⟩
  intro g hg
  simp only [List.mem_cons, List.mem_append] at hg ⊢
  rcases hg with hg | hg | hg | hg
  · exact .inl (.inl hg)
  · rcases hwi g hg with h1 | h1
    · exact .inl (.inr (.inl h1))
    · exact .inr h1
  · exact .inl (.inr (.inr (.inl hg)))
  · exact .inl (.inr (.inr (.inr hg)))
end Go.Proofs.YtaiigmiiidldcaaGreatDoor

namespace Go.Proofs.YtaiigmiiidldcaaGreatDoor
open Go.RowKit Go.Maps
open Go.ChangeMaps (setBlock)

/-- The counts are within what a walk can add. -/
structure VolB (S : VolSt) : Prop where
  ne : S.W.T.l ≠ []
  nodes : S.W.T.l.length ≤ 1000000
  ents : S.W.ents ≤ 1000000
  blocks : S.B.l.length ≤ 1000000

def VolSt.charge (S : VolSt) : Nat := S.W.T.l.length + S.W.ents + S.B.l.length

theorem FilesRep.noRow' {w : World} {f : Nat} {D : List (Int × Hd)} {F : List Nat} (h : FilesRep w f D F) {s : TypeId} (hs : tFiles ≠ s) : NoRow s w F := h.noRow hs

section
variable {w w' : World} {v : Nat} {S : VolSt} {F G : List Nat}
theorem VolRep.noRow (h : VolRep w v S F) {s : TypeId} (h0 : tVol ≠ s) (h1 : tTree ≠ s) (h2 : tWorld ≠ s) (h3 : tTable ≠ s) (h4 : tDir ≠ s) (h5 : tBody ≠ s) (h6 : tFiles ≠ s) : NoRow s w F := by
  obtain ⟨t, b, f, Ft, Fb, Ff, h, rfl⟩ := h
  have hb : NoRow s w Fb := by
    obtain ⟨ml, md, raw, b1, b2, b3, b4, b5, b6, rfl⟩ := h.body
    exact (NoRow.of_blk b1 h5).append ((NoRow.of_map b2).append (NoRow.of_map b3))
  exact NoRow.append (F := [v]) (NoRow.of_blk h.blk h0) ((h.tree.noRow h1 h2 h3 h4).append (hb.append (h.files.noRow h6)))
theorem VolRep.noBytes (h : VolRep w v S F) : NoBytes w F := h.noRow (by decide) (by decide) (by decide) (by decide) (by decide) (by decide) (by decide)
theorem VolRep.lt (h : VolRep w v S F) : ∀ g ∈ F, g < w.heap.size := by
  obtain ⟨t, b, f, Ft, Fb, Ff, h, rfl⟩ := h
  exact h.lt
theorem VolRep.vlt (h : VolRep w v S F) : v < w.heap.size := by
  obtain ⟨t, b, f, Ft, Fb, Ff, h, rfl⟩ := h
  exact h.blk.lt
theorem VolRep.mods (h : VolRep w v S F) (m : Mods G w w') (hd : ∀ g ∈ F, g ∉ G) (hG : NoBytes w G) : VolRep w' v S F := by
  obtain ⟨t, b, f, Ft, Fb, Ff, h, rfl⟩ := h
  exact ⟨t, b, f, Ft, Fb, Ff, ⟨h.blk.mods m (hd v (by simp)), h.tree.mods m (fun g hg => hd g (by simp [hg])), h.body.mods m (fun g hg => hd g (by simp [hg])) hG, h.files.mods m (fun g hg => hd g (by simp [hg])), h.tb, h.tf, h.bf, h.own⟩, rfl⟩
theorem VolRep.mods0 (h : VolRep w v S F) (m : Mods [] w w') : VolRep w' v S F := h.mods m (by simp) (by intro g hg; cases hg)
theorem VolRep.qcell (h : VolRep w v S F) : w.cell? ⟨v, 3, none⟩ = some (.int .i64 S.q) := by
  obtain ⟨t, b, f, Ft, Fb, Ff, h, rfl⟩ := h
  have := h.blk.cell 3
  simpa using this
end

/-- What is done keeps its word: from any volume that holds S it makes S'. I: what it asks of the world (its captured variables ..); K: what it may write besides. -/
def DoOk (g : Nat) (cb : Array Value) (w : World) (F K : List Nat) (S S' : VolSt) (I J : World → Prop) : Prop :=
  ∀ w1 v1 F1, I w1 → VolRep w1 v1 S F1 → w.heap.size ≤ w1.heap.size → (∀ x ∈ F1, x ∈ F ∨ w.heap.size ≤ x) →
    Calls Tryz.prog g (#[.pointer (some ⟨v1, 0, none⟩)] ++ cb) w1 fun e w2 => e = .returned .nilIface ∧ ∃ F2, Mods (F1 ++ K) w1 w2 ∧ Within w1 F1 F2 ∧ VolRep w2 v1 S' F2 ∧ J w2

/-- I speaks of blocks that lay in w, outside F, alone. -/
def Stays (w : World) (F : List Nat) (I : World → Prop) : Prop :=
  ∀ a b G, I a → Mods G a b → w.heap.size ≤ a.heap.size → (∀ x ∈ G, x ∈ F ∨ w.heap.size ≤ x) → I b

set_option maxRecDepth 100000 in
set_option maxHeartbeats 2000000 in
theorem vol_tried_yes {w : World} {v : Nat} {S S' : VolSt} {F K : List Nat} (h : VolRep w v S F) (hB : VolB S) (hB' : VolB S') (hq : S'.q = S.q) {g : Nat} {cb : Array Value} (eg : ∀ args w, (callFunc g args).run Tryz.prog w = .ok (.enter g args) w)
    {I J : World → Prop} (hI : I w) (hst : Stays w F I) (hJI : ∀ x, J x → I x) (hK : ∀ k ∈ K, k < w.heap.size ∧ k ∉ F) (hKb : NoBytes w K) (hdo : DoOk g cb w F K S S' I J)
    (hc : (S'.charge : Int) ≤ S.q ∨ S'.charge ≤ S.charge) :
    Calls Tryz.prog 62 #[.pointer (some ⟨v, 0, none⟩), .func (.func g) #[] cb] w fun e w' => e = .returned .nilIface ∧ ∃ F', Mods (F ++ K) w w' ∧ Within w F F' ∧ VolRep w' v S' F' ∧ J w' := by
  have hcl := vol_Clone h
  have hlF := h.lt
  have hnF := h.noBytes
  have n1 := hB'.nodes; have n2 := hB'.ents; have n3 := hB'.blocks
  have n4 := hB.nodes; have n5 := hB.ents; have n6 := hB.blocks
  have HV := Lib.hid h
  have HD := Lib.hid hdo
  have HST := Lib.hid hst
  have hqc := h.qcell
  have hvlt := h.vlt
  unfold VolSt.charge at hc
  have HC1 := Lib.hid (fun (w' : World) (v' : Nat) (F' : List Nat) (h' : VolRep w' v' S' F') => vol_Count h' hB'.ne hB'.nodes hB'.ents hB'.blocks)
  have HC2 := Lib.hid (fun (w' : World) (F' : List Nat) (h' : VolRep w' v S F') => vol_Count h' hB.ne hB.nodes hB.ents hB.blocks)
  generalize S'.W.T.l.length = a1 at *
  generalize S'.W.ents = a2 at *
  generalize S'.B.l.length = a3 at *
  generalize S.W.T.l.length = b1 at *
  generalize S.W.ents = b2 at *
  generalize S.B.l.length = b3 at *
  generalize hQ : S.q = Q at *
  have HQ := Lib.hid hQ
  clear hQ h hdo hst hq hB hB'
  go_enter Tryz.func62, Tryz.ntmps62
  go_wp2_with fail
  refine hcl.mono ?_
  rintro e w1 ⟨c, Fc, rfl, m1, hc1, hFc⟩
  have sz1 := m1.size
  have hdc := HD.out w1 c Fc (HST.out _ _ _ hI m1 (Nat.le_refl _) (by simp)) hc1 sz1 (fun x hx => .inr (hFc x hx))
  clear hcl
  go_wp2_with fail
  refine hdc.mono ?_
  rintro e w2 ⟨rfl, F2, m2, wi2, hc2, hJ2⟩
  have hcnt := HC1.out w2 c F2 hc2
  have sz2 := m2.size
  have mA : Mods K w w2 := m1.of_nil.trans m2 (fun x hx => by
    rcases List.mem_append.1 hx with hx | hx
    · exact .inr (hFc x hx)
    · exact .inl hx)
  have hF2 : ∀ x ∈ F2, w.heap.size ≤ x := fun x hx => by
    rcases wi2 x hx with h1 | h1
    · exact hFc x h1
    · omega
  clear hdc
  go_wp2_with fail
  refine hcnt.mono ?_
  rintro e w3 ⟨F3, rfl, m3, wi3, hc3⟩
  have hch := quota_Charge (Blk.new w3 tCount #[.int .i64 (a1 : Int), .int .i64 (a2 : Int), .int .i64 (a3 : Int)]) (by omega) (by omega) (by omega) (by omega) 1
  have mB : Mods K w w3 := mA.trans m3 (fun x hx => .inr (hF2 x hx))
  have sz3 := m3.size
  have hI3 : I w3 := HST.out w2 w3 F2 (hJI _ hJ2) m3 (by omega) (fun x hx => .inr (hF2 x hx))
  clear hcnt
  go_wp2_with fail
  refine hch.mono ?_
  rintro e w4 ⟨rfl, m4⟩
  have m34 := ((Mods.refl [] w3).alloc (.cells #[.int .i64 (a1 : Int), .int .i64 (a2 : Int), .int .i64 (a3 : Int)] tCount)).then m4
  have mC : Mods K w w4 := mB.then m34
  have sz4 := m34.size
  have hI4 : I w4 := HST.out w3 w4 [] hI3 m34 (by omega) (by simp)
  have hV4 := HV.out.mods mC (fun x hx hk => (hK x hk).2 hx) hKb
  have hq4 := hV4.qcell
  rw [HQ.out] at hq4
  have hlt4 := hV4.vlt
  clear hch
  have hFK : ∀ x ∈ K, x ∈ F ++ K := fun x hx => List.mem_append.2 (.inr hx)
  by_cases hle : (a1 : Int) + a2 + a3 ≤ Q
  · have hng : ¬ (Q < (a1 : Int) + a2 + a3) := by omega
    have hdv := HD.out w4 v F hI4 hV4 (by omega) (fun x hx => .inl hx)
    clear hle hc
    go_wp2_with fail
    refine hdv.mono ?_
    rintro e w5 ⟨rfl, F5, m5, wi5, hV5, hJ5⟩
    clear hdv
    go_wp2_with fail
    go_ret
    refine ⟨rfl, F5, (mC.mono hFK).trans m5 (fun x hx => .inl hx), fun x hx => ?_, hV5, hJ5⟩
    rcases wi5 x hx with h1 | h1
    · exact .inl h1
    · right; omega
  · have hng : Q < (a1 : Int) + a2 + a3 := by omega
    have hng2 : ¬ ((b1 : Int) + b2 + b3 < (a1 : Int) + a2 + a3) := by omega
    have hcv := HC2.out w4 F hV4
    clear hle hc
    go_wp2_with fail
    refine hcv.mono ?_
    rintro e w5 ⟨F5, rfl, m5, wi5, hV5⟩
    have hch := quota_Charge (Blk.new w5 tCount #[.int .i64 (b1 : Int), .int .i64 (b2 : Int), .int .i64 (b3 : Int)]) (by omega) (by omega) (by omega) (by omega) 1
    have sz5 := m5.size
    have hI5 : I w5 := HST.out w4 w5 F hI4 m5 (by omega) (fun x hx => .inl hx)
    clear hcv
    go_wp2_with fail
    refine hch.mono ?_
    rintro e w6 ⟨rfl, m6⟩
    have m56 := ((Mods.refl [] w5).alloc (.cells #[.int .i64 (b1 : Int), .int .i64 (b2 : Int), .int .i64 (b3 : Int)] tCount)).then m6
    have sz6 := m56.size
    have hI6 : I w6 := HST.out w5 w6 [] hI5 m56 (by omega) (by simp)
    have hV6 := hV5.mods0 m56
    have wi6 : ∀ x ∈ F5, x ∈ F ∨ w.heap.size ≤ x := fun x hx => by
      rcases wi5 x hx with h1 | h1
      · exact .inl h1
      · right; omega
    have hdv := HD.out w6 v F5 hI6 hV6 (by omega) wi6
    clear hch
    go_wp2_with fail
    refine hdv.mono ?_
    rintro e w7 ⟨rfl, F7, m7, wi7, hV7, hJ7⟩
    clear hdv
    go_wp2_with fail
    go_ret
    have mD : Mods (F ++ K) w w6 := ((mC.mono hFK).trans m5 (fun x hx => .inl (List.mem_append.2 (.inl hx)))).then m56
    refine ⟨rfl, F7, mD.trans m7 (fun x hx => ?_), fun x hx => ?_, hV7, hJ7⟩
    · rcases List.mem_append.1 hx with hx | hx
      · rcases wi6 x hx with h1 | h1
        · exact .inl (List.mem_append.2 (.inl h1))
        · exact .inr h1
      · exact .inl (hFK x hx)
    · rcases wi7 x hx with h1 | h1
      · exact wi6 x h1
      · right; omega
end Go.Proofs.YtaiigmiiidldcaaGreatDoor

namespace Go.Proofs.YtaiigmiiidldcaaGreatDoor
open Go.RowKit Go.Maps
open Go.ChangeMaps (setBlock)

/-- A node of kind k may be made at s: in directory d, by the name nm. -/
structure MkOk (W : Wld) (s : ByteArray) (k : Int) (P : Pth) (d nd : Int) (nm : ByteArray) : Prop where
  ok : WldOk W
  nl : NoLink W
  parse : parse s = (0, P)
  fresh : fresh1 W P (k == 2) = (0, d, nd, nm)
  l0 : 0 ≤ W.T.last
  l1 : W.T.last < 16777215
  room : W.T.l.length < 511
  ne : W.T.l ≠ []
  d1 : 1 ≤ d
  d2 : d ≤ 16777215
  dir : (W.made k d).dir d = true
  no : aGet ((W.made k d).δ d) nm = none
  nm : NameOk nm

theorem VolIs.noRowT {w : World} {v : Nat} {S : VolSt} {t b f : Nat} {Ft Fb Ff : List Nat} (h : VolIs w v S t b f Ft Fb Ff) : NoBytes w Ft := h.tree.noRow (by decide) (by decide) (by decide) (by decide)

theorem maxCell_mods {B0 : Nat} {A : Nat → Addr} {L : List Nat} {x y : World} {G : List Nat} (h : MaxCell x) (hg : Glob B0 A L x) (m : Mods G x y) (hG : ∀ g ∈ G, B0 ≤ g) : MaxCell y := by
  obtain ⟨n, hn⟩ := h
  exact ⟨n, keepMods m hn (fun h => by have h1 := hG _ h; have h2 := hg.low; simp only at h1; omega)⟩
theorem VolIs.mods {w w' : World} {v : Nat} {S : VolSt} {t b f : Nat} {Ft Fb Ff G : List Nat} (h : VolIs w v S t b f Ft Fb Ff) (m : Mods G w w') (hd : ∀ g ∈ v :: (Ft ++ (Fb ++ Ff)), g ∉ G) (hG : NoBytes w G) : VolIs w' v S t b f Ft Fb Ff :=
  ⟨h.blk.mods m (hd v (by simp)), h.tree.mods m (fun g hg => hd g (by simp [hg])), h.body.mods m (fun g hg => hd g (by simp [hg])) hG, h.files.mods m (fun g hg => hd g (by simp [hg])), h.tb, h.tf, h.bf, h.own⟩

/-- What create keeps of the world. -/
structure BoxI (B0 : Nat) (A : Nat → Addr) (L : List Nat) (bs bf : Nat) (s : ByteArray) (n : Int) (x : World) : Prop where
  G : Glob B0 A L x
  M : MaxCell x
  s : Blk x bs tStr #[.string s]
  f : Blk x bf tInt #[.int .i64 n]

theorem BoxI.mods {B0 : Nat} {A : Nat → Addr} {L : List Nat} {bs bf : Nat} {s : ByteArray} {n : Int} {x y : World} {G : List Nat} (h : BoxI B0 A L bs bf s n x) (m : Mods G x y) (hG : ∀ g ∈ G, B0 ≤ g ∧ g ≠ bs ∧ g ≠ bf) : BoxI B0 A L bs bf s n y :=
  ⟨h.G.mods m (fun g hg => (hG g hg).1), maxCell_mods h.M h.G m (fun g hg => (hG g hg).1), h.s.mods m (fun hg => (hG _ hg).2.1 rfl), h.f.mods m (fun hg => (hG _ hg).2.2 rfl)⟩

set_option maxRecDepth 100000 in
set_option maxHeartbeats 2000000 in
theorem create1_do {B0 : Nat} {A : Nat → Addr} {L : List Nat} {w : World} {F : List Nat} {S : VolSt} {s : ByteArray} {P : Pth} {d nd : Int} {nm : ByteArray} (hB0 : B0 ≤ w.heap.size) (hF : ∀ g ∈ F, B0 ≤ g) (hmk : MkOk S.W s 1 P d nd nm)
    (k : Nat) (hk : k < 16) (hmin : ∀ j : Nat, j < k → ∃ x, aGet S.D (j : Int) = some x) (hno : aGet S.D (k : Int) = none) {bs bf : Nat} (hbs : bs < w.heap.size ∧ bs ∉ F) (hbf : bf < w.heap.size ∧ bf ∉ F) (hbB : B0 ≤ bf) :
    DoOk 134 #[.pointer (some ⟨bs, 0, none⟩), .pointer (some ⟨bf, 0, none⟩)] w F [bf] S ⟨S.W.make 1 d nm, S.B, aPut S.D (k : Int) ⟨S.W.T.last + 1, 0⟩, S.q⟩
      (fun x => ∃ n, BoxI B0 A L bs bf s n x) (fun x => BoxI B0 A L bs bf s k x) := by
  rintro w1 v1 F1 ⟨n, hI⟩ hV hsz hF1
  obtain ⟨t, b, f, Ft, Fb, Ff, h, rfl⟩ := hV
  have hFt : ∀ g ∈ Ft, g ∈ v1 :: (Ft ++ (Fb ++ Ff)) := fun g hg => by simp [hg]
  have hFf : ∀ g ∈ Ff, g ∈ v1 :: (Ft ++ (Fb ++ Ff)) := fun g hg => by simp [hg]
  have hB : ∀ g ∈ v1 :: (Ft ++ (Fb ++ Ff)), B0 ≤ g ∧ g ≠ bs ∧ g ≠ bf := fun g hg => by
    rcases hF1 g hg with h1 | h1
    · exact ⟨hF g h1, fun e => hbs.2 (e ▸ h1), fun e => hbf.2 (e ▸ h1)⟩
    · exact ⟨by omega, by omega, by omega⟩
  have HM := Lib.hid (fun (w' : World) (m' : Mods [] w1 w') => tree_Make1 (hI.G.mods0 m') (maxCell_mods hI.M hI.G m' (by simp)) (h.tree.mods0 m') (fun g hg => (hB g (hFt g hg)).1) hmk.ok hmk.nl s 1 (.inl rfl) ByteArray.empty hmk.parse hmk.fresh hmk.l0 hmk.l1 hmk.room hmk.ne hmk.d1 hmk.d2 hmk.dir hmk.no hmk.nm)
  have HO := Lib.hid (fun (w' : World) (D' : List (Int × Hd)) (hD : D' = S.D) (h' : FilesRep w' f D' Ff) => files_Open_yes (hD ▸ h') (S.W.T.last + 1) k hk hmin hno)
  have hb := h.blk
  have c0 := hb.cell 0
  have c2 := hb.cell 2
  have s0 := hI.s.cell 0
  simp only [List.getElem?_toArray, List.getElem?_cons_zero, List.getElem?_cons_succ] at c0 c2 s0
  have mD := (Mods.refl [] w1).drew
  have hv1 : v1 ∉ Ft := h.own.1
  have hv3 : v1 ∉ Ff := h.own.2.2
  have HH := Lib.hid h
  have HI := Lib.hid hI
  have hlt := hb.lt
  have hlts := hI.s.lt
  have hltf := hI.f.lt
  have hl0 := hmk.l0
  have hl1 := hmk.l1
  have hvf : v1 ≠ bf := (hB v1 (by simp)).2.2
  generalize hW : S.W.make 1 d nm = W2 at *
  generalize hla : S.W.T.last + 1 = ni at *
  clear hb h hI hmk hW
  go_enter Tryz.func134, Tryz.ntmps134
  go_wp2_with fail
  go_region_held3 (fun w' => w'.cell? ⟨v1, 0, none⟩ = some (.pointer (some ⟨t, 0, none⟩)) ∧ w'.cell? ⟨bs, 0, none⟩ = some (.string s)) (refine ⟨?_, ?_⟩ <;> (repeat (first | with_reducible assumption | with_reducible refine keepAlloc ?_ | with_reducible refine keepDrew ?_ | (with_reducible refine keepStore ?_ (by simp; try omega)))))
    (first
      | (go_at_call 135; refine (HM.out _ mD).mono ?_; rintro e w2 ⟨Ft', rfl, m2, wi2, hT2⟩; have c0 := keepMods m2 (keepDrew c0) hv1; have c2 := keepMods m2 (keepDrew c2) hv1; have s0 := keepMods m2 (keepDrew s0) (fun hg => (hB _ (hFt _ hg)).2.1 rfl); have mE := mD.of_nil.seq (Within.refl w1 Ft) m2))
  have hI2 := HI.out.mods mE (fun g hg => hB g (hFt g hg))
  have h2 := HH.out.setTree mE hT2 wi2
  have sz2 := mE.size
  have hO := HO.out w2 _ rfl h2.files
  have H2 := Lib.hid h2
  clear h2
  go_wp2_with fail
  refine hO.mono ?_
  rintro e w3 ⟨rfl, m3, Ff', wf3, hn3, hf3⟩
  have hI3 := hI2.mods m3 (fun g hg => hB g (hFf g hg))
  have b0 := hI3.f.cell 0
  have fr := hI3.f.frozen
  have sz3 := m3.size
  simp only [List.getElem?_toArray, List.getElem?_cons_zero] at b0
  have h3 := Lib.hid (H2.out.setFiles m3 hf3 wf3)
  clear hO
  go_wp2_with fail
  go_ret
  have mS := (Mods.refl [bf] w3).setCell (p := ⟨bf, 0, none⟩) (.inl (by simp)) (.int .i64 (k : Int))
  have hw2 : ∀ g ∈ Ft', g ∈ Ft ∨ w1.heap.size ≤ g := wi2
  have hw3 : ∀ g ∈ Ff', g ∈ Ff ∨ w1.heap.size ≤ g := fun g hg => by
    rcases wf3 g hg with h1 | h1
    · exact .inl h1
    · right; omega
  have hWn : Within w1 (v1 :: (Ft ++ (Fb ++ Ff))) (v1 :: (Ft' ++ (Fb ++ Ff'))) := fun g hg => by
    simp only [List.mem_cons, List.mem_append] at hg ⊢
    rcases hg with hg | hg | hg | hg
    · exact .inl (.inl hg)
    · rcases hw2 g hg with h1 | h1
      · exact .inl (.inr (.inl h1))
      · exact .inr h1
    · exact .inl (.inr (.inr (.inl hg)))
    · rcases hw3 g hg with h1 | h1
      · exact .inl (.inr (.inr (.inr h1)))
      · exact .inr h1
  have hnb : ∀ g ∈ v1 :: (Ft' ++ (Fb ++ Ff')), g ∉ [bf] := fun g hg hg' => by
    obtain rfl := List.mem_singleton.1 hg'
    rcases hWn _ hg with h1 | h1
    · exact (hB _ h1).2.2 rfl
    · omega
  have hbsf : bs ≠ bf := by
    rintro rfl
    have e1 : w3.heap[bs]? = _ := hI3.s
    have e2 : w3.heap[bs]? = _ := hI3.f
    rw [e1] at e2
    simp at e2
  refine ⟨rfl, _, ((mE.mono (fun g hg => List.mem_append.2 (.inl (hFt g hg)))).trans m3 (fun g hg => .inl (List.mem_append.2 (.inl (hFf g hg))))).trans mS (fun g hg => .inl (List.mem_append.2 (.inr hg))), hWn, ⟨t, b, f, Ft', Fb, Ff', h3.out.mods mS hnb (NoRow.of_blk hI3.f (by decide)), rfl⟩, ?_⟩
  refine ⟨hI3.G.mods mS (fun g hg => ?_), maxCell_mods hI3.M hI3.G mS (fun g hg => ?_), hI3.s.far hbsf _, hI3.f.set_ 0 _⟩
  · obtain rfl := List.mem_singleton.1 hg
    exact hbB
  · obtain rfl := List.mem_singleton.1 hg
    exact hbB
end Go.Proofs.YtaiigmiiidldcaaGreatDoor

namespace Go.Proofs.YtaiigmiiidldcaaGreatDoor
open Go.RowKit Go.Maps
open Go.ChangeMaps (setBlock)

theorem fresh1_last {W : Wld} {P : Pth} {b : Bool} {d nd : Int} {nm : ByteArray} (h : fresh1 W P b = (0, d, nd, nm)) : last1 W P = (0, d, nd, nm) ∧ ¬ (0 < nd) := by
  unfold fresh1 at h
  split at h
  · rename_i h1
    rw [Prod.mk.injEq] at h
    exact absurd h.1 h1
  split at h
  · cases h
  split at h
  · cases h
  · rename_i h2 _; rw [h] at h2 ⊢; exact ⟨rfl, h2⟩

theorem enters_create1 : ∀ args w, (callFunc 134 args).run Tryz.prog w = .ok (.enter 134 args) w := enters_of Tryz.func134 (by kernel_rfl) rfl

set_option maxRecDepth 100000 in
set_option maxHeartbeats 2000000 in
theorem vol_create_yes {B0 : Nat} {A : Nat → Addr} {L : List Nat} {w : World} (G : Glob B0 A L w) (hM : MaxCell w) {v : Nat} {S : VolSt} {F : List Nat} (h : VolRep w v S F) (hF : ∀ g ∈ F, B0 ≤ g) {s : ByteArray} {P : Pth} {d nd : Int} {nm : ByteArray} (hmk : MkOk S.W s 1 P d nd nm)
    (k : Nat) (hk : k < 16) (hmin : ∀ j : Nat, j < k → ∃ x, aGet S.D (j : Int) = some x) (hno : aGet S.D (k : Int) = none) {S' : VolSt} (hS : S' = ⟨S.W.make 1 d nm, S.B, aPut S.D (k : Int) ⟨S.W.T.last + 1, 0⟩, S.q⟩)
    (hB : VolB S) (hB' : VolB S') (hc : (S'.charge : Int) ≤ S.q ∨ S'.charge ≤ S.charge) :
    Calls Tryz.prog 55 #[.pointer (some ⟨v, 0, none⟩), .string s] w fun e w' => e = .returned (.tuple #[.int .i64 (k : Int), .nilIface]) ∧ ∃ F', Mods F w w' ∧ Within w F F' ∧ VolRep w' v S' F' := by
  have HS := Lib.hid hS
  obtain ⟨hlast, hnd⟩ := fresh1_last hmk.fresh
  obtain ⟨t, b, f, Ft, Fb, Ff, h, rfl⟩ := h
  obtain ⟨p, F1, htb, hw, hFt, hnt⟩ := id h.tree
  obtain ⟨hpo, hpl⟩ := parse_ok s
  rw [hmk.parse] at hpo hpl
  simp only at hpo hpl
  have hF1 : ∀ g ∈ F1, B0 ≤ g := fun g hg => hF g (by rw [hFt]; simp [hg])
  have HP := Lib.hid (fun (w' : World) (m' : Mods [] w w') => path_Parse (G.mods0 m') (maxCell_mods hM G m' (by simp)) s)
  rw [hmk.parse] at HP
  simp only [errV_zero] at HP
  have HL := Lib.hid (fun (w' : World) (m' : Mods [] w w') (v' : Value) (hs : Strs w' v' P.parts) => walk_Last1 (G.mods0 m') (hw.mods0 m') hF1 hmk.ok hmk.nl P hpo hpl hs)
  rw [hlast] at HL
  simp only [errV_zero] at HL
  have hb := h.blk
  have c0 := hb.cell 0
  have t0 := htb.cell 0
  simp only [List.getElem?_toArray, List.getElem?_cons_zero, List.getElem?_cons_succ] at c0 t0
  have HH := Lib.hid h
  have HMK := Lib.hid hmk
  have HTB := Lib.hid htb
  have HG := Lib.hid G
  have HM := Lib.hid hM
  have hlt := hb.lt
  have hlF := h.lt
  have hltt := htb.lt
  have hsize := G.size
  have m0 := (Mods.refl [] w).alloc (.cells #[.string s] tStr)
  have b0 := Blk.new w tStr #[.string s]
  have hvF1 : v ∉ F1 := fun hg => h.own.1 (by rw [hFt]; simp [hg])
  have hlF1 : ∀ g ∈ F1, g < w.heap.size := fun g hg => hlF g (by rw [hFt]; simp [hg])
  clear hb h hmk htb hw hS hlast G hM
  go_enter Tryz.func55, Tryz.ntmps55
  go_wp2_with fail
  refine (HP.out _ m0).mono ?_
  rintro e w1 ⟨v1, rfl, hst, m1⟩
  obtain ⟨A1, c1, rfl, _, _⟩ := id hst
  have mA := (m0.then m1).alloc (.cells #[.slice A1 P.parts.length c1, .bool P.slash] tPath)
  have hst2 := hst.mods0 ((Mods.refl [] w1).alloc (.cells #[.slice A1 P.parts.length c1, .bool P.slash] tPath))
  have hpb := Blk.new w1 tPath #[.slice A1 P.parts.length c1, .bool P.slash]
  have hbs := (b0.mods0 m1).alloc (.cells #[.slice A1 P.parts.length c1, .bool P.slash] tPath)
  have hpF1 : w1.heap.size ∉ F1 := fun hg => by have h1 := hlF1 _ hg; have h2 := m1.size; simp at h2; omega
  have hjF1 : w1.heap.size + 1 ∉ F1 := fun hg => by have h1 := hlF1 _ hg; have h2 := m1.size; simp at h2; omega
  clear HP
  go_upto_region 4 with fail
  go_cut [7, 8] (fun s7 s8 wx => s7 = .nilIface ∧ ∃ g8 F8, s8 = .pointer (some ⟨g8, 0, none⟩) ∧ Blk wx g8 tFound #[.int .i64 d, .int .i64 nd, .string nm] ∧ Mods Ft (w1.alloc (.cells #[.slice A1 P.parts.length c1, .bool P.slash] tPath)) wx ∧ Within (w1.alloc (.cells #[.slice A1 P.parts.length c1, .bool P.slash] tPath)) Ft F8 ∧ TreeRep wx t S.W F8 ∧ w1.heap.size < g8)
  case first =>
    have mE := ((Mods.refl [] (w1.alloc (.cells #[.slice A1 P.parts.length c1, .bool P.slash] tPath))).drew)
    have mE2 := ((Mods.refl [] (w1.alloc (.cells #[.slice A1 P.parts.length c1, .bool P.slash] tPath))).alloc (.cells #[.int .i64 0, .int .i64 0, .string ⟨#[]⟩] tFound)).drew
    have k0 := keepMods mA c0 (by simp)
    have k1 := keepMods mA t0 (by simp)
    have k2 := hpb.cell 0
    have k3 := hpb.cell 1
    simp only [List.getElem?_toArray, List.getElem?_cons_zero, List.getElem?_cons_succ] at k2 k3
    have jb := (Blk.new (w1.alloc (.cells #[.slice A1 P.parts.length c1, .bool P.slash] tPath)) tFound #[.int .i64 0, .int .i64 0, .string ⟨#[]⟩]).drew
    rw [World.size_alloc] at jb
    have l0 := World.block_lt_of_cell? _ _ k0
    have l1 := World.block_lt_of_cell? _ _ k1
    simp only [World.size_alloc] at l0 l1
    have HTBW := Lib.hid (HTB.out.mods0 mA)
    go_region_held3 (fun w' => w'.cell? ⟨v, 0, none⟩ = some (.pointer (some ⟨t, 0, none⟩)) ∧ w'.cell? ⟨t, 0, none⟩ = some (.pointer (some ⟨p, 0, none⟩)) ∧ w'.cell? ⟨w1.heap.size, 0, none⟩ = some (.slice A1 P.parts.length c1) ∧ w'.cell? ⟨w1.heap.size, 1, none⟩ = some (.bool P.slash)) (refine ⟨?_, ?_, ?_, ?_⟩ <;> (repeat (first | with_reducible assumption | with_reducible refine keepAlloc ?_ | with_reducible refine keepDrew ?_ | (with_reducible refine keepStore ?_ (by simp; try omega)))))
      (first | (go_at_call 133; refine (HL.out _ ?_ _ ?_).mono ?_; (exact mA.then (by first | exact mE | exact mE2)); (exact hst2.mods0 (by first | exact mE | exact mE2)); rintro e w4 ⟨F4, rfl, m4, wi4, hw4⟩; have k0 := keepMods m4 (a := ⟨v, 0, none⟩) (by first | exact keepDrew k0 | exact keepDrew (keepAlloc k0)) hvF1; have k1 := keepMods m4 (a := ⟨t, 0, none⟩) (by first | exact keepDrew k1 | exact keepDrew (keepAlloc k1)) hnt; have k2 := keepMods m4 (a := ⟨w1.heap.size, 0, none⟩) (by first | exact keepDrew k2 | exact keepDrew (keepAlloc k2)) hpF1; have k3 := keepMods m4 (a := ⟨w1.heap.size, 1, none⟩) (by first | exact keepDrew k3 | exact keepDrew (keepAlloc k3)) hpF1; first | (have jb := jb.mods m4 hjF1; have fr := jb.frozen; have z0 := jb.cell 0; have z1 := jb.cell 1; have z2 := jb.cell 2; have mm := mE2.of_nil.trans m4 (fun g hg => .inl hg); simp at z0 z1 z2) | (have mm := mE.of_nil.trans m4 (fun g hg => .inl hg))))
    all_goals
      have wi4' : Within (w1.alloc (.cells #[.slice A1 P.parts.length c1, .bool P.slash] tPath)) F1 F4 := fun g hg => by
        rcases wi4 g hg with h1 | h1
        · exact .inl h1
        · simp at h1 ⊢; right; omega
      obtain ⟨hT4, m4t, wn4⟩ := TreeRep.step HTBW.out hnt mm wi4' hw4
      have sz4 := mm.size
      simp only [World.size_alloc] at sz4
      go_wp2_with fail
      go_meet
    · exact ⟨rfl, _, _, rfl, Blk.new _ _ _, by rw [hFt]; exact m4t.alloc _, by rw [hFt]; exact wn4, hT4.mods0 ((Mods.refl [] _).alloc _), by omega⟩
    · have mS := putFound_mods (x := d) (y := nd) (s := nm) (Mods.refl [w1.heap.size + 1] w4) (g := w1.heap.size + 1) (.inl (by simp))
      refine ⟨rfl, _, _, rfl, putFound_blk jb, by rw [hFt]; exact m4t.trans mS (by intro g hg; simp at hg; subst hg; right; simp), by rw [hFt]; exact wn4, hT4.mods mS (fun g hg hg' => ?_), by omega⟩
      have hs1 := m1.size
      simp at hs1 hg'
      subst hg'
      rcases List.mem_cons.1 hg with h1 | h1
      · omega
      · rcases wi4 _ h1 with h2 | h2
        · have := hlF1 _ h2; omega
        · simp at h2; omega
  case rest =>
    obtain ⟨rfl, g8, F8, rfl, hb8, mx, wx8, hT8, hg8⟩ := hcut
    have hs1 := m1.size
    simp only [World.size_alloc] at hs1
    have mW : Mods Ft w wc := mA.of_nil.trans mx (fun g hg => .inl hg)
    have wW : Within w Ft F8 := fun g hg => by
      rcases wx8 g hg with h1 | h1
      · exact .inl h1
      · simp at h1; right; omega
    have h8 := Lib.hid (HH.out.setTree mW hT8 wW)
    have G8 := HG.out.mods mW (fun g hg => hF g (by simp [hg]))
    have M8 := maxCell_mods HM.out HG.out mW (fun g hg => hF g (by simp [hg]))
    have hbs8 := hbs.mods mx (fun hg => by have := hlF _ (show w.heap.size ∈ v :: (Ft ++ (Fb ++ Ff)) by simp [hg]); omega)
    have szc := mx.size
    simp only [World.size_alloc] at szc
    have lt8 := h8.out.lt
    have hW8 : Within w (v :: (Ft ++ (Fb ++ Ff))) (v :: (F8 ++ (Fb ++ Ff))) := fun g hg => by
      simp only [List.mem_cons, List.mem_append] at hg ⊢
      rcases hg with hg | hg | hg
      · exact .inl (.inl hg)
      · rcases wW g hg with h1 | h1
        · exact .inl (.inr (.inl h1))
        · exact .inr h1
      · exact .inl (.inr (.inr hg))
    have hF8 : ∀ g ∈ v :: (F8 ++ (Fb ++ Ff)), B0 ≤ g ∧ g ≠ w.heap.size ∧ g ≠ wc.heap.size := fun g hg => by
      have hl := lt8 g hg
      refine ⟨?_, ?_, by omega⟩
      · rcases hW8 g hg with h1 | h1
        · exact hF g h1
        · omega
      · simp only [List.mem_cons, List.mem_append] at hg
        rcases hg with rfl | hg | hg | hg
        · omega
        · rcases wx8 g hg with h1 | h1
          · have := hlF g (by simp [h1]); omega
          · simp at h1; omega
        · have := hlF g (by simp [hg]); omega
        · have := hlF g (by simp [hg]); omega
    have m5 := (Mods.refl [] wc).alloc (.cells #[.int .i64 0] tInt)
    have hI5 : BoxI B0 A L w.heap.size wc.heap.size s 0 (wc.alloc (.cells #[.int .i64 0] tInt)) := ⟨G8.mods0 m5, maxCell_mods M8 G8 m5 (by simp), hbs8.mods0 m5, Blk.new _ _ _⟩
    have hB0c := G8.size
    have htr := vol_tried_yes (w := wc.alloc (.cells #[.int .i64 0] tInt)) (S' := S') (K := [wc.heap.size]) ⟨t, b, f, F8, Fb, Ff, h8.out.mods0 m5, rfl⟩ hB hB' (by rw [HS.out]) enters_create1
      (I := fun x => ∃ n, BoxI B0 A L w.heap.size wc.heap.size s n x) (J := fun x => BoxI B0 A L w.heap.size wc.heap.size s k x) ⟨0, hI5⟩
      (fun a b' G ⟨n, ha⟩ m hsz hG => ⟨n, ha.mods m (fun g hg => by
        rcases hG g hg with h1 | h1
        · exact hF8 g h1
        · simp at h1; exact ⟨by omega, by omega, by omega⟩)⟩)
      (fun x hx => ⟨_, hx⟩) (fun g hg => by
        obtain rfl := List.mem_singleton.1 hg
        exact ⟨by simp, fun h1 => (hF8 _ h1).2.2 rfl⟩) (NoRow.of_blk (Blk.new wc tInt #[.int .i64 0]) (by decide))
      (by rw [HS.out]; exact create1_do (by simp; omega) (fun g hg => (hF8 g hg).1) HMK.out k hk hmin hno ⟨by simp; omega, fun h1 => (hF8 _ h1).2.1 rfl⟩ ⟨by simp, fun h1 => (hF8 _ h1).2.2 rfl⟩ hB0c) hc
    have f1 := hb8.cell 1
    simp only [List.getElem?_toArray, List.getElem?_cons_zero, List.getElem?_cons_succ] at f1
    have HTR := Lib.hid htr
    have lb8 := hb8.lt
    clear htr HL hB hB' hc hmin hno
    go_wp2_with fail
    refine HTR.out.mono ?_
    rintro e w6 ⟨rfl, F9, m9, wi9, hV9, hJ9⟩
    have q0 := hJ9.f.cell 0
    simp only [List.getElem?_toArray, List.getElem?_cons_zero] at q0
    go_wp2_with fail
    go_ret2
    refine ⟨rfl, F9, ?_, ?_, hV9⟩
    · have mX : Mods (v :: (Ft ++ (Fb ++ Ff))) w (wc.alloc (.cells #[.int .i64 0] tInt)) := (mW.mono (fun g hg => by simp [hg])).then m5
      refine mX.trans m9 (fun g hg => ?_)
      rcases List.mem_append.1 hg with h1 | h1
      · exact hW8 g h1
      · obtain rfl := List.mem_singleton.1 h1
        right; omega
    · intro g hg
      rcases wi9 g hg with h1 | h1
      · exact hW8 g h1
      · simp at h1; right; omega
end Go.Proofs.YtaiigmiiidldcaaGreatDoor

/- Package tree: Entries. -/
import Derived.Test.YtaiigmiiidldcaaGreatDoorQ19
import Derived.Test.YtaiigmiiidldcaaGreatDoorQ22
import Derived.Test.YtaiigmiiidldcaaGreatDoorQ24
set_option linter.unusedSimpArgs false
set_option linter.unusedVariables false
namespace Go.Proofs.YtaiigmiiidldcaaGreatDoor
open Go.RowKit Go.Maps
open Go.ChangeMaps (setBlock)

theorem row_ints {w : World} {base n : Nat} {v : Value} {l : List Int} (h : w.ownsRow base tInt 1 v n (l.map intV)) (hl : l.length = n) (hn : 0 < n) :
    ∃ g cap cur, v = .slice (some ⟨g, 0, none⟩) n cap ∧ base ≤ g ∧ n ≤ cap ∧ Blk w g tInt cur ∧ ∀ (j : Nat) (x : Int), l[j]? = some x → cur[j]? = some (.int .i64 x) := by
  rcases h.2 with ⟨_, h0⟩ | ⟨g, cap, cur, rfl, hb, hh, h1, h2, h3, h4⟩
  · omega
  · refine ⟨g, cap, cur, rfl, hb, h1, hh, fun j x hx => ?_⟩
    have hj : j < n := by have := (List.getElem?_eq_some_iff.1 hx).1; omega
    have := congrArg (fun L : List Value => L[j]?) h4
    simp only [Nat.mul_one, List.getElem?_take_of_lt hj, List.getElem?_map, hx, Option.map_some, Array.getElem?_toList, intV] at this
    exact this

def Wld.ent1 (W : Wld) (i : Int) : Nat := if W.dir i = true then (W.δ i).length else 0
/-- How many entries. -/
def Wld.ents (W : Wld) : Nat := ((W.T.l.map (·.1)).map W.ent1).sum
def psum (W : Wld) (l : List Int) (k : Nat) : Nat := ((l.take k).map W.ent1).sum

theorem psum_succ (W : Wld) {l : List Int} {k : Nat} {x : Int} (h : l[k]? = some x) : psum W l (k + 1) = psum W l k + W.ent1 x := by
  unfold psum
  rw [List.take_add_one, h]
  simp
theorem psum_le (W : Wld) (l : List Int) (k : Nat) : psum W l k ≤ (l.map W.ent1).sum := by
  unfold psum
  have h1 : (l.map W.ent1).sum = ((l.take k).map W.ent1).sum + ((l.drop k).map W.ent1).sum := by
    rw [← List.sum_append, ← List.map_append, List.take_append_drop]
  omega
theorem WldRep.lt' {w : World} {p : Nat} {W : Wld} {F : List Nat} (h : WldRep w p W F) : p < w.heap.size := by
  obtain ⟨t, m, Ft, raw, h, _⟩ := h
  exact h.blk.lt
theorem sum_perm {l l' : List Int} (W : Wld) (h : l.Perm l') : (l.map W.ent1).sum = (l'.map W.ent1).sum := (h.map W.ent1).sum_nat

set_option maxRecDepth 100000 in
set_option maxHeartbeats 1000000 in
theorem tree_Entries {w : World} {t : Nat} {W : Wld} {F : List Nat} (h : TreeRep w t W F) (h0 : W.T.l ≠ []) (hlen : W.T.l.length ≤ 1000000) (hsum : W.ents ≤ 1000000) (hid : ∀ p ∈ W.T.l, okInt p.1) :
    Calls Tryz.prog 67 #[.pointer (some ⟨t, 0, none⟩)] w fun e w' => ∃ F', e = .returned (.int .i64 (W.ents : Int)) ∧ Mods F w w' ∧ Within w F F' ∧ TreeRep w' t W F' ∧ w'.heap[t]? = w.heap[t]? ∧ ∀ p, Blk w t tTree #[.pointer (some ⟨p, 0, none⟩)] → w'.heap[p]? = w.heap[p]? := by
  have hT := Lib.hid h
  obtain ⟨p, F1, hb, hw, rfl, hnt⟩ := h
  obtain ⟨tt, m, Ft, raw, hI, hF1⟩ := id hw
  have hall := table_All hI.tab h0 hlen
  have hbI := hI.blk
  have hltp := hbI.lt
  have hltt := hb.lt
  have HB := Lib.hid hb
  have c0 := hb.cell 0
  simp at c0
  have d0 := hbI.cell 0
  have d1 := hbI.cell 1
  simp at d0 d1
  have hpos : 0 < W.T.l.length := List.length_pos_iff.2 h0
  have hsl : (sortI (W.T.l.map (·.1))).length = W.T.l.length := by rw [sortI_length, List.length_map]
  have hse : ((sortI (W.T.l.map (·.1))).map W.ent1).sum = W.ents := sum_perm W (sortI_perm _)
  have hok : ∀ x ∈ sortI (W.T.l.map (·.1)), okInt x := by
    intro x hx
    have : x ∈ W.T.l.map (·.1) := (sortI_perm _).mem_iff.1 hx
    obtain ⟨q, hq, rfl⟩ := List.mem_map.1 this
    exact hid q hq
  generalize sortI (W.T.l.map (·.1)) = ids at *
  have hfin : psum W ids W.T.l.length = W.ents := by
    unfold psum
    rw [List.take_of_length_le (by omega)]
    exact hse
  have hps := fun k => psum_le W ids k
  rw [hse] at hps
  generalize W.ents = M at *
  have HFIN := Lib.hid hfin
  have HPS := Lib.hid hps
  have HSL := Lib.hid hsl
  generalize hN : W.T.l.length = N at *
  have HN := Lib.hid hN
  clear hfin hps hse hbI hI hb hsl h0 hN hid
  go_enter Tryz.func67, Tryz.ntmps67
  go_wp2_with fail
  refine hall.mono ?_
  rintro e w1 ⟨v, rfl, hrow, m1⟩
  obtain ⟨g, cap, cur, rfl, hg, hcap, hcur, hcell⟩ := row_ints hrow HSL.out hpos
  have hT1 := hT.out.mods0 m1
  have HC := Lib.hid hcell
  clear hcell hrow hall
  go_wp2_with fail
  go_loopw [3, 17] (fun s3 s17 wr => ∃ (k : Nat) (Fr : List Nat), k ≤ N ∧ s17 = .int .i64 k ∧ s3 = .int .i64 (psum W ids k : Nat) ∧ Mods (t :: F1) w1 wr ∧ Within w1 (t :: F1) Fr ∧ TreeRep wr t W Fr ∧ wr.heap[t]? = w1.heap[t]? ∧ wr.heap[p]? = w1.heap[p]?) (fun _ s17 _ => N - (intOf s17).toNat)
  case atStart => exact ⟨0, _, Nat.zero_le _, rfl, by simp [psum], Mods.refl _ _, Within.refl _ _, hT1, rfl, rfl⟩
  case round =>
    obtain ⟨k, Fr, hk, rfl, rfl, mr, wr_, hTr, hkt, hkp⟩ := hrel
    have HKT := Lib.hid hkt
    have HKP := Lib.hid hkp
    clear hkt hkp
    have hpk := HPS.out k
    by_cases hlt : k < N
    · obtain ⟨x, hx⟩ : ∃ x, ids[k]? = some x := ⟨_, List.getElem?_eq_getElem (by have := HSL.out; omega)⟩
      have hxo := hok x (List.mem_of_getElem? hx)
      have hcx := HC.out k _ hx
      have hps1 := HPS.out (k + 1)
      have hpe := psum_succ W hx
      have hgr : Blk wr g tInt cur := hcur.mods mr (fun hg' => by have := hT.out.lt g hg'; omega)
      have hce := hgr.cell k
      rw [hcx] at hce
      obtain ⟨p2, F2, hb2, hw2, rfl, hnt2⟩ := id hTr
      obtain rfl : p2 = p := by
        have e1 : wr.heap[t]? = _ := hb2
        have e2 : w.heap[t]? = _ := HB.out
        rw [HKT.out, m1.block t hltt (by simp), e2] at e1
        simpa using e1.symm
      have e0 := hb2.cell 0
      simp only [List.getElem?_toArray, List.getElem?_cons_zero] at e0
      by_cases hd : W.dir x = true
      · have hD := world_Dir_keep hw2 x hxo hd
        have hee : W.ent1 x = (W.δ x).length := if_pos hd
        rw [hee] at hpe
        have HPE := Lib.hid hpe
        have hle : (W.δ x).length ≤ 1000000 := by omega
        clear hpe hcx hee hd
        go_wp2_with fail
        refine hD.mono ?_
        rintro e w2 ⟨dd, F3, Fd, rfl, m2, wi2, hat, hkp2⟩
        have HKP2 := Lib.hid hkp2
        clear hkp2
        have hL := dir_Len hat.dir
        go_wp2_with fail
        refine hL.mono ?_
        rintro e w3 ⟨rfl, rfl⟩
        obtain ⟨hT3, m3, wn3⟩ := TreeRep.step hb2 hnt2 m2 wi2 hat.rep
        have hpe2 : psum W ids k + (W.δ x).length ≤ 1000000 := by have := HPE.out; omega
        go_wp2_with fail
        go_roundw
        case rel => exact ⟨k + 1, _, by omega, by go_num, by rw [HPE.out]; go_num, mr.seq wr_ m3, wr_.trans wn3 mr.size, hT3, (m2.block t hb2.lt hnt2).trans HKT.out, HKP2.out.trans HKP.out⟩
        case measure => simp [intOf]; omega
      · have hd' : W.dir x = false := by simpa using hd
        have hD := world_Dir_no hw2 x hxo hd'
        have hee : W.ent1 x = 0 := if_neg hd
        rw [hee] at hpe
        have HPE := Lib.hid hpe
        clear hpe hcx hee hd hd'
        go_wp2_with fail
        refine hD.mono ?_
        rintro e w2 ⟨rfl, m2⟩
        go_wp2_with fail
        go_roundw
        case rel => exact ⟨k + 1, _, by omega, by go_num, by rw [HPE.out]; rfl, mr.then m2, wr_, hTr.mods0 m2, (m2.block t hb2.lt (by simp)).trans HKT.out, (m2.block _ hw2.lt' (by simp)).trans HKP.out⟩
        case measure => simp [intOf]; omega
    · obtain rfl : k = N := by omega
      go_wp2_with fail
      go_ret
      refine ⟨Fr, by rw [HFIN.out]; rfl, m1.of_nil.seq (Within.refl _ _) mr, (Within.refl w _).trans wr_ m1.size, hTr, HKT.out.trans (m1.block t hltt (by simp)), fun p' hp' => ?_⟩
      obtain rfl : p' = p := by
        have e1 : w.heap[t]? = _ := HB.out
        have e2 : w.heap[t]? = _ := hp'
        rw [e1] at e2
        simpa using e2.symm
      exact HKP.out.trans (m1.block _ hltp (by simp))
end Go.Proofs.YtaiigmiiidldcaaGreatDoor

/- Packages walk, tree: Empty, New; Package tree: put, add; Package tree: Look, in a world without links; Package tree: fresh, in a world without links; Package node: Table.New; Package tree: Make of a file or a directory, where all goes well, in a world without links; Package node: Table.Clone. -/
import Derived.Test.YtaiigmiiidldcaaGreatDoorQ17
set_option linter.unusedSimpArgs false
set_option linter.unusedVariables false
namespace Go.Proofs.YtaiigmiiidldcaaGreatDoor
open Go.RowKit Go.Maps
open Go.ChangeMaps (setBlock)

abbrev tTree : TypeId := 127

set_option maxRecDepth 100000 in
set_option maxHeartbeats 1000000 in
theorem walk_Empty (w : World) :
    Calls Tryz.prog 201 #[] w fun e w' => e = .returned (.pointer (some ⟨w.heap.size + 1 + 1, 0, none⟩)) ∧ Mods [] w w' ∧ WldIs w' (w.heap.size + 1 + 1) ⟨⟨[], 0⟩, fun _ => []⟩ w.heap.size (w.heap.size + 1) [w.heap.size] [] := by
  have hmm := @run_makeMap Tryz.prog
  go_enter Tryz.func201, Tryz.ntmps201
  go_wp2_with fail
  go_ret
  refine ⟨by simp, (((Mods.refl [] w).alloc _).alloc _).alloc _, ?_, ?_, ?_, by simp, fun i => rfl, by simp; omega⟩
  · have := Blk.new ((w.alloc (.cells #[.map none, .int .i64 0] tTable)).alloc (.map #[] 0)) tWorld #[.pointer (some ⟨w.heap.size, 0, none⟩), .map (some (w.heap.size + 1))]
    simpa using this
  · exact .inl ⟨((Blk.new w tTable #[.map none, .int .i64 0]).alloc _).alloc _, rfl, rfl⟩
  · have := (MapRep.new (w.alloc (.cells #[.map none, .int .i64 0] tTable)) intV dirV okInt).alloc (.cells #[.pointer (some ⟨w.heap.size, 0, none⟩), .map (some (w.heap.size + 1))] tWorld)
    simpa using this

def rootNd : Nd := ⟨1, 2, 1, 0, ByteArray.empty, 1⟩
theorem rootNd_ok : NdOk rootNd := ⟨by decide, by decide, by decide, by decide, by decide, by decide, .inr (.inl ⟨rfl, rfl, rfl, by decide, by decide⟩)⟩

/-- The new world. -/
def W0 : Wld := ⟨⟨[(1, rootNd)], 1⟩, fun _ => []⟩

set_option maxRecDepth 100000 in
set_option maxHeartbeats 1000000 in
theorem walk_New (w : World) :
    Calls Tryz.prog 130 #[] w fun e w' => ∃ p F, e = .returned (.pointer (some ⟨p, 0, none⟩)) ∧ Mods [] w w' ∧ WldRep w' p W0 F ∧ ∀ g ∈ F, w.heap.size ≤ g := by
  have he := walk_Empty w
  go_enter Tryz.func130, Tryz.ntmps130
  go_wp2_with fail
  refine he.mono ?_
  rintro e w1 ⟨rfl, m1, hI⟩
  have hp := world_PutI hI (n := rootNd) rootNd_ok (.inr (by decide)) (.inr rfl)
  have hput : Wld.put ⟨⟨[], 0⟩, fun _ => []⟩ rootNd = W0 := by
    unfold Wld.put W0
    congr 1
    funext j
    split <;> rfl
  rw [hput] at hp
  simp only [rootNd, Nd.val] at hp
  have hsz := hI.lt
  clear he
  go_wp2_with fail
  refine hp.mono ?_
  rintro e w2 ⟨F, rfl, m2, wi, hw⟩
  go_wp2_with fail
  go_ret
  refine ⟨_, F, rfl, m1.trans m2 ?_, hw, ?_⟩
  · intro g hg
    simp at hg
    right; omega
  · intro g hg
    rcases wi g hg with h | h
    · simp at h; omega
    · exact Nat.le_trans m1.size h

/-- Block t is a tree. -/
def TreeRep (w : World) (t : Nat) (W : Wld) (F : List Nat) : Prop :=
  ∃ p F1, Blk w t tTree #[.pointer (some ⟨p, 0, none⟩)] ∧ WldRep w p W F1 ∧ F = t :: F1 ∧ t ∉ F1

set_option maxRecDepth 100000 in
set_option maxHeartbeats 1000000 in
theorem tree_New (w : World) :
    Calls Tryz.prog 52 #[] w fun e w' => ∃ t F, e = .returned (.pointer (some ⟨t, 0, none⟩)) ∧ Mods [] w w' ∧ TreeRep w' t W0 F ∧ ∀ g ∈ F, w.heap.size ≤ g := by
  have he := walk_New w
  go_enter Tryz.func52, Tryz.ntmps52
  go_wp2_with fail
  refine he.mono ?_
  rintro e w1 ⟨p, F, rfl, m1, hw, hF⟩
  go_wp2_with fail
  go_ret
  refine ⟨_, w1.heap.size :: F, rfl, m1.alloc _, ⟨p, F, Blk.new _ _ _, hw.mods0 ((Mods.refl [] _).alloc _), rfl, fun hh => by have := hw.lt _ hh; omega⟩, ?_⟩
  intro g hg
  rcases List.mem_cons.1 hg with rfl | hg
  · exact m1.size
  · exact hF g hg
end Go.Proofs.YtaiigmiiidldcaaGreatDoor

namespace Go.Proofs.YtaiigmiiidldcaaGreatDoor
open Go.RowKit Go.Maps
open Go.ChangeMaps (setBlock)

section
variable {w w' : World} {t : Nat} {W W' : Wld} {F : List Nat}
theorem TreeRep.lt (h : TreeRep w t W F) : ∀ g ∈ F, g < w.heap.size := by
  obtain ⟨p, F1, hb, hw, rfl, hn⟩ := h
  intro g hg
  rcases List.mem_cons.1 hg with rfl | hg
  · exact hb.lt
  · exact hw.lt g hg
theorem TreeRep.mods {G : List Nat} (h : TreeRep w t W F) (m : Mods G w w') (hd : ∀ g ∈ F, g ∉ G) : TreeRep w' t W F := by
  obtain ⟨p, F1, hb, hw, rfl, hn⟩ := h
  exact ⟨p, F1, hb.mods m (hd t (by simp)), hw.mods m (fun g hg => hd g (by simp [hg])), rfl, hn⟩
theorem TreeRep.mods0 (h : TreeRep w t W F) (m : Mods [] w w') : TreeRep w' t W F := h.mods m (by simp)
theorem TreeRep.noRow (h : TreeRep w t W F) {s : TypeId} (h0 : tTree ≠ s) (h1 : tWorld ≠ s) (h2 : tTable ≠ s) (h3 : tDir ≠ s) : NoRow s w F := by
  obtain ⟨p, F1, hb, hw, rfl, hn⟩ := h
  exact NoRow.append (F := [t]) (NoRow.of_blk hb h0) (hw.noRow h1 h2 h3)
theorem TreeRep.step {p : Nat} {F1 F1' : List Nat} (hb : Blk w t tTree #[.pointer (some ⟨p, 0, none⟩)]) (hn : t ∉ F1) (mm : Mods F1 w w') (hw : Within w F1 F1') (h : WldRep w' p W' F1') :
    TreeRep w' t W' (t :: F1') ∧ Mods (t :: F1) w w' ∧ Within w (t :: F1) (t :: F1') := by
  have hlt := hb.lt
  refine ⟨⟨p, F1', hb.mods mm hn, h, rfl, fun hh => ?_⟩, mm.mono (fun g hg => by simp [hg]), fun g hg => ?_⟩
  · rcases hw t hh with h1 | h1
    · exact hn h1
    · omega
  · rcases List.mem_cons.1 hg with rfl | hg
    · exact .inl (by simp)
    · rcases hw g hg with h1 | h1
      · exact .inl (by simp [h1])
      · exact .inr h1
end

set_option maxRecDepth 100000 in
set_option maxHeartbeats 1000000 in
theorem tree_put {w : World} {t : Nat} {W : Wld} {F : List Nat} (h : TreeRep w t W F) {n : Nd} (hn : NdOk n) (hroom : (W.T.get n.id).2 = true ∨ W.T.l.length < 512) (h0 : W.T.l ≠ []) :
    Calls Tryz.prog 152 #[.pointer (some ⟨t, 0, none⟩), n.val] w fun e w' => ∃ F', e = .returned (.bool true) ∧ Mods F w w' ∧ Within w F F' ∧ TreeRep w' t (W.put n) F' := by
  obtain ⟨p, F1, hb, hw, rfl, hnt⟩ := h
  have m0 := ((Mods.refl [] w).alloc (.cells n.cells tNd)).drew
  have hp := world_Put (hw.mods0 m0) hn hroom h0
  generalize W.put n = W' at *
  obtain ⟨n1, n2, n3, n4, n5, n6⟩ := n
  simp only [Nd.val, Nd.cells] at *
  have hx := (Blk.new w tNd #[.int .i64 n1, .int .i64 n2, .int .i64 n3, .int .i64 n4, .string n5, .int .i64 n6]).drew
  have hb0 := hb.mods m0 (by simp)
  have c0 := hb0.cell 0
  have x0 := hx.cell 0
  have x1 := hx.cell 1
  have x2 := hx.cell 2
  have x3 := hx.cell 3
  have x4 := hx.cell 4
  have x5 := hx.cell 5
  simp only [List.getElem?_toArray, List.getElem?_cons_zero, List.getElem?_cons_succ] at c0 x0 x1 x2 x3 x4 x5
  have hnr := (hw.mods0 m0).noRow (s := tNd) (by decide) (by decide) (by decide) |>.blk hx
  have HP := Lib.hid hp
  clear hp hn hroom h0
  go_enter Tryz.func152, Tryz.ntmps152
  go_upto_region 1 with fail
  go_region_held3 (fun w' => w'.cell? ⟨t, 0, none⟩ = some (.pointer (some ⟨p, 0, none⟩)) ∧ w'.cell? ⟨w.heap.size, 0, none⟩ = some (.int .i64 n1) ∧ w'.cell? ⟨w.heap.size, 1, none⟩ = some (.int .i64 n2) ∧ w'.cell? ⟨w.heap.size, 2, none⟩ = some (.int .i64 n3) ∧ w'.cell? ⟨w.heap.size, 3, none⟩ = some (.int .i64 n4) ∧ w'.cell? ⟨w.heap.size, 4, none⟩ = some (.string n5) ∧ w'.cell? ⟨w.heap.size, 5, none⟩ = some (.int .i64 n6)) (refine ⟨?_, ?_, ?_, ?_, ?_, ?_, ?_⟩ <;> (repeat (first | with_reducible assumption | with_reducible refine keepDrew ?_)))
    (first | (go_at_call 202; refine HP.out.mono ?_; rintro e wy ⟨F1', rfl, my, wi, hwy⟩; have hb1 := hb0.mods my hnt; have hx1 := hx.mods my hnr; have e0 := hb1.cell 0; have f0 := hx1.cell 0; have f1 := hx1.cell 1; have f2 := hx1.cell 2; have f3 := hx1.cell 3; have f4 := hx1.cell 4; have f5 := hx1.cell 5; simp at e0 f0 f1 f2 f3 f4 f5))
  go_wp2_with fail
  obtain ⟨r1, r2, r3⟩ := TreeRep.step hb0 hnt my wi hwy
  go_ret
  have mF := m0.of_nil.seq (Within.refl _ _) r2
  have wF := (Within.refl w (t :: F1)).trans r3 m0.size
  first | exact ⟨_, rfl, mF, wF, r1⟩ | exact ⟨rfl, mF, _, wF, r1⟩ | exact ⟨mF, _, wF, r1⟩

set_option maxRecDepth 100000 in
set_option maxHeartbeats 1000000 in
theorem tree_add {w : World} {t : Nat} {W : Wld} {F : List Nat} (h : TreeRep w t W F) {i : Int} (hi : okInt i) (hd : W.dir i = true) {x : Ent} (hx : EntOk x) (hno : aGet (W.δ i) x.name = none) :
    Calls Tryz.prog 153 #[.pointer (some ⟨t, 0, none⟩), .int .i64 i, x.val] w fun e w' => ∃ F', e = .returned .nilIface ∧ Mods F w w' ∧ Within w F F' ∧ TreeRep w' t (W.setD i (aPut (W.δ i) x.name x)) F' := by
  obtain ⟨p, F1, hb, hw, rfl, hnt⟩ := h
  have m0 := ((Mods.refl [] w).alloc (.cells x.cells tEnt))
  have hD := world_Dir_yes (hw.mods0 m0) i hi hd
  have HA := Lib.hid (fun (w' : World) (d : Nat) (Fd : List Nat) (h' : DirRep w' d (W.δ i) Fd) => dir_Add h' hx hno)
  generalize aPut (W.δ i) x.name x = D' at *
  obtain ⟨x1, x2, x3⟩ := x
  simp only [Ent.val, Ent.cells] at *
  have hxb := Blk.new w tEnt #[.string x1, .int .i64 x2, .int .i64 x3]
  have hb0 := hb.mods m0 (by simp)
  have c0 := hb.cell 0
  simp at c0
  have hlt := hb.lt
  have hnr := (hw.mods0 m0).noRow (s := tEnt) (by decide) (by decide) (by decide) |>.blk hxb
  clear hx hno
  go_enter Tryz.func153, Tryz.ntmps153
  go_wp2_with fail
  refine hD.mono ?_
  rintro e w1 ⟨d, F2, Fd, rfl, m1, wi, hat⟩
  have hx1 := hxb.mods m1 hnr
  have y0 := hx1.cell 0
  have y1 := hx1.cell 1
  have y2 := hx1.cell 2
  simp at y0 y1 y2
  clear hD
  go_wp2_with fail
  refine (HA.out _ _ _ hat.dir).mono ?_
  rintro e w2 ⟨rfl, m2, Fd', wd, hd2, hnd⟩
  go_wp2_with fail
  go_ret
  obtain ⟨F3, hat3, wi3⟩ := hat.set m2 hd2 wd hnd
  have hsub := hat.sub
  have mm : Mods F1 (w.alloc (.cells #[.string x1, .int .i64 x2, .int .i64 x3] tEnt)) w2 := m1.seq wi (m2.mono hsub)
  have wj : Within (w.alloc (.cells #[.string x1, .int .i64 x2, .int .i64 x3] tEnt)) F1 F3 := wi.trans wi3 m1.size
  obtain ⟨r1, r2, r3⟩ := TreeRep.step hb0 hnt mm wj hat3.rep
  have mF := m0.of_nil.seq (Within.refl _ _) r2
  have wF := (Within.refl w (t :: F1)).trans r3 m0.size
  first | exact ⟨_, rfl, mF, wF, r1⟩ | exact ⟨rfl, mF, _, wF, r1⟩ | exact ⟨mF, _, wF, r1⟩
end Go.Proofs.YtaiigmiiidldcaaGreatDoor

namespace Go.Proofs.YtaiigmiiidldcaaGreatDoor
open Go.RowKit Go.Maps
open Go.ChangeMaps (setBlock)

theorem partsOf_ok : ∀ (l acc r : List ByteArray), partsOf l acc = some r → (∀ x ∈ acc, okStr x) → (∀ x ∈ r, okStr x) ∧ r.length ≤ acc.length + l.length := by
  intro l
  induction l with
  | nil =>
    intro acc r h ha
    rw [partsOf] at h
    cases h
    exact ⟨ha, by simp⟩
  | cons x l ih =>
    intro acc r h ha
    rw [partsOf] at h
    split at h
    · have := ih _ _ h ha
      exact ⟨this.1, by have := this.2; simp; omega⟩
    · split at h
      · cases h
      · rename_i hx
        have := ih _ _ h (by
          intro y hy
          rcases List.mem_append.1 hy with hy | hy
          · exact ha y hy
          · obtain rfl := List.mem_singleton.1 hy
            unfold okStr; omega)
        exact ⟨this.1, by have := this.2; simp at this ⊢; omega⟩

theorem parse_ok (s : ByteArray) : (∀ x ∈ (parse s).2.parts, okStr x) ∧ (parse s).2.parts.length ≤ 1048576 := by
  unfold parse
  split
  · exact ⟨by simp, by simp⟩
  split
  · exact ⟨by simp, by simp⟩
  split
  · exact ⟨by simp, by simp⟩
  cases hp : partsOf (segs s) [] with
  | none => exact ⟨by simp, by simp⟩
  | some l =>
    have h := partsOf_ok _ _ _ hp (by simp)
    rename_i h2 _
    have hl := segs_length s
    have := Lib.countB_le slashB (by decide) s.size s (Nat.le_refl _)
    have h3 := h.2
    simp only [List.length_nil] at h3
    exact ⟨h.1, by simp only; omega⟩

/-- What Look gives: the error's code, the node. -/
def look1 (W : Wld) (s : ByteArray) : Nat × Nd :=
  if (parse s).1 ≠ 0 then ((parse s).1, Nd.zero)
  else if (go1 W (parse s).2.slash 1 (parse s).2.parts).1 ≠ 0 then ((go1 W (parse s).2.slash 1 (parse s).2.parts).1, Nd.zero)
  else if (W.T.get (go1 W (parse s).2.slash 1 (parse s).2.parts).2).2 = false then (109, Nd.zero)
  else (0, (W.T.get (go1 W (parse s).2.slash 1 (parse s).2.parts).2).1)

set_option maxRecDepth 100000 in
set_option maxHeartbeats 2000000 in
theorem tree_Look1 {B0 : Nat} {A : Nat → Addr} {L : List Nat} {w : World} (G : Glob B0 A L w) (hm : MaxCell w) {t : Nat} {W : Wld} {F : List Nat} (h : TreeRep w t W F) (hF : ∀ g ∈ F, B0 ≤ g) (hok : WldOk W) (hnl : NoLink W) (s : ByteArray) (fo : Bool) :
    Calls Tryz.prog 54 #[.pointer (some ⟨t, 0, none⟩), .string s, .bool fo] w fun e w' => ∃ F', e = .returned (.tuple #[(look1 W s).2.val, errV eT A (look1 W s).1]) ∧ Mods F w w' ∧ Within w F F' ∧ TreeRep w' t W F' := by
  have hT0 := Lib.hid h
  obtain ⟨p, F1, hb, hw, rfl, hnt⟩ := h
  have m0 := (Mods.refl [] w).alloc (.cells #[.int .i64 0, .int .i64 0, .int .i64 0, .int .i64 0, .string ⟨#[]⟩, .int .i64 0] tNd)
  have hm0 : MaxCell (w.alloc (.cells #[.int .i64 0, .int .i64 0, .int .i64 0, .int .i64 0, .string ⟨#[]⟩, .int .i64 0] tNd)) := by
    obtain ⟨m, hm⟩ := hm
    exact ⟨m, keepAlloc hm⟩
  have hp := path_Parse (G.mods0 m0) hm0 s
  obtain ⟨hpo, hpl⟩ := parse_ok s
  obtain ⟨R, hR⟩ : ∃ R, look1 W s = R := ⟨_, rfl⟩
  rw [hR]
  unfold look1 at hR
  generalize hps : parse s = ps at *
  obtain ⟨c, ⟨l, sl⟩⟩ := ps
  simp only at hp hpo hpl hR
  have hgo := go1_ok hok sl l 1 (by constructor <;> decide)
  have HTo := Lib.hid (fun (w' : World) (v' : Value) (m' : Mods [] w w') (h' : Strs w' v' l) => walk_To1 (G.mods0 m') (hw.mods0 m') (fun g hg => hF g (by simp [hg])) hok hnl ⟨l, sl⟩ hpo hpl h' fo)
  simp only at HTo
  generalize go1 W sl 1 l = T at *
  obtain ⟨ct, i⟩ := T
  simp only at hgo hR HTo
  have HG := Lib.hid (fun (tt : Nat) (Ft : List Nat) (w' : World) (h' : TableRep w' tt W.T Ft) => table_Get h' i hgo)
  generalize W.T.get i = nd at *
  obtain ⟨⟨y1, y2, y3, y4, y5, y6⟩, yb⟩ := nd
  simp only [Nd.val] at HG
  have hx0 := Blk.new w tNd #[.int .i64 0, .int .i64 0, .int .i64 0, .int .i64 0, .string ⟨#[]⟩, .int .i64 0]
  have HR := Lib.hid hR
  have hlt := hb.lt
  clear hR
  by_cases hc : c = 0
  · subst hc
    rw [errV_zero] at hp
    have hr := HR.out
    rw [if_neg (by simp)] at hr
    by_cases hct : ct = 0
    · subst hct
      rw [if_neg (by simp)] at hr
      simp only [errV_zero] at HTo
      have HR2 := Lib.hid hr
      clear hr HR
      go_enter Tryz.func54, Tryz.ntmps54
      go_wp2_with fail
      refine hp.mono ?_
      rintro e w1 ⟨v1, rfl, hst, m1⟩
      obtain ⟨A2, c2, rfl, _, _⟩ := id hst
      have x2 := ((hx0.mods m1 (by simp)).alloc (.cells #[.slice A2 l.length c2, .bool sl] tPath)).drew
      have mA := ((m0.then m1).alloc (.cells #[.slice A2 l.length c2, .bool sl] tPath)).drew
      have hst2 := hst.mods0 (((Mods.refl [] w1).alloc (.cells #[.slice A2 l.length c2, .bool sl] tPath)).drew)
      have hbA := hb.mods mA (by simp)
      have hpb := (Blk.new w1 tPath #[.slice A2 l.length c2, .bool sl]).drew
      have k0 := hbA.cell 0
      have k1 := hpb.cell 0
      have k2 := hpb.cell 1
      simp only [List.getElem?_toArray, List.getElem?_cons_zero, List.getElem?_cons_succ] at k0 k1 k2
      have hwA := hw.mods0 mA
      have hnp := (hwA.noRow (s := tPath) (by decide) (by decide) (by decide)).blk hpb
      have hnx := (hwA.noRow (s := tNd) (by decide) (by decide) (by decide)).blk x2
      clear hp hx0
      go_upto_region 4 with fail
      go_region_held3 (fun w' => w'.cell? ⟨t, 0, none⟩ = some (.pointer (some ⟨p, 0, none⟩)) ∧ w'.cell? ⟨w1.heap.size, 0, none⟩ = some (.slice A2 l.length c2) ∧ w'.cell? ⟨w1.heap.size, 1, none⟩ = some (.bool sl)) (refine ⟨?_, ?_, ?_⟩ <;> (repeat (first | with_reducible assumption | with_reducible refine keepDrew ?_)))
        (first | (go_at_call 132; refine (HTo.out _ _ mA hst2).mono ?_; rintro e w2 ⟨F2, rfl, m2, wi2, hw2⟩; have hb2 := hbA.mods m2 hnt; have hpb2 := hpb.mods m2 hnp; have k0 := hb2.cell 0; have k1 := hpb2.cell 0; have k2 := hpb2.cell 1; simp only [List.getElem?_toArray, List.getElem?_cons_zero, List.getElem?_cons_succ] at k0 k1 k2))
      have x3 := x2.mods m2 hnx
      obtain ⟨r1, r2, r3⟩ := TreeRep.step hbA hnt m2 wi2 hw2
      have mB := mA.of_nil.seq (Within.refl _ _) r2
      have wB := (Within.refl w (t :: F1)).trans r3 mA.size
      obtain ⟨tt, mt, Ft, raw, hI, _⟩ := id hw2
      have hbI := hI.blk
      have HTI := Lib.hid hI.tab
      have q0 := hbI.cell 0
      have q1 := hbI.cell 1
      simp at q0 q1
      clear hbI hI
      have mC := mB.then (Mods.refl [] w2)
      go_wp2_with fail
      refine (HG.out tt Ft _ HTI.out).mono ?_
      rintro e w3 ⟨rfl, m3⟩
      have x4 := x3.mods m3 (by simp)
      have mD := mB.then m3
      have hr3 := r1.mods0 m3
      have hnF := (hr3.noRow (s := tNd) (by decide) (by decide) (by decide) (by decide)).blk x4
      have lt2 := x4.lt
      have fr := x4.frozen
      have z0 := x4.cell 0
      have z1 := x4.cell 1
      have z2 := x4.cell 2
      have z3 := x4.cell 3
      have z4 := x4.cell 4
      have z5 := x4.cell 5
      simp at z0 z1 z2 z3 z4 z5
      have hr := HR2.out
      cases yb
      · rw [if_pos rfl] at hr
        have G3 := G.mods mD hF
        have g1 : w3.cell? ⟨0, 0, none⟩ = _ := G3.cell 109 (G3.core _ (by decide))
        have g2 := G3.lt 0 (by decide)
        have g3 := G.lt 0 (by decide)
        have hn1 : ¬ (0 = w.heap.size) := by omega
        have hn2 : ¬ (w.heap.size = 0) := by omega
        have HR3 := Lib.hid hr
        clear G3 hr
        go_wp2_with fail
        go_region
        go_wp2_with fail
        have y2' := ((putNd_blk (n1 := 0) (n2 := 0) (n3 := 0) (n4 := 0) (n5 := ⟨#[]⟩) (n6 := 0) x4).alloc (.cells #[.int .i64 y1, .int .i64 y2, .int .i64 y3, .int .i64 y4, .string y5, .int .i64 y6] tNd)).drew
        have ld := nd_ld y2'
        have mm := ((putNd_mods (g := w.heap.size) (n1 := 0) (n2 := 0) (n3 := 0) (n4 := 0) (n5 := ⟨#[]⟩) (n6 := 0) mD (.inr (Nat.le_refl _))).alloc (.cells #[.int .i64 y1, .int .i64 y2, .int .i64 y3, .int .i64 y4, .string y5, .int .i64 y6] tNd)).drew
        have hfin := hr3.mods (((putNd_mods (g := w.heap.size) (n1 := 0) (n2 := 0) (n3 := 0) (n4 := 0) (n5 := ⟨#[]⟩) (n6 := 0) (Mods.refl [w.heap.size] w3) (.inl (by simp))).alloc (.cells #[.int .i64 y1, .int .i64 y2, .int .i64 y3, .int .i64 y4, .string y5, .int .i64 y6] tNd)).drew) (fun g hg hg' => by simp at hg'; subst hg'; exact hnF hg)
        simp only [putNd] at ld mm hfin
        refine bodyPost_ret (v := .tuple #[.agg #[.int .i64 0, .int .i64 0, .int .i64 0, .int .i64 0, .string ⟨#[]⟩, .int .i64 0], .iface eT (.pointer (some (A 109)))]) (by simp [results, Tryz.results54, asAddr, ld]) rfl ⟨t :: F2, ?_, mm, wB, hfin⟩
        rw [← HR3.out, errV_pos eT A (c := 109) (by decide)]
        rfl
      · rw [if_neg (by decide)] at hr
        have HR3 := Lib.hid hr
        clear hr
        go_wp2_with fail
        have y2' := ((putNd_blk (n1 := y1) (n2 := y2) (n3 := y3) (n4 := y4) (n5 := y5) (n6 := y6) x4).alloc (.cells #[.int .i64 y1, .int .i64 y2, .int .i64 y3, .int .i64 y4, .string y5, .int .i64 y6] tNd))
        have ld := nd_ld y2'
        have mm := ((putNd_mods (g := w.heap.size) (n1 := y1) (n2 := y2) (n3 := y3) (n4 := y4) (n5 := y5) (n6 := y6) mD (.inr (Nat.le_refl _))).alloc (.cells #[.int .i64 y1, .int .i64 y2, .int .i64 y3, .int .i64 y4, .string y5, .int .i64 y6] tNd))
        have hfin := hr3.mods (((putNd_mods (g := w.heap.size) (n1 := y1) (n2 := y2) (n3 := y3) (n4 := y4) (n5 := y5) (n6 := y6) (Mods.refl [w.heap.size] w3) (.inl (by simp))).alloc (.cells #[.int .i64 y1, .int .i64 y2, .int .i64 y3, .int .i64 y4, .string y5, .int .i64 y6] tNd))) (fun g hg hg' => by simp at hg'; subst hg'; exact hnF hg)
        simp only [putNd] at ld mm hfin
        refine bodyPost_ret (v := .tuple #[.agg #[.int .i64 y1, .int .i64 y2, .int .i64 y3, .int .i64 y4, .string y5, .int .i64 y6], .nilIface]) (by simp [results, Tryz.results54, asAddr, ld]) rfl ⟨t :: F2, ?_, mm, wB, hfin⟩
        rw [← HR3.out]
        rfl
    · rw [if_pos hct] at hr
      simp only [errV_pos eT A hct] at HTo
      have HR2 := Lib.hid hr
      clear hr HR
      go_enter Tryz.func54, Tryz.ntmps54
      go_wp2_with fail
      refine hp.mono ?_
      rintro e w1 ⟨v1, rfl, hst, m1⟩
      obtain ⟨A2, c2, rfl, _, _⟩ := id hst
      have x2 := ((hx0.mods m1 (by simp)).alloc (.cells #[.slice A2 l.length c2, .bool sl] tPath)).drew
      have mA := ((m0.then m1).alloc (.cells #[.slice A2 l.length c2, .bool sl] tPath)).drew
      have hst2 := hst.mods0 (((Mods.refl [] w1).alloc (.cells #[.slice A2 l.length c2, .bool sl] tPath)).drew)
      have hbA := hb.mods mA (by simp)
      have hpb := (Blk.new w1 tPath #[.slice A2 l.length c2, .bool sl]).drew
      have k0 := hbA.cell 0
      have k1 := hpb.cell 0
      have k2 := hpb.cell 1
      simp only [List.getElem?_toArray, List.getElem?_cons_zero, List.getElem?_cons_succ] at k0 k1 k2
      have hwA := hw.mods0 mA
      have hnp := (hwA.noRow (s := tPath) (by decide) (by decide) (by decide)).blk hpb
      have hnx := (hwA.noRow (s := tNd) (by decide) (by decide) (by decide)).blk x2
      clear hp hx0
      go_upto_region 4 with fail
      go_region_held3 (fun w' => w'.cell? ⟨t, 0, none⟩ = some (.pointer (some ⟨p, 0, none⟩)) ∧ w'.cell? ⟨w1.heap.size, 0, none⟩ = some (.slice A2 l.length c2) ∧ w'.cell? ⟨w1.heap.size, 1, none⟩ = some (.bool sl)) (refine ⟨?_, ?_, ?_⟩ <;> (repeat (first | with_reducible assumption | with_reducible refine keepDrew ?_)))
        (first | (go_at_call 132; refine (HTo.out _ _ mA hst2).mono ?_; rintro e w2 ⟨F2, rfl, m2, wi2, hw2⟩; have hb2 := hbA.mods m2 hnt; have hpb2 := hpb.mods m2 hnp; have k0 := hb2.cell 0; have k1 := hpb2.cell 0; have k2 := hpb2.cell 1; simp only [List.getElem?_toArray, List.getElem?_cons_zero, List.getElem?_cons_succ] at k0 k1 k2))
      have x3 := x2.mods m2 hnx
      obtain ⟨r1, r2, r3⟩ := TreeRep.step hbA hnt m2 wi2 hw2
      have mB := mA.of_nil.seq (Within.refl _ _) r2
      have wB := (Within.refl w (t :: F1)).trans r3 mA.size
      have lt2 := x3.lt
      have fr := x3.frozen
      have z0 := x3.cell 0
      have z1 := x3.cell 1
      have z2 := x3.cell 2
      have z3 := x3.cell 3
      have z4 := x3.cell 4
      have z5 := x3.cell 5
      simp at z0 z1 z2 z3 z4 z5
      go_wp2_with fail
      have y2 := (putNd_blk (n1 := 0) (n2 := 0) (n3 := 0) (n4 := 0) (n5 := ⟨#[]⟩) (n6 := 0) x3)
      have ld := nd_ld y2
      have mm := (putNd_mods (g := w.heap.size) (n1 := 0) (n2 := 0) (n3 := 0) (n4 := 0) (n5 := ⟨#[]⟩) (n6 := 0) mB (.inr (Nat.le_refl _)))
      have hnF := (r1.noRow (s := tNd) (by decide) (by decide) (by decide) (by decide)).blk x3
      have hfin := r1.mods (putNd_mods (g := w.heap.size) (n1 := 0) (n2 := 0) (n3 := 0) (n4 := 0) (n5 := ⟨#[]⟩) (n6 := 0) (Mods.refl [w.heap.size] w2) (.inl (by simp))) (fun g hg hg' => by simp at hg'; subst hg'; exact hnF hg)
      simp only [putNd] at ld mm hfin
      refine bodyPost_ret (v := .tuple #[.agg #[.int .i64 0, .int .i64 0, .int .i64 0, .int .i64 0, .string ⟨#[]⟩, .int .i64 0], .iface eT (.pointer (some (A ct)))]) (by simp [results, Tryz.results54, asAddr, ld]) rfl ⟨t :: F2, ?_, mm, wB, hfin⟩
      rw [← HR2.out, errV_pos eT A hct]
      rfl
  · have hr := HR.out
    rw [if_pos hc] at hr
    rw [errV_pos eT A hc] at hp
    subst hr
    simp only [Nd.val, Nd.zero]
    go_enter Tryz.func54, Tryz.ntmps54
    go_wp2_with fail
    refine hp.mono ?_
    rintro e w1 ⟨v1, rfl, hst, m1⟩
    obtain ⟨A2, c2, rfl, _, _⟩ := hst
    have x2 := hx0.mods m1 (by simp)
    have lt2 := x2.lt
    have fr := x2.frozen
    have z0 := x2.cell 0
    have z1 := x2.cell 1
    have z2 := x2.cell 2
    have z3 := x2.cell 3
    have z4 := x2.cell 4
    have z5 := x2.cell 5
    simp at z0 z1 z2 z3 z4 z5
    clear hp hx0
    go_wp2_with fail
    have y2 := (putNd_blk (n1 := 0) (n2 := 0) (n3 := 0) (n4 := 0) (n5 := ⟨#[]⟩) (n6 := 0) x2).alloc (.cells #[.slice A2 l.length c2, .bool sl] tPath)
    have ld := nd_ld y2
    have mm := (putNd_mods (g := w.heap.size) (n1 := 0) (n2 := 0) (n3 := 0) (n4 := 0) (n5 := ⟨#[]⟩) (n6 := 0) (m0.then m1) (.inr (Nat.le_refl _))).alloc (.cells #[.slice A2 l.length c2, .bool sl] tPath)
    simp only [putNd] at ld mm
    refine bodyPost_ret (v := .tuple #[.agg #[.int .i64 0, .int .i64 0, .int .i64 0, .int .i64 0, .string ⟨#[]⟩, .int .i64 0], .iface eT (.pointer (some (A c)))]) (by simp [results, Tryz.results54, asAddr, ld]) rfl ⟨t :: F1, ?_, mm.of_nil, Within.refl _ _, hT0.out.mods0 mm⟩
    rw [errV_pos eT A hc]
    rfl
end Go.Proofs.YtaiigmiiidldcaaGreatDoor

namespace Go.Proofs.YtaiigmiiidldcaaGreatDoor
open Go.RowKit Go.Maps
open Go.ChangeMaps (setBlock)

abbrev FoundT := Nat × Int × Int × ByteArray

/-- What fresh gives. -/
def fresh1 (W : Wld) (P : Pth) (sl : Bool) : FoundT :=
  if (last1 W P).1 ≠ 0 then ((last1 W P).1, 0, 0, ByteArray.empty)
  else if 0 < (last1 W P).2.2.1 then (110, 0, 0, ByteArray.empty)
  else if (P.slash && !sl) = true then (109, 0, 0, ByteArray.empty)
  else last1 W P

theorem putFound_mods {w a : World} {F : List Nat} {g : Nat} {x y : Int} {s : ByteArray} (m : Mods F a w) (hg : g ∈ F ∨ a.heap.size ≤ g) : Mods F a (((w.setCell ⟨g, 0, none⟩ (.int .i64 x)).setCell ⟨g, 1, none⟩ (.int .i64 y)).setCell ⟨g, 2, none⟩ (.string s)) :=
  ((m.setCell (p := ⟨g, 0, none⟩) hg (.int .i64 x)).setCell (p := ⟨g, 1, none⟩) hg (.int .i64 y)).setCell (p := ⟨g, 2, none⟩) hg (.string s)

set_option maxRecDepth 100000 in
set_option maxHeartbeats 2000000 in
theorem tree_fresh1 {B0 : Nat} {A : Nat → Addr} {L : List Nat} {w : World} (G : Glob B0 A L w) {t : Nat} {W : Wld} {F : List Nat} (h : TreeRep w t W F) (hF : ∀ g ∈ F, B0 ≤ g) (hok : WldOk W) (hnl : NoLink W)
    (P : Pth) (hP : ∀ x ∈ P.parts, okStr x) (hlen : P.parts.length ≤ 1048576) {v : Value} (hv : Strs w v P.parts) (b : Bool) :
    Calls Tryz.prog 151 #[.pointer (some ⟨t, 0, none⟩), .agg #[v, .bool P.slash], .bool b] w fun e w' => ∃ F', e = .returned (.tuple #[.agg #[.int .i64 (fresh1 W P b).2.1, .int .i64 (fresh1 W P b).2.2.1, .string (fresh1 W P b).2.2.2], errV eT A (fresh1 W P b).1]) ∧ Mods F w w' ∧ Within w F F' ∧ TreeRep w' t W F' := by
  obtain ⟨p, F1, hb, hw, rfl, hnt⟩ := h
  obtain ⟨R, hR⟩ : ∃ R, fresh1 W P b = R := ⟨_, rfl⟩
  rw [hR]
  unfold fresh1 at hR
  have HLa := Lib.hid (fun (w' : World) (m' : Mods [] w w') => walk_Last1 (G.mods0 m') (hw.mods0 m') (fun g hg => hF g (by simp [hg])) hok hnl P hP hlen (hv.mods0 m'))
  generalize last1 W P = T at *
  obtain ⟨ct, d, n, s⟩ := T
  obtain ⟨l0, sl⟩ := P
  simp only at *
  obtain ⟨A1, c1, rfl, _, _⟩ := id hv
  have HR := Lib.hid hR
  have m0 := ((Mods.refl [] w).alloc (.cells #[.slice A1 l0.length c1, .bool sl] tPath)).alloc (.cells #[.int .i64 0, .int .i64 0, .string ⟨#[]⟩] tFound)
  have hbx := (Blk.new w tPath #[.slice A1 l0.length c1, .bool sl]).alloc (.cells #[.int .i64 0, .int .i64 0, .string ⟨#[]⟩] tFound)
  have hrx := Blk.new (w.alloc (.cells #[.slice A1 l0.length c1, .bool sl] tPath)) tFound #[.int .i64 0, .int .i64 0, .string ⟨#[]⟩]
  rw [World.size_alloc] at hrx
  have hb0 := hb.mods m0 (by simp)
  have hlt := hb.lt
  clear hR hP hok hnl hv
  go_enter Tryz.func151, Tryz.ntmps151
  go_upto_region 1 with fail
  go_cut [8, 9] (fun s8 s9 wx => ∃ g8 F2, s8 = .pointer (some ⟨g8, 0, none⟩) ∧ s9 = errV eT A ct ∧ Blk wx g8 tFound #[.int .i64 d, .int .i64 n, .string s] ∧ Mods (t :: F1) w wx ∧ Within w (t :: F1) (t :: F2) ∧ TreeRep wx t W (t :: F2) ∧ Blk wx w.heap.size tPath #[.slice A1 l0.length c1, .bool sl] ∧ Blk wx (w.heap.size + 1) tFound #[.int .i64 0, .int .i64 0, .string ⟨#[]⟩] ∧ w.heap.size + 1 < g8)
  case first =>
    have mE := m0.drew
    have mE2 := (m0.alloc (.cells #[.int .i64 0, .int .i64 0, .string ⟨#[]⟩] tFound)).drew
    have e0 := hb0.drew
    have j0 := (hb0.alloc (.cells #[.int .i64 0, .int .i64 0, .string ⟨#[]⟩] tFound)).drew
    have e1 := hbx.drew
    have j1 := (hbx.alloc (.cells #[.int .i64 0, .int .i64 0, .string ⟨#[]⟩] tFound)).drew
    have e2 := hrx.drew
    have j2 := (hrx.alloc (.cells #[.int .i64 0, .int .i64 0, .string ⟨#[]⟩] tFound)).drew
    have j3 := (Blk.new ((w.alloc (.cells #[.slice A1 l0.length c1, .bool sl] tPath)).alloc (.cells #[.int .i64 0, .int .i64 0, .string ⟨#[]⟩] tFound)) tFound #[.int .i64 0, .int .i64 0, .string ⟨#[]⟩]).drew
    simp only [World.size_alloc] at j3
    have k0 := e0.cell 0
    have k1 := e1.cell 0
    have k2 := e1.cell 1
    have i0 := j0.cell 0
    have i1 := j1.cell 0
    have i2 := j1.cell 1
    simp only [List.getElem?_toArray, List.getElem?_cons_zero, List.getElem?_cons_succ] at k0 k1 k2 i0 i1 i2
    go_region_held3 (fun w' => w'.cell? ⟨t, 0, none⟩ = some (.pointer (some ⟨p, 0, none⟩)) ∧ w'.cell? ⟨w.heap.size, 0, none⟩ = some (.slice A1 l0.length c1) ∧ w'.cell? ⟨w.heap.size, 1, none⟩ = some (.bool sl)) (refine ⟨?_, ?_, ?_⟩ <;> (repeat (first | with_reducible assumption | with_reducible refine keepAlloc ?_ | with_reducible refine keepDrew ?_ | (with_reducible refine keepStore ?_ (by simp; try omega)))))
      (first
        | (go_at_call 133; refine (HLa.out _ ?_).mono ?_; (with_reducible exact mE); rintro e w4 ⟨F2, rfl, m4, wi, hw4⟩; have n1 := ((hw.mods0 mE).noRow (s := tPath) (by decide) (by decide) (by decide)).blk e1; have n2 := ((hw.mods0 mE).noRow (s := tFound) (by decide) (by decide) (by decide)).blk e2; have b0 := e0.mods m4 hnt; have b1 := e1.mods m4 n1; have b2 := e2.mods m4 n2; have k0 := b0.cell 0; have k1 := b1.cell 0; have k2 := b1.cell 1; simp only [List.getElem?_toArray, List.getElem?_cons_zero, List.getElem?_cons_succ] at k0 k1 k2; have st := TreeRep.step e0 hnt m4 wi hw4; have mz := mE)
        | (go_at_call 133; refine (HLa.out _ ?_).mono ?_; (with_reducible exact mE2); rintro e w4 ⟨F2, rfl, m4, wi, hw4⟩; have n1 := ((hw.mods0 mE2).noRow (s := tPath) (by decide) (by decide) (by decide)).blk j1; have n2 := ((hw.mods0 mE2).noRow (s := tFound) (by decide) (by decide) (by decide)).blk j2; have n3 := ((hw.mods0 mE2).noRow (s := tFound) (by decide) (by decide) (by decide)).blk j3; have b0 := j0.mods m4 hnt; have b1 := j1.mods m4 n1; have b2 := j2.mods m4 n2; have b3 := j3.mods m4 n3; have fr := b3.frozen; have z0 := b3.cell 0; have z1 := b3.cell 1; have z2 := b3.cell 2; have k0 := b0.cell 0; have k1 := b1.cell 0; have k2 := b1.cell 1; simp only [List.getElem?_toArray, List.getElem?_cons_zero, List.getElem?_cons_succ] at k0 k1 k2 z0 z1 z2; have st := TreeRep.step j0 hnt m4 wi hw4; have mz := mE2))
    all_goals
      go_wp2_with fail
      go_meet
    · exact ⟨_, F2, rfl, rfl, Blk.new _ _ _, ((mz.of_nil (G := t :: F1)).seq (Within.refl _ _) st.2.1).alloc _, (Within.refl w (t :: F1)).trans st.2.2 mz.size, st.1.mods0 ((Mods.refl [] _).alloc _), b1.alloc _, b2.alloc _, by have := b2.lt; omega⟩
    · have hnF := (st.1.noRow (s := tFound) (by decide) (by decide) (by decide) (by decide)).blk b3
      have mP := (mz.of_nil (G := t :: F1)).seq (Within.refl _ _) st.2.1
      refine ⟨_, F2, rfl, rfl, putFound_blk b3, putFound_mods mP (.inr (by omega)), (Within.refl w (t :: F1)).trans st.2.2 mz.size, st.1.mods (putFound_mods (Mods.refl [w.heap.size + 1 + 1] _) (.inl (by simp))) (fun g hg hg' => by simp at hg'; subst hg'; exact hnF hg), ?_, ?_, by omega⟩
      · exact ((b1.far (by simp; omega) _).far (by simp; omega) _).far (by simp; omega) _
      · exact ((b2.far (by simp) _).far (by simp) _).far (by simp) _
  case rest =>
    obtain ⟨g8, F2, rfl, rfl, hb8, mx, wx, hTx, hbx2, hrx2, hg8⟩ := hcut
    have lt2 := hrx2.lt
    have fr := hrx2.frozen
    have f0 := hb8.cell 0
    have f1 := hb8.cell 1
    have f2 := hb8.cell 2
    simp at f0 f1 f2
    have x0 := hbx2.cell 0
    have x1 := hbx2.cell 1
    simp at x0 x1
    have z0 := hrx2.cell 0
    have z1 := hrx2.cell 1
    have z2 := hrx2.cell 2
    simp at z0 z1 z2
    have hnF := (hTx.noRow (s := tFound) (by decide) (by decide) (by decide) (by decide)).blk hrx2
    have y6 := fun (a b : Int) (s : ByteArray) => (putFound_blk (a := a) (b := b) (s := s) hrx2)
    have HLD := Lib.hid (fun (a b : Int) (s : ByteArray) => found_ld (y6 a b s))
    have HLDD := Lib.hid (fun (a b : Int) (s : ByteArray) => found_ld (y6 a b s).drew)
    have MT := fun (a b : Int) (s : ByteArray) => (putFound_mods (x := a) (y := b) (s := s) (g := w.heap.size + 1) mx (.inr (by omega)))
    have HW := fun (a b : Int) (s : ByteArray) => hTx.mods (putFound_mods (x := a) (y := b) (s := s) (g := w.heap.size + 1) (Mods.refl [w.heap.size + 1] wc) (.inl (by simp))) (fun g hg hg' => by simp at hg'; subst hg'; exact hnF hg)
    have HY := Lib.hid (And.intro MT HW)
    have G5 := G.mods mx hF
    have gE : wc.cell? ⟨13, 0, none⟩ = _ := G5.cell 110 (G5.core _ (by decide))
    have gN : wc.cell? ⟨0, 0, none⟩ = _ := G5.cell 109 (G5.core _ (by decide))
    have g3 := G.lt 0 (by decide)
    have g4 := G.lt 13 (by decide)
    have hn1 : ¬ (0 = w.heap.size + 1) := by omega
    have hn2 : ¬ (w.heap.size + 1 = 0) := by omega
    have hn3 : ¬ (13 = w.heap.size + 1) := by omega
    have hn4 : ¬ (w.heap.size + 1 = 13) := by omega
    clear y6 MT HW G5 G HLa hTx mx
    by_cases hct : ct = 0
    · subst hct
      rw [errV_zero]
      by_cases hn : 0 < n
      · have hr := HR.out
        rw [if_neg (by simp), if_pos hn] at hr
        have HR2 := Lib.hid hr
        clear hr HR
        go_wp2_with fail
        go_region
        go_wp2_with fail
        have ld := HLDD.out 0 0 ⟨#[]⟩
        refine bodyPost_ret (v := .tuple #[.agg #[.int .i64 0, .int .i64 0, .string ⟨#[]⟩], .iface eT (.pointer (some (A 110)))]) (by simp [results, Tryz.results151, asAddr, ld]) rfl ⟨t :: F2, ?_, (HY.out.1 0 0 ⟨#[]⟩).drew, wx, (HY.out.2 0 0 ⟨#[]⟩).mods0 (Mods.refl [] _).drew⟩
        rw [← HR2.out, errV_pos eT A (c := 110) (by decide)]
        rfl
      · have hr := HR.out
        rw [if_neg (by simp), if_neg hn] at hr
        have HR2 := Lib.hid hr
        clear hr HR
        cases sl <;> cases b
        all_goals
          go_wp2_with fail
          try go_region
          try go_wp2_with fail
          have hr := HR2.out
          simp only [Bool.and_self, Bool.and_true, Bool.and_false, Bool.true_and, Bool.false_and, Bool.not_true, Bool.not_false, Bool.false_eq_true, if_false, if_true] at hr
          rw [← hr]
          first
            | (have ld := HLD.out d n s
               exact bodyPost_ret (v := .tuple #[.agg #[.int .i64 d, .int .i64 n, .string s], .nilIface]) (by simp [results, Tryz.results151, asAddr, ld]) rfl ⟨t :: F2, rfl, HY.out.1 d n s, wx, HY.out.2 d n s⟩)
            | (have ld := HLD.out d n s
               exact bodyPost_ret (v := .tuple #[.agg #[.int .i64 d, .int .i64 n, .string s], .nilIface]) (by simp [results, Tryz.results151, asAddr, ld]) rfl ⟨rfl, HY.out.1 d n s, t :: F2, wx, HY.out.2 d n s⟩)
            | (have ld := HLDD.out 0 0 ⟨#[]⟩
               exact bodyPost_ret (v := .tuple #[.agg #[.int .i64 0, .int .i64 0, .string ⟨#[]⟩], .iface eT (.pointer (some (A 109)))]) (by simp [results, Tryz.results151, asAddr, ld]) rfl ⟨t :: F2, by rw [errV_pos eT A (c := 109) (by decide)]; rfl, (HY.out.1 0 0 ⟨#[]⟩).drew, wx, (HY.out.2 0 0 ⟨#[]⟩).mods0 (Mods.refl [] _).drew⟩)
    · have hr := HR.out
      rw [if_pos hct] at hr
      have HR2 := Lib.hid hr
      clear hr HR
      rw [errV_pos eT A hct]
      go_wp2_with fail
      have ld := HLD.out 0 0 ⟨#[]⟩
      refine bodyPost_ret (v := .tuple #[.agg #[.int .i64 0, .int .i64 0, .string ⟨#[]⟩], .iface eT (.pointer (some (A ct)))]) (by simp [results, Tryz.results151, asAddr, ld]) rfl ⟨t :: F2, ?_, HY.out.1 0 0 ⟨#[]⟩, wx, HY.out.2 0 0 ⟨#[]⟩⟩
      rw [← HR2.out, errV_pos eT A hct]
      rfl
end Go.Proofs.YtaiigmiiidldcaaGreatDoor

namespace Go.Proofs.YtaiigmiiidldcaaGreatDoor
open Go.RowKit Go.Maps
open Go.ChangeMaps (setBlock)

/-- A node as New makes it. -/
def newNd (i k : Int) : Nd := ⟨i, k, 0, 0, if k = 3 then slashB else ByteArray.empty, if k = 2 then 1 else 0⟩

theorem newNd_ok {i k : Int} (h1 : 1 ≤ i) (h2 : i ≤ 16777215) (hk1 : 1 ≤ k) (hk3 : k ≤ 3) : NdOk (newNd i k) := by
  refine ⟨h1, h2, by simp [newNd], by simp [newNd], by simp [newNd], by simp [newNd], ?_⟩
  have : k = 1 ∨ k = 2 ∨ k = 3 := by omega
  rcases this with rfl | rfl | rfl
  · exact .inl ⟨rfl, rfl, rfl⟩
  · exact .inr (.inl ⟨rfl, rfl, rfl, Int.le_refl _, (by decide : (1 : Int) ≤ 16777215)⟩)
  · exact .inr (.inr ⟨rfl, rfl, (by decide : slashB ≠ ByteArray.empty), (by decide : slashB.size ≤ 88), rfl⟩)

set_option maxRecDepth 100000 in
set_option maxHeartbeats 1000000 in
theorem table_New {w : World} {t : Nat} {T : Tbl} {F : List Nat} (h : TableRep w t T F) (k : Int) (hk1 : 1 ≤ k) (hk3 : k ≤ 3) (hl0 : 0 ≤ T.last) (hl1 : T.last < 16777215) (hroom : T.l.length < 512) (h0 : T.l ≠ []) :
    Calls Tryz.prog 209 #[.pointer (some ⟨t, 0, none⟩), .int .i64 k] w fun e w' => e = .returned (.tuple #[.int .i64 (T.last + 1), .nilIface]) ∧ Mods F w w' ∧ ∃ F', Within w F F' ∧ F'.Nodup ∧ TableRep w' t (T.put (newNd (T.last + 1) k)) F' := by
  have HP := Lib.hid (fun (w' : World) (h' : TableRep w' t T F) => table_Put_yes h' (newNd_ok (i := T.last + 1) (k := k) (by omega) (by omega) hk1 hk3) (.inr hroom) (.inl h0))
  have hkd := node_kind k hk1 hk3
  obtain ⟨mv, hb, -, hlen⟩ := map_lookup_nd h (i := 0) (by constructor <;> decide)
  have hl := fun ty => hlen w (Mods.refl _ _) ty
  have hlt := hb.lt
  have c0 := hb.cell 0
  have c1 := hb.cell 1
  simp at c0 c1
  have HT := Lib.hid h
  obtain ⟨l, last⟩ := T
  simp only [newNd, Nd.val] at *
  have hw1 : IntKind.i64.wrap (last + 1) = last + 1 := IntWalk.i64_in _ (by omega)
  have hlr : ¬ (512 : Int) ≤ (l.length : Int) := by omega
  have hll : ¬ (16777215 : Int) ≤ last := by omega
  have hk : k = 1 ∨ k = 2 ∨ k = 3 := by omega
  clear hlen h0 h
  rcases hk with rfl | rfl | rfl
  · simp only [show ¬ ((1 : Int) = 3) by decide, show ¬ ((1 : Int) = 2) by decide, if_false] at HP
    have hx := (Blk.new w tNd #[.int .i64 (last + 1), .int .i64 1, .int .i64 0, .int .i64 0, .string ⟨#[]⟩, .int .i64 0]).drew
    have x0 := hx.cell 0
    have x1 := hx.cell 1
    have x2 := hx.cell 2
    have x3 := hx.cell 3
    have x4 := hx.cell 4
    have x5 := hx.cell 5
    simp only [List.getElem?_toArray, List.getElem?_cons_zero, List.getElem?_cons_succ] at x0 x1 x2 x3 x4 x5
    have m0 := ((Mods.refl [] w).alloc (.cells #[.int .i64 (last + 1), .int .i64 1, .int .i64 0, .int .i64 0, .string ⟨#[]⟩, .int .i64 0] tNd)).drew
    have hnx := ((HT.out.mods0 m0).noRow (s := tNd) (by decide)).blk hx
    have hT0 := HT.out.mods0 m0
    have HP2 := Lib.hid (HP.out _ hT0)
    clear HP
    go_enter Tryz.func209, Tryz.ntmps209
    go_wp2_with fail
    refine (hkd _).mono ?_
    rintro e w' ⟨rfl, rfl⟩
    clear hkd
    go_upto_region 11 with fail
    go_region_held3 (fun w' => w'.cell? ⟨w.heap.size, 0, none⟩ = some (.int .i64 (last + 1)) ∧ w'.cell? ⟨w.heap.size, 1, none⟩ = some (.int .i64 1) ∧ w'.cell? ⟨w.heap.size, 2, none⟩ = some (.int .i64 0) ∧ w'.cell? ⟨w.heap.size, 3, none⟩ = some (.int .i64 0) ∧ w'.cell? ⟨w.heap.size, 4, none⟩ = some (.string ⟨#[]⟩) ∧ w'.cell? ⟨w.heap.size, 5, none⟩ = some (.int .i64 0)) (refine ⟨?_, ?_, ?_, ?_, ?_, ?_⟩ <;> (repeat (first | with_reducible assumption | with_reducible refine keepDrew ?_)))
      (first | (go_at_call 78; refine HP2.out.mono ?_; rintro e wy ⟨rfl, my, Ft', wt, hnt, hTy⟩; have hx1 := hx.mods my hnx; have f0 := hx1.cell 0; have f1 := hx1.cell 1; have f2 := hx1.cell 2; have f3 := hx1.cell 3; have f4 := hx1.cell 4; have f5 := hx1.cell 5; simp only [List.getElem?_toArray, List.getElem?_cons_zero, List.getElem?_cons_succ] at f0 f1 f2 f3 f4 f5))
    go_wp2_with fail
    go_ret2
    exact ⟨rfl, m0.of_nil.seq (Within.refl _ _) my, Ft', (Within.refl w F).trans wt m0.size, hnt, hTy⟩
  · simp only [show ¬ ((2 : Int) = 3) by decide, if_true, if_false] at HP
    have hx := (Blk.new w tNd #[.int .i64 (last + 1), .int .i64 2, .int .i64 0, .int .i64 0, .string ⟨#[]⟩, .int .i64 1]).drew
    have x0 := hx.cell 0
    have x1 := hx.cell 1
    have x2 := hx.cell 2
    have x3 := hx.cell 3
    have x4 := hx.cell 4
    have x5 := hx.cell 5
    simp only [List.getElem?_toArray, List.getElem?_cons_zero, List.getElem?_cons_succ] at x0 x1 x2 x3 x4 x5
    have m0 := ((Mods.refl [] w).alloc (.cells #[.int .i64 (last + 1), .int .i64 2, .int .i64 0, .int .i64 0, .string ⟨#[]⟩, .int .i64 1] tNd)).drew
    have hnx := ((HT.out.mods0 m0).noRow (s := tNd) (by decide)).blk hx
    have hT0 := HT.out.mods0 m0
    have HP2 := Lib.hid (HP.out _ hT0)
    clear HP
    go_enter Tryz.func209, Tryz.ntmps209
    go_wp2_with fail
    refine (hkd _).mono ?_
    rintro e w' ⟨rfl, rfl⟩
    clear hkd
    go_upto_region 11 with fail
    go_region_held3 (fun w' => w'.cell? ⟨w.heap.size, 0, none⟩ = some (.int .i64 (last + 1)) ∧ w'.cell? ⟨w.heap.size, 1, none⟩ = some (.int .i64 2) ∧ w'.cell? ⟨w.heap.size, 2, none⟩ = some (.int .i64 0) ∧ w'.cell? ⟨w.heap.size, 3, none⟩ = some (.int .i64 0) ∧ w'.cell? ⟨w.heap.size, 4, none⟩ = some (.string ⟨#[]⟩) ∧ w'.cell? ⟨w.heap.size, 5, none⟩ = some (.int .i64 1)) (refine ⟨?_, ?_, ?_, ?_, ?_, ?_⟩ <;> (repeat (first | with_reducible assumption | with_reducible refine keepDrew ?_)))
      (first | (go_at_call 78; refine HP2.out.mono ?_; rintro e wy ⟨rfl, my, Ft', wt, hnt, hTy⟩; have hx1 := hx.mods my hnx; have f0 := hx1.cell 0; have f1 := hx1.cell 1; have f2 := hx1.cell 2; have f3 := hx1.cell 3; have f4 := hx1.cell 4; have f5 := hx1.cell 5; simp only [List.getElem?_toArray, List.getElem?_cons_zero, List.getElem?_cons_succ] at f0 f1 f2 f3 f4 f5))
    go_wp2_with fail
    go_ret2
    exact ⟨rfl, m0.of_nil.seq (Within.refl _ _) my, Ft', (Within.refl w F).trans wt m0.size, hnt, hTy⟩
  · simp only [if_true, show ¬ ((3 : Int) = 2) by decide, if_false, slashB] at HP
    have hx := (Blk.new w tNd #[.int .i64 (last + 1), .int .i64 3, .int .i64 0, .int .i64 0, .string ⟨#[47]⟩, .int .i64 0]).drew
    have x0 := hx.cell 0
    have x1 := hx.cell 1
    have x2 := hx.cell 2
    have x3 := hx.cell 3
    have x4 := hx.cell 4
    have x5 := hx.cell 5
    simp only [List.getElem?_toArray, List.getElem?_cons_zero, List.getElem?_cons_succ] at x0 x1 x2 x3 x4 x5
    have m0 := ((Mods.refl [] w).alloc (.cells #[.int .i64 (last + 1), .int .i64 3, .int .i64 0, .int .i64 0, .string ⟨#[47]⟩, .int .i64 0] tNd)).drew
    have hnx := ((HT.out.mods0 m0).noRow (s := tNd) (by decide)).blk hx
    have hT0 := HT.out.mods0 m0
    have HP2 := Lib.hid (HP.out _ hT0)
    clear HP
    go_enter Tryz.func209, Tryz.ntmps209
    go_wp2_with fail
    refine (hkd _).mono ?_
    rintro e w' ⟨rfl, rfl⟩
    clear hkd
    go_upto_region 11 with fail
    go_region_held3 (fun w' => w'.cell? ⟨w.heap.size, 0, none⟩ = some (.int .i64 (last + 1)) ∧ w'.cell? ⟨w.heap.size, 1, none⟩ = some (.int .i64 3) ∧ w'.cell? ⟨w.heap.size, 2, none⟩ = some (.int .i64 0) ∧ w'.cell? ⟨w.heap.size, 3, none⟩ = some (.int .i64 0) ∧ w'.cell? ⟨w.heap.size, 4, none⟩ = some (.string ⟨#[47]⟩) ∧ w'.cell? ⟨w.heap.size, 5, none⟩ = some (.int .i64 0)) (refine ⟨?_, ?_, ?_, ?_, ?_, ?_⟩ <;> (repeat (first | with_reducible assumption | with_reducible refine keepDrew ?_)))
      (first | (go_at_call 78; refine HP2.out.mono ?_; rintro e wy ⟨rfl, my, Ft', wt, hnt, hTy⟩; have hx1 := hx.mods my hnx; have f0 := hx1.cell 0; have f1 := hx1.cell 1; have f2 := hx1.cell 2; have f3 := hx1.cell 3; have f4 := hx1.cell 4; have f5 := hx1.cell 5; simp only [List.getElem?_toArray, List.getElem?_cons_zero, List.getElem?_cons_succ] at f0 f1 f2 f3 f4 f5))
    go_wp2_with fail
    go_ret2
    exact ⟨rfl, m0.of_nil.seq (Within.refl _ _) my, Ft', (Within.refl w F).trans wt m0.size, hnt, hTy⟩
end Go.Proofs.YtaiigmiiidldcaaGreatDoor

namespace Go.Proofs.YtaiigmiiidldcaaGreatDoor
open Go.RowKit Go.Maps
open Go.ChangeMaps (setBlock)

def makeNd (i k d : Int) : Nd := ⟨i, k, 1, 0, ByteArray.empty, if k = 2 then d else 0⟩

/-- Behind Nodes.New and put. -/
def Wld.made (W : Wld) (k d : Int) : Wld := Wld.put ⟨W.T.put (newNd (W.T.last + 1) k), W.δ⟩ (makeNd (W.T.last + 1) k d)
/-- What Make leaves. -/
def Wld.make (W : Wld) (k d : Int) (nm : ByteArray) : Wld := (W.made k d).setD d (aPut ((W.made k d).δ d) nm ⟨nm, W.T.last + 1, k⟩)

theorem aPut_ne {κ ν : Type} [DecidableEq κ] (l : List (κ × ν)) (k : κ) (v : ν) : aPut l k v ≠ [] := by
  cases l with
  | nil => simp [aPut]
  | cons x l =>
    obtain ⟨a, u⟩ := x
    simp only [aPut]
    split <;> simp

theorem Blk.mods0 {w w' : World} {g : Nat} {t : TypeId} {cs : Array Value} (h : Blk w g t cs) (m : Mods [] w w') : Blk w' g t cs := h.mods m (by simp)

set_option maxRecDepth 100000 in
set_option maxHeartbeats 2000000 in
theorem tree_Make1 {B0 : Nat} {A : Nat → Addr} {L : List Nat} {w : World} (G : Glob B0 A L w) (hm : MaxCell w) {t : Nat} {W : Wld} {F : List Nat} (h : TreeRep w t W F) (hF : ∀ g ∈ F, B0 ≤ g) (hok : WldOk W) (hnl : NoLink W)
    (s : ByteArray) (k : Int) (hk : k = 1 ∨ k = 2) (tg : ByteArray) {P : Pth} (hp : parse s = (0, P)) {d : Int} {nd : Int} {nm : ByteArray} (hf : fresh1 W P (k == 2) = (0, d, nd, nm))
    (hl0 : 0 ≤ W.T.last) (hl1 : W.T.last < 16777215) (hroom : W.T.l.length < 511) (h0 : W.T.l ≠ []) (hd1 : 1 ≤ d) (hd2 : d ≤ 16777215)
    (hdir : (W.made k d).dir d = true) (hno : aGet ((W.made k d).δ d) nm = none) (hnm : NameOk nm) :
    Calls Tryz.prog 135 #[.pointer (some ⟨t, 0, none⟩), .string s, .int .i64 k, .string tg] w fun e w' => ∃ F', e = .returned (.tuple #[.int .i64 (W.T.last + 1), .nilIface]) ∧ Mods F w w' ∧ Within w F F' ∧ TreeRep w' t (W.make k d nm) F' := by
  have hpp := path_Parse G hm s
  obtain ⟨hpo, hpl⟩ := parse_ok s
  rw [hp] at hpp hpo hpl
  simp only [errV_zero] at hpp hpo hpl
  have HFr := Lib.hid (fun (w' : World) (v' : Value) (m' : Mods [] w w') (h' : Strs w' v' P.parts) => tree_fresh1 (G.mods0 m') (h.mods0 m') hF hok hnl P hpo hpl h' (k == 2))
  simp only [hf, errV_zero] at HFr
  have HNew := Lib.hid (fun (w' : World) (tt : Nat) (Ft : List Nat) (h' : TableRep w' tt W.T Ft) => table_New h' k (by omega) (by omega) hl0 hl1 (by omega) h0)
  have hmk : NdOk (makeNd (W.T.last + 1) k d) := by
    refine ⟨by simp [makeNd]; omega, by simp [makeNd]; omega, by simp [makeNd], by simp [makeNd], by simp [makeNd], by simp [makeNd], ?_⟩
    rcases hk with rfl | rfl
    · exact .inl ⟨rfl, rfl, rfl⟩
    · exact .inr (.inl ⟨rfl, rfl, rfl, hd1, hd2⟩)
  have HPut := Lib.hid (fun (w' : World) (F' : List Nat) (h' : TreeRep w' t ⟨W.T.put (newNd (W.T.last + 1) k), W.δ⟩ F') => tree_put h' hmk (.inl (by
    unfold Tbl.get
    have : aGet (W.T.put (newNd (W.T.last + 1) k)).l (makeNd (W.T.last + 1) k d).id = some (newNd (W.T.last + 1) k) := by
      unfold Tbl.put
      simp only
      rw [aGet_aPut]
      exact if_pos rfl
    rw [this])) (by unfold Tbl.put; exact aPut_ne _ _ _))
  have hent : EntOk ⟨nm, W.T.last + 1, k⟩ := ⟨hnm, by simp only; omega, by simp only; omega, by simp only; omega, by simp only; omega⟩
  have HAdd := Lib.hid (fun (w' : World) (F' : List Nat) (h' : TreeRep w' t (W.made k d) F') => tree_add h' (i := d) (by constructor <;> omega) hdir hent hno)
  obtain ⟨W3, hW3⟩ : ∃ W3, W.make k d nm = W3 := ⟨_, rfl⟩
  rw [hW3]
  unfold Wld.make at hW3
  simp only [hW3] at HAdd
  obtain ⟨W2, hW2⟩ : ∃ W2, W.made k d = W2 := ⟨_, rfl⟩
  rw [hW2] at HAdd
  unfold Wld.made at hW2
  simp only [hW2] at HPut
  simp only [Nd.val, Ent.val, makeNd] at HPut HAdd
  generalize hlast : W.T.last + 1 = ni at *
  have hb1 := h.lt
  clear hp hf hroom hdir hno hent hmk
  have mods0b : True := trivial
  rcases hk with rfl | rfl
  · simp only [show ¬ ((1 : Int) = 2) by decide, if_false] at HPut
    have hk2 : ((1 : Int) == 2) = false := by decide
    simp only [hk2] at HFr
    go_enter Tryz.func135, Tryz.ntmps135
    go_wp2_with fail
    refine hpp.mono ?_
    rintro e w1 ⟨v1, rfl, hst, m1⟩
    obtain ⟨A2, c2, rfl, _, _⟩ := id hst
    have mA := m1.alloc (.cells #[.slice A2 P.parts.length c2, .bool P.slash] tPath)
    have hst2 := hst.mods0 ((Mods.refl [] w1).alloc (.cells #[.slice A2 P.parts.length c2, .bool P.slash] tPath))
    clear hpp
    go_wp2_with fail
    refine (HFr.out _ _ mA hst2).mono ?_
    rintro e w2 ⟨F2, rfl, m2, wi2, hT2⟩
    have mB := mA.of_nil.seq (Within.refl _ _) m2
    have wB := (Within.refl w F).trans wi2 mA.size
    obtain ⟨p, F1, hb2, hw2, rfl, hnt⟩ := id hT2
    obtain ⟨tt, m, Ft, raw, hI, hF1⟩ := id hw2
    have hbI := hI.blk
    have hfb := Blk.new w2 tFound #[.int .i64 d, .int .i64 nd, .string nm]
    have mf := (Mods.refl [] w2).alloc (.cells #[.int .i64 d, .int .i64 nd, .string nm] tFound)
    have c0 := hb2.cell 0
    have q0 := hbI.cell 0
    simp only [List.getElem?_toArray, List.getElem?_cons_zero] at c0 q0
    have ltt := hb2.lt
    have ltp := hbI.lt
    have HT := Lib.hid (hI.tab.mods0 mf)
    clear hbI
    go_wp2_with fail
    refine (HNew.out _ _ _ HT.out).mono ?_
    rintro e w3 ⟨rfl, m3, Ft', wt3, hnt3, hTab⟩
    have hI3 := (hI.mods0 mf).table m3 hTab wt3 hnt3
    have hfb3 := hfb.mods m3 ((HT.out.noRow (s := tFound) (by decide)).blk hfb)
    have hsub : ∀ g ∈ Ft, g ∈ F1 := fun g hg => by rw [hF1]; simp [hg]
    have wn : Within (w2.alloc (.cells #[.int .i64 d, .int .i64 nd, .string nm] tFound)) F1 (p :: m :: (Ft' ++ foot raw)) := by
      intro g hg
      rw [hF1]
      simp only [List.mem_cons, List.mem_append] at hg ⊢
      rcases hg with h | h | h | h
      · exact .inl (.inl h)
      · exact .inl (.inr (.inl h))
      · rcases wt3 g h with h | h
        · exact .inl (.inr (.inr (.inl h)))
        · exact .inr h
      · exact .inl (.inr (.inr (.inr h)))
    obtain ⟨hT3, m3t, wn3⟩ := TreeRep.step (hb2.mods0 mf) hnt (m3.mono hsub) wn hI3.rep
    have mC := (mB.then mf).seq (wB.trans (Within.refl _ _) (Nat.le_refl _)) m3t
    have wC := wB.trans wn3 (mB.then mf).size
    have lt3 := hfb3.lt
    have x0 := hfb3.cell 0
    have x1 := hfb3.cell 1
    have x2 := hfb3.cell 2
    simp only [List.getElem?_toArray, List.getElem?_cons_zero, List.getElem?_cons_succ] at x0 x1 x2
    have HT3 := Lib.hid hT3
    have md := (Mods.refl [] w3).alloc (.cells #[.int .i64 ni, .int .i64 1, .int .i64 1, .int .i64 0, .string ⟨#[]⟩, .int .i64 0] tNd)
    have HFB := Lib.hid (hfb3.mods0 md)
    clear hfb hfb3 c0 q0 hI hI3 hT2 hw2 hT3
    go_wp2_with fail
    refine (HPut.out _ _ (HT3.out.mods0 md)).mono ?_
    rintro e w4 ⟨F4, rfl, m4, wi4, hT4⟩
    have mD := (mC.then md).seq wC m4
    have wD := wC.trans wi4 (mC.then md).size
    have hfb4 := HFB.out.mods m4 (((HT3.out.mods0 md).noRow (s := tFound) (by decide) (by decide) (by decide) (by decide)).blk HFB.out)
    have z0 := hfb4.cell 0
    have z2 := hfb4.cell 2
    simp only [List.getElem?_toArray, List.getElem?_cons_zero, List.getElem?_cons_succ] at z0 z2
    clear x0 x1 x2 HFB
    go_wp2_with fail
    refine (HAdd.out _ _ hT4).mono ?_
    rintro e w5 ⟨F5, rfl, m5, wi5, hT5⟩
    have mE := mD.seq wD m5
    have wE := wD.trans wi5 mD.size
    go_wp2_with fail
    go_ret2
    first | exact ⟨F5, rfl, mE, wE, hT5⟩ | exact ⟨rfl, mE, F5, wE, hT5⟩ | exact ⟨mE, F5, wE, hT5⟩
  · simp only [if_true] at HPut
    have hk2 : ((2 : Int) == 2) = true := by decide
    simp only [hk2] at HFr
    go_enter Tryz.func135, Tryz.ntmps135
    go_wp2_with fail
    refine hpp.mono ?_
    rintro e w1 ⟨v1, rfl, hst, m1⟩
    obtain ⟨A2, c2, rfl, _, _⟩ := id hst
    have mA := m1.alloc (.cells #[.slice A2 P.parts.length c2, .bool P.slash] tPath)
    have hst2 := hst.mods0 ((Mods.refl [] w1).alloc (.cells #[.slice A2 P.parts.length c2, .bool P.slash] tPath))
    clear hpp
    go_wp2_with fail
    refine (HFr.out _ _ mA hst2).mono ?_
    rintro e w2 ⟨F2, rfl, m2, wi2, hT2⟩
    have mB := mA.of_nil.seq (Within.refl _ _) m2
    have wB := (Within.refl w F).trans wi2 mA.size
    obtain ⟨p, F1, hb2, hw2, rfl, hnt⟩ := id hT2
    obtain ⟨tt, m, Ft, raw, hI, hF1⟩ := id hw2
    have hbI := hI.blk
    have hfb := Blk.new w2 tFound #[.int .i64 d, .int .i64 nd, .string nm]
    have mf := (Mods.refl [] w2).alloc (.cells #[.int .i64 d, .int .i64 nd, .string nm] tFound)
    have c0 := hb2.cell 0
    have q0 := hbI.cell 0
    simp only [List.getElem?_toArray, List.getElem?_cons_zero] at c0 q0
    have ltt := hb2.lt
    have ltp := hbI.lt
    have HT := Lib.hid (hI.tab.mods0 mf)
    clear hbI
    go_wp2_with fail
    refine (HNew.out _ _ _ HT.out).mono ?_
    rintro e w3 ⟨rfl, m3, Ft', wt3, hnt3, hTab⟩
    have hI3 := (hI.mods0 mf).table m3 hTab wt3 hnt3
    have hfb3 := hfb.mods m3 ((HT.out.noRow (s := tFound) (by decide)).blk hfb)
    have hsub : ∀ g ∈ Ft, g ∈ F1 := fun g hg => by rw [hF1]; simp [hg]
    have wn : Within (w2.alloc (.cells #[.int .i64 d, .int .i64 nd, .string nm] tFound)) F1 (p :: m :: (Ft' ++ foot raw)) := by
      intro g hg
      rw [hF1]
      simp only [List.mem_cons, List.mem_append] at hg ⊢
      rcases hg with h | h | h | h
      · exact .inl (.inl h)
      · exact .inl (.inr (.inl h))
      · rcases wt3 g h with h | h
        · exact .inl (.inr (.inr (.inl h)))
        · exact .inr h
      · exact .inl (.inr (.inr (.inr h)))
    obtain ⟨hT3, m3t, wn3⟩ := TreeRep.step (hb2.mods0 mf) hnt (m3.mono hsub) wn hI3.rep
    have mC := (mB.then mf).seq (wB.trans (Within.refl _ _) (Nat.le_refl _)) m3t
    have wC := wB.trans wn3 (mB.then mf).size
    have lt3 := hfb3.lt
    have x0 := hfb3.cell 0
    have x1 := hfb3.cell 1
    have x2 := hfb3.cell 2
    simp only [List.getElem?_toArray, List.getElem?_cons_zero, List.getElem?_cons_succ] at x0 x1 x2
    have HT3 := Lib.hid hT3
    have md := (Mods.refl [] w3).alloc (.cells #[.int .i64 ni, .int .i64 2, .int .i64 1, .int .i64 0, .string ⟨#[]⟩, .int .i64 d] tNd)
    have HFB := Lib.hid (hfb3.mods0 md)
    clear hfb hfb3 c0 q0 hI hI3 hT2 hw2 hT3
    go_wp2_with fail
    refine (HPut.out _ _ (HT3.out.mods0 md)).mono ?_
    rintro e w4 ⟨F4, rfl, m4, wi4, hT4⟩
    have mD := (mC.then md).seq wC m4
    have wD := wC.trans wi4 (mC.then md).size
    have hfb4 := HFB.out.mods m4 (((HT3.out.mods0 md).noRow (s := tFound) (by decide) (by decide) (by decide) (by decide)).blk HFB.out)
    have z0 := hfb4.cell 0
    have z2 := hfb4.cell 2
    simp only [List.getElem?_toArray, List.getElem?_cons_zero, List.getElem?_cons_succ] at z0 z2
    clear x0 x1 x2 HFB
    go_wp2_with fail
    refine (HAdd.out _ _ hT4).mono ?_
    rintro e w5 ⟨F5, rfl, m5, wi5, hT5⟩
    have mE := mD.seq wD m5
    have wE := wD.trans wi5 mD.size
    go_wp2_with fail
    go_ret2
    first | exact ⟨F5, rfl, mE, wE, hT5⟩ | exact ⟨rfl, mE, F5, wE, hT5⟩ | exact ⟨mE, F5, wE, hT5⟩
end Go.Proofs.YtaiigmiiidldcaaGreatDoor

namespace Go.Proofs.YtaiigmiiidldcaaGreatDoor
open Go.RowKit Go.Maps
open Go.ChangeMaps (setBlock)

set_option maxRecDepth 100000 in
set_option maxHeartbeats 400000 in
theorem table_Clone {w : World} {t : Nat} {T : Tbl} {F : List Nat} (h : TableRep w t T F) :
    Calls Tryz.prog 236 #[.pointer (some ⟨t, 0, none⟩)] w fun e w' => ∃ t' F', e = .returned (.pointer (some ⟨t', 0, none⟩)) ∧ Mods [] w w' ∧ TableRep w' t' T F' ∧ (∀ g ∈ F', w.heap.size ≤ g) ∧ F'.Nodup ∧ t' ∈ F' := by
  obtain ⟨l, last⟩ := T
  rcases h with ⟨hb, h0, rfl⟩ | ⟨m, hb, hm, rfl⟩
  · simp only at hb h0
    subst h0
    have c0 := hb.cell 0
    have c1 := hb.cell 1
    simp at c0 c1
    have hlt := hb.lt
    clear hb
    go_enter Tryz.func236, Tryz.ntmps236
    go_wp2_with fail
    go_region_held3 (fun w' => w'.cell? ⟨t, 0, none⟩ = some (.map none) ∧ w'.cell? ⟨t, 1, none⟩ = some (.int .i64 last)) (refine ⟨?_, ?_⟩ <;> (repeat (first | with_reducible assumption | with_reducible refine keepAlloc ?_ | with_reducible refine keepDrew ?_)))
      (first | (go_at_call 286; refine (clone_nd_nil _).mono ?_; rintro e w' ⟨rfl, rfl⟩))
    go_wp2_with fail
    go_ret
    exact ⟨w.heap.size, [w.heap.size], rfl, ((Mods.refl _ _).drew.alloc _), .inl ⟨Blk.new w.drew _ _, rfl, rfl⟩, by simp, by simp, by simp⟩
  · obtain ⟨es, clock, hb', hm'⟩ := hm.drew.cloned
    have hcl := clone_nd m es clock w.drew hb'
    have c0 := hb.cell 0
    have c1 := hb.cell 1
    simp at c0 c1
    have hlt := hb.lt
    simp only at hb hm' c1
    clear hb hb' hm
    go_enter Tryz.func236, Tryz.ntmps236
    go_wp2_with fail
    go_region_held3 (fun w' => w'.cell? ⟨t, 0, none⟩ = some (.map (some m)) ∧ w'.cell? ⟨t, 1, none⟩ = some (.int .i64 last)) (refine ⟨?_, ?_⟩ <;> (repeat (first | with_reducible assumption | with_reducible refine keepAlloc ?_ | with_reducible refine keepDrew ?_)))
      (first | (go_at_call 286; refine hcl.mono ?_; rintro e w' ⟨rfl, rfl⟩))
    go_wp2_with fail
    go_ret
    refine ⟨w.heap.size + 1, [w.heap.size + 1, w.heap.size], by simp, (((Mods.refl _ _).drew.alloc _).alloc _), .inr ⟨w.heap.size, ?_, hm'.alloc _, rfl⟩, by simp, by simp, by simp⟩
    have := Blk.new (w.drew.alloc (.map es clock)) tTable #[.map (some w.heap.size), .int .i64 last]
    simp only [World.size_alloc, World.size_drew] at this
    exact this
end Go.Proofs.YtaiigmiiidldcaaGreatDoor

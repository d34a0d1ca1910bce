/- Package walk: goes, in a world without links; Package walk: To, Last, in a world without links; Package walk: Put. -/
import Derived.Deep.DeepCutAuto
import Derived.Test.YtaiigmiiidldcaaGreatDoorQ13
set_option linter.unusedSimpArgs false
set_option linter.unusedVariables false
namespace Go.Proofs.YtaiigmiiidldcaaGreatDoor
open Go.RowKit Go.Maps
open Go.ChangeMaps (setBlock)

/-- What is in a world may be there. -/
structure WldOk (W : Wld) : Prop where
  nd : ∀ p ∈ W.T.l, NdOk p.2
  ent : ∀ i, ∀ p ∈ W.δ i, EntOk p.2

def NoLink (W : Wld) : Prop := ∀ p ∈ W.T.l, p.2.kind ≠ 3

section
variable {W : Wld}
theorem NdOk.okp {n : Nd} (h : NdOk n) : okInt n.parent := by
  have := h.kind
  constructor <;> omega
theorem okInt_zero : okInt 0 := by constructor <;> decide
theorem WldOk.get (h : WldOk W) (i : Int) : okInt (W.T.get i).1.id ∧ okInt (W.T.get i).1.parent := by
  unfold Tbl.get
  cases hg : aGet W.T.l i with
  | none => exact ⟨okInt_zero, okInt_zero⟩
  | some n => exact ⟨(h.nd _ (aGet_mem hg)).okid, (h.nd _ (aGet_mem hg)).okp⟩
theorem WldOk.up (h : WldOk W) (i : Int) : okInt (upOf (W.T.get i).1) := by
  unfold upOf
  have := h.get i
  split
  · exact this.1
  · exact this.2
theorem EntOk.okn {e : Ent} (h : EntOk e) : okInt e.node := by
  have h1 := h.n1
  have h2 := h.n2
  constructor <;> omega
theorem WldOk.entry (h : WldOk W) (i : Int) (s : ByteArray) : okInt (W.entry i s).1.node := by
  unfold Wld.entry
  split
  · unfold dGet
    cases hg : aGet (W.δ i) s with
    | none => exact okInt_zero
    | some e => exact (h.ent _ _ (aGet_mem hg)).okn
  · exact okInt_zero
theorem NoLink.get (h : NoLink W) (i : Int) : (W.T.get i).1.kind ≠ 3 := by
  unfold Tbl.get
  cases hg : aGet W.T.l i with
  | none => decide
  | some n => exact h _ (aGet_mem hg)
end

theorem TableRep.noRow {w : World} {t : Nat} {T : Tbl} {F : List Nat} (h : TableRep w t T F) {s : TypeId} (hs : tTable ≠ s) : NoRow s w F := by
  rcases h with ⟨h, _, rfl⟩ | ⟨m, h, hm, rfl⟩
  · exact NoRow.of_blk h hs
  · exact (NoRow.of_blk h hs).append (NoRow.of_map hm)
theorem DirRep.noRow {w : World} {d : Nat} {D : DirC} {F : List Nat} (h : DirRep w d D F) {s : TypeId} (hs : tDir ≠ s) : NoRow s w F := by
  rcases h with ⟨h, _, rfl⟩ | ⟨m, h, hm, rfl⟩
  · exact NoRow.of_blk h hs
  · exact (NoRow.of_blk h hs).append (NoRow.of_map hm)
theorem WldRep.noRow {w : World} {p : Nat} {W : Wld} {F : List Nat} (h : WldRep w p W F) {s : TypeId} (h1 : tWorld ≠ s) (h2 : tTable ≠ s) (h3 : tDir ≠ s) : NoRow s w F := by
  obtain ⟨t, m, Ft, raw, h, rfl⟩ := h
  refine NoRow.append (F := [p]) (NoRow.of_blk h.blk h1) (NoRow.append (F := [m]) (NoRow.of_map h.map) (NoRow.append (h.tab.noRow h2) ?_))
  intro g hg
  obtain ⟨r, hr, hg⟩ := List.mem_flatMap.1 hg
  exact (h.dirs r hr).noRow h3 g hg
theorem NoRow.blk {w : World} {s : TypeId} {F : List Nat} (h : NoRow s w F) {g : Nat} {cs : Array Value} (hb : Blk w g s cs) : g ∉ F := fun hf => h g hf _ _ hb

def lenV : Value → Nat
  | .slice _ n _ => n
  | _ => 0

/-- Where a path leads to: the error's code, the node. -/
def go1 (W : Wld) (sl : Bool) : Int → List ByteArray → Nat × Int
  | a, [] => if sl && !(W.dir a) then (111, 0) else (0, a)
  | a, s :: rest =>
    if W.dir a = false then (111, 0)
    else if s = dotsB then go1 W sl (upOf (W.T.get a).1) rest
    else if (W.entry a s).2 = false then (109, 0)
    else if (W.T.get (W.entry a s).1.node).2 = false then (109, 0)
    else go1 W sl (W.entry a s).1.node rest

theorem Strs.cons {w : World} {v : Value} {x : ByteArray} {l : List ByteArray} (h : Strs w v (x :: l)) :
    ∃ g o c, v = .slice (some ⟨g, o, none⟩) (l.length + 1) c ∧ l.length + 1 ≤ c ∧ w.cell? ⟨g, o, none⟩ = some (.string x) ∧ g < w.heap.size ∧ Strs w (.slice (some ⟨g, o + 1, none⟩) l.length (c - 1)) l ∧ (c = 1 → Strs w (.slice (some ⟨g, o, none⟩) l.length 0) l) := by
  obtain ⟨A, c, rfl, hc, h3⟩ := h
  obtain ⟨g, o, rfl, ⟨cs, fr, hb⟩, hcell⟩ := h3 (by simp)
  refine ⟨g, o, c, rfl, hc, by simpa using hcell 0 x rfl, lt_of_heap hb, ⟨some ⟨g, o + 1, none⟩, c - 1, rfl, by simp at hc; omega, fun _ => ⟨g, o + 1, rfl, ⟨cs, fr, hb⟩, fun j y hy => ?_⟩⟩, fun h1 => ?_⟩
  rotate_left
  · have : l = [] := by cases l with
      | nil => rfl
      | cons a b => simp at hc; omega
    subst this
    exact ⟨_, 0, rfl, Nat.le_refl _, fun h => absurd rfl h⟩
  have := hcell (j + 1) y (by simpa using hy)
  rw [← this]
  congr 2
  omega

set_option maxRecDepth 100000 in
set_option maxHeartbeats 2000000 in
theorem walk_goes1 {B0 : Nat} {A : Nat → Addr} {L : List Nat} {w : World} (G : Glob B0 A L w) {p : Nat} {W : Wld} {F : List Nat} (h : WldRep w p W F) (hF : ∀ g ∈ F, B0 ≤ g) (hok : WldOk W) (hnl : NoLink W)
    (P : Pth) (hP : ∀ x ∈ P.parts, okStr x) (hlen : P.parts.length ≤ 1048576) {v : Value} (hv : Strs w v P.parts) (fo : Bool) :
    Calls Tryz.prog 205 #[.pointer (some ⟨p, 0, none⟩), .agg #[v, .bool P.slash], .bool fo] w fun e w' => ∃ F' k, e = .returned (.tuple #[.int .i64 (go1 W P.slash 1 P.parts).2, .int .i64 k, errV eT A (go1 W P.slash 1 P.parts).1]) ∧ Mods F w w' ∧ Within w F F' ∧ WldRep w' p W F' := by
  obtain ⟨l, sl⟩ := P
  simp only at *
  have m0 := (Mods.refl [] w).alloc (.cells #[v, .bool sl] tPath)
  have hcl := clone_strs (hv.mods0 m0) hlen
  have hlt := h.lt
  obtain ⟨R, hR⟩ : ∃ R, go1 W sl 1 l = R := ⟨_, rfl⟩
  rw [hR]
  have hv0 := hv
  obtain ⟨A1, c1, rfl, _, _⟩ := hv0
  have HP := Lib.hid hP
  clear hP
  go_enter Tryz.func205, Tryz.ntmps205
  go_wp2_with fail
  refine hcl.mono ?_
  rintro e w1 ⟨v1, rfl, hown, m1⟩
  have hst := Strs.of_own hown
  have m01 := m0.then m1
  clear hcl
  go_wp2_with fail
  go_loopw [9, 10, 11] (fun i9 i10 i11 wr => ∃ (a : Int) (rest : List ByteArray) (v2 : Value) (F2 : List Nat), i9 = .int .i64 a ∧ i10 = .int .i64 0 ∧ i11 = v2 ∧ okInt a ∧ Strs wr v2 rest ∧ (∀ x ∈ rest, okStr x) ∧ rest.length ≤ 1048576 ∧ go1 W sl a rest = R ∧ Mods F w wr ∧ Within w F F2 ∧ WldRep wr p W F2 ∧ Blk wr w.heap.size tPath #[.slice A1 l.length c1, .bool sl]) (fun _ _ i11 _ => lenV i11)
  case atStart =>
    refine ⟨1, l, v1, F, rfl, rfl, rfl, by constructor <;> decide, hst, HP.out, hlen, hR, m01.of_nil, Within.refl _ _, h.mods0 m01, ?_⟩
    exact (Blk.new w tPath _).mods m1 (by simp)
  case round =>
    obtain ⟨a, rest, v2, F2, rfl, rfl, rfl, ha, hs2, hx2, hl2, hr2, mr, wr2, hw, hbx⟩ := hrel
    have hlr := hw.lt
    have Gr := G.mods mr hF
    have hd := world_dir hw a ha
    have hdok := (hok.get a)
    cases rest with
    | nil =>
      obtain ⟨A2, c2, rfl, _, _⟩ := hs2
      rw [go1] at hr2
      have hW2 := Lib.hid hw
      have HR := Lib.hid hr2
      generalize (W.T.get a).1 = n at *
      obtain ⟨n1, n2, n3, n4, n5, n6⟩ := n
      simp only [Nd.val] at hd
      have hb1 := hbx
      have z0 := hb1.cell 0
      have z1 := hb1.cell 1
      simp at z0 z1
      have hbl := hbx.lt
      cases hda : W.dir a
      all_goals
        rw [hda] at hd
        have HD := Lib.hid hd
        clear hd
        cases sl
        all_goals
          go_wp2_with fail
          refine HD.out.mono ?_
          rintro e w2 ⟨rfl, m2⟩
          have G2 := Gr.mods0 m2
          have g1 : w2.cell? ⟨10, 0, none⟩ = _ := G2.cell 111 (G2.core _ (by decide))
          have g2 := G2.lt 10 (by decide)
          have hbc := hbx.mods m2 (by simp)
          have hbl2 := hbc.lt
          have c0 := hbc.cell 0
          have c1 := hbc.cell 1
          simp at c0 c1
          clear G2
          go_wp2_with fail
          try go_region
          try go_wp2_with fail
          go_ret3
          have hr := HR.out
          simp only [hda, Bool.not_true, Bool.not_false, Bool.and_true, Bool.and_false, Bool.false_eq_true, if_true, if_false] at hr
          rw [← hr]
          first
            | exact ⟨F2, 0, rfl, (mr.then m2).alloc _, wr2, (hW2.out.mods0 m2).mods0 ((Mods.refl [] _).alloc _)⟩
            | exact ⟨F2, 0, rfl, ((mr.then m2).alloc _).drew, wr2, (hW2.out.mods0 m2).mods0 ((Mods.refl [] _).alloc _).drew⟩
    | cons x rest =>
      obtain ⟨g, o, c2, rfl, hc2, hcell, hgl, hs3, hs4⟩ := hs2.cons
      rw [go1] at hr2
      have hco : okStr x := hx2 x (by simp)
      have hrestok : ∀ y ∈ rest, okStr y := fun y hy => hx2 y (by simp [hy])
      simp only [List.length_cons] at hl2
      have hup := hok.up a
      have hWU := fun (w' : World) => walk_up (W.T.get a).1 w'
      cases hda : W.dir a with
      | false =>
        rw [if_pos hda] at hr2
        rw [hda] at hd
        generalize (W.T.get a).1 = n at *
        obtain ⟨n1, n2, n3, n4, n5, n6⟩ := n
        simp only [Nd.val] at *
        have HD := Lib.hid hd
        clear hd hs2 hs3 hs4 hWU h hv hst hown
        go_wp2_with fail
        refine HD.out.mono ?_
        rintro e w2 ⟨rfl, m2⟩
        have G2 := Gr.mods0 m2
        have g1 : w2.cell? ⟨10, 0, none⟩ = _ := G2.cell 111 (G2.core _ (by decide))
        have g2 := G2.lt 10 (by decide)
        clear Gr G2 G HD
        go_wp2_with fail
        go_region
        go_wp2_with fail
        go_ret3
        refine ⟨F2, 0, ?_, (mr.then m2).alloc _ |>.drew, wr2, (hw.mods0 m2).mods0 (((Mods.refl [] _).alloc _).drew)⟩
        rw [← hr2, errV_pos eT A (c := 111) (by decide)]
        rfl
      | true =>
        rw [if_neg (by rw [hda]; decide)] at hr2
        rw [hda] at hd
        generalize hnd : (W.T.get a).1 = n at *
        have HU := Lib.hid hWU
        have HN : ∃ n1 n2 n3 n4 n5 n6, n = ⟨n1, n2, n3, n4, n5, n6⟩ := by cases n; exact ⟨_, _, _, _, _, _, rfl⟩
        obtain ⟨n1, n2, n3, n4, n5, n6, hn⟩ := HN
        rw [hn] at hd HU
        simp only [Nd.val] at hd HU
        have HD := Lib.hid hd
        have HS3 := Lib.hid hs3
        have HS4 := Lib.hid hs4
        have HR := Lib.hid hr2
        have HUP := Lib.hid hup
        clear hd hs2 hs3 hs4 hWU h hv hst hown hr2 hdok hup
        go_wp2_with fail
        refine HD.out.mono ?_
        rintro e w2 ⟨rfl, m2⟩
        have hc2' : w2.cell? ⟨g, o, none⟩ = some (.string x) := (World.cell?_of_block (a := ⟨g, o, none⟩) (m2.block g hgl (by simp))).trans hcell
        have hgl2 : g < w2.heap.size := Nat.lt_of_lt_of_le hgl m2.size
        have m2a := m2.alloc (.cells #[.int .i64 n1, .int .i64 n2, .int .i64 n3, .int .i64 n4, .string n5, .int .i64 n6] tNd)
        go_upto_region 8 with fail
        go_cut [11] (fun s11 wx => (∃ A3 c3, s11 = .slice A3 rest.length c3 ∧ Strs wr (.slice A3 rest.length c3) rest) ∧ wx = w2.alloc (.cells #[.int .i64 n1, .int .i64 n2, .int .i64 n3, .int .i64 n4, .string n5, .int .i64 n6] tNd))
        case first =>
          by_cases hc1 : c2 = 1
          · go_wp2_with fail
            go_meet
            case rel => exact ⟨⟨_, _, rfl, HS4.out hc1⟩, rfl⟩
          · go_wp2_with fail
            go_meet
            case rel => exact ⟨⟨_, _, rfl, HS3.out⟩, rfl⟩
        case rest =>
          obtain ⟨⟨A3, c3, rfl, HS⟩, rfl⟩ := hcut
          have HSS := Lib.hid HS
          have hb12 := Blk.new w2 tNd #[.int .i64 n1, .int .i64 n2, .int .i64 n3, .int .i64 n4, .string n5, .int .i64 n6]
          have b0 := hb12.cell 0
          have b1 := hb12.cell 1
          have b2 := hb12.cell 2
          have b3 := hb12.cell 3
          have b4 := hb12.cell 4
          have b5 := hb12.cell 5
          simp at b0 b1 b2 b3 b4 b5
          clear HS hcell hc2' hb12
          by_cases hxd : x = dotsB
          · have hr2 := HR.out
            rw [if_pos hxd] at hr2
            subst hxd
            have HR2 := Lib.hid hr2
            clear hr2 HR
            simp only [dotsB]
            go_wp2_with fail
            refine (HU.out _).mono ?_
            rintro e w3 ⟨rfl, m3⟩
            have m23 := m2a.then m3
            go_wp2_with fail
            go_roundw
            case rel =>
              exact ⟨_, rest, _, F2, rfl, rfl, rfl, hn ▸ HUP.out, HSS.out.mods0 m23, hrestok, by omega, hn ▸ HR2.out, mr.then m23, wr2, hw.mods0 m23, hbx.mods m23 (by simp)⟩
            case measure => simp [lenV]
          · have hr2 := HR.out
            rw [if_neg hxd] at hr2
            have f2 : (x.toList == [46, 46]) = false := by
              have := bne_of_ne (t := dotsB) hxd
              rwa [show dotsB.toList = [46, 46] from toList_mk [46, 46]] at this
            have f3 : ¬ x.toList = [46, 46] := by intro e; rw [e] at f2; simp at f2
            have hen := hok.entry a x
            have hEN := world_entry (hw.mods0 m2a) a ha x hco
            generalize hent : W.entry a x = en at *
            obtain ⟨⟨e1, e2, e3⟩, eb⟩ := en
            simp only at hr2 hen
            simp only [Ent.val] at hEN
            have HG := Lib.hid (fun (t : Nat) (Ft : List Nat) (w' : World) (hT : TableRep w' t W.T Ft) => table_Get hT e2 hen)
            have hnk := hnl.get e2
            generalize hnd2 : W.T.get e2 = nd2 at *
            obtain ⟨⟨y1, y2, y3, y4, y5, y6⟩, eb2⟩ := nd2
            simp only [Nd.val] at HG hnk hr2
            have HR2 := Lib.hid hr2
            clear hr2 HR
            cases eb
            · go_wp2_with fail
              refine hEN.mono ?_
              rintro e w3 ⟨F3, rfl, m3, wi3, hw3⟩
              have m23 : Mods F w w3 := (mr.then m2a).seq (wr2.trans (fun g hg => .inl hg) (Nat.le_refl _)) m3
              have G3 := G.mods m23 hF
              have g1 : w3.cell? ⟨0, 0, none⟩ = _ := G3.cell 109 (G3.core _ (by decide))
              have g2 := G3.lt 0 (by decide)
              clear hEN Gr G3
              go_wp2_with fail
              go_region
              go_wp2_with fail
              go_ret3
              have hr3 := HR2.out
              simp at hr3
              refine ⟨F3, 0, ?_, (m23.alloc _).drew, wr2.trans wi3 (mr.then m2a).size, hw3.mods0 (((Mods.refl [] _).alloc _).drew)⟩
              rw [← hr3, errV_pos eT A (c := 109) (by decide)]
              rfl
            · go_wp2_with fail
              refine hEN.mono ?_
              rintro e w3 ⟨F3, rfl, m3, wi3, hw3⟩
              have m23 : Mods F w w3 := (mr.then m2a).seq (wr2.trans (fun g hg => .inl hg) (Nat.le_refl _)) m3
              have w23 := wr2.trans wi3 (mr.then m2a).size
              obtain ⟨t, m, Ft, raw, hI, hF3⟩ := id hw3
              have hbI := hI.blk
              have HTI := Lib.hid hI.tab
              have q0 := hbI.cell 0
              have q1 := hbI.cell 1
              simp at q0 q1
              have hltI := hbI.lt
              clear hbI hI hEN
              have HSW := Lib.hid (HSS.out.mods0 m2a |>.mods m3 ((hw.mods0 m2a).noRow (by decide) (by decide) (by decide)))
              have xe := Blk.new w3 tEnt #[.string e1, .int .i64 e2, .int .i64 e3]
              go_upto_region 14 with fail
              go_cut [13, 16] (fun s13 s16 wx => ∃ g16, s13 = .bool eb2 ∧ s16 = .pointer (some ⟨g16, 0, none⟩) ∧ Blk wx g16 tNd #[.int .i64 y1, .int .i64 y2, .int .i64 y3, .int .i64 y4, .string y5, .int .i64 y6] ∧ Mods [] (w3.alloc (.cells #[.string e1, .int .i64 e2, .int .i64 e3] tEnt)) wx)
              case first =>
                have mE := ((Mods.refl [] (w3.alloc (.cells #[.string e1, .int .i64 e2, .int .i64 e3] tEnt))).drew)
                have mE2 := ((Mods.refl [] (w3.alloc (.cells #[.string e1, .int .i64 e2, .int .i64 e3] tEnt))).alloc (.cells #[.int .i64 0, .int .i64 0, .int .i64 0, .int .i64 0, .string ⟨#[]⟩, .int .i64 0] tNd)).drew
                have mz := (Mods.refl [] w3).alloc (.cells #[.string e1, .int .i64 e2, .int .i64 e3] tEnt)
                have k0 : ((w3.alloc (.cells #[.string e1, .int .i64 e2, .int .i64 e3] tEnt)).drew).cell? ⟨p, 0, none⟩ = some (.pointer (some ⟨t, 0, none⟩)) := by
                  rw [World.cell?_drew, World.cell?_alloc_lt _ _ _ (by simpa using hltI), q0]
                have j0 : (((w3.alloc (.cells #[.string e1, .int .i64 e2, .int .i64 e3] tEnt)).alloc (.cells #[.int .i64 0, .int .i64 0, .int .i64 0, .int .i64 0, .string ⟨#[]⟩, .int .i64 0] tNd)).drew).cell? ⟨p, 0, none⟩ = some (.pointer (some ⟨t, 0, none⟩)) := by
                  rw [World.cell?_drew, World.cell?_alloc_lt _ _ _ (by simp; omega), World.cell?_alloc_lt _ _ _ (by simpa using hltI), q0]
                have k1 := xe.drew.cell 1
                have j1 := (xe.alloc (.cells #[.int .i64 0, .int .i64 0, .int .i64 0, .int .i64 0, .string ⟨#[]⟩, .int .i64 0] tNd)).drew.cell 1
                simp only [List.getElem?_toArray, List.getElem?_cons_zero, List.getElem?_cons_succ] at k1 j1
                have jb := (Blk.new (w3.alloc (.cells #[.string e1, .int .i64 e2, .int .i64 e3] tEnt)) tNd #[.int .i64 0, .int .i64 0, .int .i64 0, .int .i64 0, .string ⟨#[]⟩, .int .i64 0]).drew
                rw [World.size_alloc] at jb
                have hl1 : p < w3.heap.size + 1 := by omega
                have hl2 : p < w3.heap.size + 1 + 1 := by omega
                have hl3 : w3.heap.size < w3.heap.size + 1 := by omega
                have hl4 : w3.heap.size < w3.heap.size + 1 + 1 := by omega
                go_region_held3 (fun w' => w'.cell? ⟨p, 0, none⟩ = some (.pointer (some ⟨t, 0, none⟩)) ∧ w'.cell? ⟨w3.heap.size, 1, none⟩ = some (.int .i64 e2)) (refine ⟨?_, ?_⟩ <;> (repeat (first | with_reducible assumption | with_reducible refine keepAlloc ?_ | with_reducible refine keepDrew ?_ | (with_reducible refine keepStore ?_ (by simp; try omega)))))
                  (first | (go_at_call 102; refine (HG.out t Ft _ (HTI.out.mods0 (mz.then ?_))).mono ?_; (repeat (first | exact Mods.refl _ _ | apply Mods.drew | apply Mods.alloc)); rintro e w4 ⟨rfl, m4⟩; have k0 := (World.cell?_of_block (a := ⟨p, 0, none⟩) (m4.block p (by simp; omega) (by simp))).trans (by first | exact k0 | exact j0); have k1 := (World.cell?_of_block (a := ⟨w3.heap.size, 1, none⟩) (m4.block w3.heap.size (by simp; try omega) (by simp))).trans (by first | exact k1 | exact j1); first | (have jb := jb.mods m4 (by simp); have fr := jb.frozen; have z0 := jb.cell 0; have z1 := jb.cell 1; have z2 := jb.cell 2; have z3 := jb.cell 3; have z4 := jb.cell 4; have z5 := jb.cell 5; have mm := mE2.then m4; simp at z0 z1 z2 z3 z4 z5) | (have mm := mE.then m4)))
                all_goals
                  go_wp2_with fail
                  go_meet
                · exact ⟨_, rfl, rfl, Blk.new _ _ _, mm.alloc _⟩
                · exact ⟨_, rfl, rfl, putNd_blk jb, putNd_mods mm (.inr (by simp))⟩
              case rest =>
                obtain ⟨g16, rfl, rfl, hb16, m16⟩ := hcut
                have m3x := ((Mods.refl [] w3).alloc (.cells #[.string e1, .int .i64 e2, .int .i64 e3] tEnt)).then m16
                have xe2 := xe.mods m16 (by simp)
                have mW : Mods F w wc := m23.then m3x
                have hwc := hw3.mods0 m3x
                have HSC := Lib.hid (HSW.out.mods0 m3x)
                cases eb2
                · have G3 := G.mods mW hF
                  have g1 : wc.cell? ⟨0, 0, none⟩ = _ := G3.cell 109 (G3.core _ (by decide))
                  have g2 := G3.lt 0 (by decide)
                  clear Gr G3
                  go_wp2_with fail
                  go_region
                  go_wp2_with fail
                  go_ret3
                  have hr3 := HR2.out
                  simp at hr3
                  refine ⟨F3, 0, ?_, mW.drew, w23, hwc.mods0 (Mods.refl [] _).drew⟩
                  rw [← hr3, errV_pos eT A (c := 109) (by decide)]
                  rfl
                · have hk1 : (y2 != 3) = true := by simpa using hnk
                  have z0 := hb16.cell 0
                  have z1 := hb16.cell 1
                  simp at z0 z1
                  have v0 := xe2.cell 0
                  have v1 := xe2.cell 1
                  simp at v0 v1
                  have hr3 := HR2.out
                  simp only [Bool.true_eq_false, if_false] at hr3
                  have HR3 := Lib.hid hr3
                  have HBX := Lib.hid hbx
                  clear hr3 HR2 hbx
                  go_wp2_with fail
                  go_roundw
                  case rel =>
                    refine ⟨_, rest, _, F3, rfl, rfl, rfl, hen, HSC.out, hrestok, by omega, HR3.out, mW, w23, hwc, ?_⟩
                    have hbx2 := HBX.out.mods m2a (by simp)
                    exact (hbx2.mods m3 (((hw.mods0 m2a).noRow (by decide) (by decide) (by decide)).blk hbx2)).mods m3x (by simp)
                  case measure => simp [lenV]
end Go.Proofs.YtaiigmiiidldcaaGreatDoor

namespace Go.Proofs.YtaiigmiiidldcaaGreatDoor
open Go.RowKit Go.Maps
open Go.ChangeMaps (setBlock)

set_option maxRecDepth 100000 in
set_option maxHeartbeats 1000000 in
theorem walk_To1 {B0 : Nat} {A : Nat → Addr} {L : List Nat} {w : World} (G : Glob B0 A L w) {p : Nat} {W : Wld} {F : List Nat} (h : WldRep w p W F) (hF : ∀ g ∈ F, B0 ≤ g) (hok : WldOk W) (hnl : NoLink W)
    (P : Pth) (hP : ∀ x ∈ P.parts, okStr x) (hlen : P.parts.length ≤ 1048576) {v : Value} (hv : Strs w v P.parts) (fo : Bool) :
    Calls Tryz.prog 132 #[.pointer (some ⟨p, 0, none⟩), .agg #[v, .bool P.slash], .bool fo] w fun e w' => ∃ F', e = .returned (.tuple #[.int .i64 (go1 W P.slash 1 P.parts).2, errV eT A (go1 W P.slash 1 P.parts).1]) ∧ Mods F w w' ∧ Within w F F' ∧ WldRep w' p W F' := by
  have m0 := (Mods.refl [] w).alloc (.cells #[v, .bool P.slash] tPath)
  have hg := walk_goes1 (G.mods0 m0) (h.mods0 m0) hF hok hnl P hP hlen (hv.mods0 m0) fo
  obtain ⟨l, sl⟩ := P
  simp only at *
  generalize go1 W sl 1 l = R at *
  obtain ⟨c, i⟩ := R
  have hv0 := hv
  obtain ⟨A1, c1, rfl, _, _⟩ := hv0
  clear G hP hok hnl
  go_enter Tryz.func132, Tryz.ntmps132
  go_wp2_with fail
  refine hg.mono ?_
  rintro e w1 ⟨F', k, rfl, m1, wi, hw⟩
  clear hg
  go_wp2_with fail
  go_ret2
  refine ⟨F', rfl, (m0.of_nil (G := F)).seq (Within.refl _ _) m1, fun g hg => ?_, hw⟩
  rcases wi g hg with h1 | h1
  · exact .inl h1
  · simp at h1; exact .inr (by omega)

abbrev tFound : TypeId := 208

/-- What Last gives: the error's code; directory, node, name. -/
def last1 (W : Wld) (P : Pth) : Nat × Int × Int × ByteArray :=
  if (split P).1 ≠ 0 then ((split P).1, 0, 0, ByteArray.empty)
  else if (go1 W false 1 (split P).2.1).1 ≠ 0 then ((go1 W false 1 (split P).2.1).1, 0, 0, ByteArray.empty)
  else if W.dir (go1 W false 1 (split P).2.1).2 = false then (111, 0, 0, ByteArray.empty)
  else if (P.slash && (W.entry (go1 W false 1 (split P).2.1).2 (split P).2.2).2 && !(W.dir (W.entry (go1 W false 1 (split P).2.1).2 (split P).2.2).1.node)) = true then (111, 0, 0, ByteArray.empty)
  else (0, (go1 W false 1 (split P).2.1).2, (W.entry (go1 W false 1 (split P).2.1).2 (split P).2.2).1.node, (split P).2.2)

theorem putFound_blk {w : World} {g : Nat} {a b : Int} {s : ByteArray} {b0 b1 b2 : Value} (h : Blk w g tFound #[b0, b1, b2]) : Blk (((w.setCell ⟨g, 0, none⟩ (.int .i64 a)).setCell ⟨g, 1, none⟩ (.int .i64 b)).setCell ⟨g, 2, none⟩ (.string s)) g tFound #[.int .i64 a, .int .i64 b, .string s] := by
  have q1 := ((h.set_ 0 (.int .i64 a)).set_ 1 (.int .i64 b)).set_ 2 (.string s)
  simpa only [List.setIfInBounds_toArray, List.set_cons_zero, List.set_cons_succ] using q1
theorem found_ld {w : World} {g : Nat} {a b : Int} {s : ByteArray} (h : Blk w g tFound #[.int .i64 a, .int .i64 b, .string s]) : (loadVar tFound ⟨g, 0, none⟩).run Tryz.prog w = .ok (.agg #[.int .i64 a, .int .i64 b, .string s]) w :=
  run_loadVar_row (P := Tryz.prog) _ g tFound 208 _ (0, 0) _ h Tryz.underlying208 rfl (by kernel_rfl)

theorem go1_ok {W : Wld} (hok : WldOk W) (sl : Bool) : ∀ (l : List ByteArray) (a : Int), okInt a → okInt (go1 W sl a l).2 := by
  intro l
  induction l with
  | nil => intro a ha; rw [go1]; split <;> first | exact okInt_zero | exact ha
  | cons s l ih =>
    intro a ha
    rw [go1]
    split
    · exact okInt_zero
    split
    · exact ih _ (hok.up a)
    split
    · exact okInt_zero
    split
    · exact okInt_zero
    · exact ih _ (hok.entry a s)

theorem split_ok {P : Pth} (hP : ∀ x ∈ P.parts, okStr x) : (∀ x ∈ (split P).2.1, okStr x) ∧ okStr (split P).2.2 ∧ (split P).2.1.length ≤ P.parts.length := by
  unfold split
  split
  · exact ⟨by simp, by unfold okStr; decide, by simp⟩
  · rename_i h
    refine ⟨fun x hx => hP x (List.dropLast_subset _ hx), ?_, by simp⟩
    cases hl : P.parts with
    | nil => exact absurd (.inl hl) h
    | cons a l =>
      have : (a :: l).getLastD ByteArray.empty ∈ P.parts := by
        rw [hl, List.getLastD_eq_getLast?, List.getLast?_eq_some_getLast (by simp)]
        exact List.getLast_mem _
      exact hP _ this

set_option maxRecDepth 100000 in
set_option maxHeartbeats 2000000 in
theorem walk_Last1 {B0 : Nat} {A : Nat → Addr} {L : List Nat} {w : World} (G : Glob B0 A L w) {p : Nat} {W : Wld} {F : List Nat} (h : WldRep w p W F) (hF : ∀ g ∈ F, B0 ≤ g) (hok : WldOk W) (hnl : NoLink W)
    (P : Pth) (hP : ∀ x ∈ P.parts, okStr x) (hlen : P.parts.length ≤ 1048576) {v : Value} (hv : Strs w v P.parts) :
    Calls Tryz.prog 133 #[.pointer (some ⟨p, 0, none⟩), .agg #[v, .bool P.slash]] w fun e w' => ∃ F', e = .returned (.tuple #[.agg #[.int .i64 (last1 W P).2.1, .int .i64 (last1 W P).2.2.1, .string (last1 W P).2.2.2], errV eT A (last1 W P).1]) ∧ Mods F w w' ∧ Within w F F' ∧ WldRep w' p W F' := by
  obtain ⟨l0, sl⟩ := P
  simp only at hP hlen hv ⊢
  have m0 := ((Mods.refl [] w).alloc (.cells #[v, .bool sl] tPath)).alloc (.cells #[.int .i64 0, .int .i64 0, .string ⟨#[]⟩] tFound)
  have hsp := path_Split (G.mods0 m0) ⟨l0, sl⟩ (hv.mods0 m0) hlen
  have hso := split_ok (P := ⟨l0, sl⟩) hP
  have hlt := h.lt
  obtain ⟨R, hR⟩ : ∃ R, last1 W ⟨l0, sl⟩ = R := ⟨_, rfl⟩
  rw [hR]
  unfold last1 at hR
  generalize hS : split ⟨l0, sl⟩ = S at *
  obtain ⟨c, q, s⟩ := S
  simp only at hR hso
  obtain ⟨hq, hs, hql⟩ := hso
  have hv0 := hv
  obtain ⟨A1, c1, rfl, _, _⟩ := hv0
  have HR := Lib.hid hR
  have hx1 := (Blk.new w tPath #[.slice A1 l0.length c1, .bool sl]).alloc (.cells #[.int .i64 0, .int .i64 0, .string ⟨#[]⟩] tFound)
  have hx2 := Blk.new (w.alloc (.cells #[.slice A1 l0.length c1, .bool sl] tPath)) tFound #[.int .i64 0, .int .i64 0, .string ⟨#[]⟩]
  rw [World.size_alloc] at hx2
  clear hR hP
  by_cases hc : c = 0
  · subst hc
    rw [errV_zero] at hsp
    have HTo := Lib.hid (fun (w' : World) (v' : Value) (m' : Mods [] w w') (h' : Strs w' v' q) => walk_To1 (G.mods0 m') (h.mods0 m') hF hok hnl ⟨q, false⟩ hq (by simp only; omega) h' true)
    have hgo := go1_ok hok false q 1 (by constructor <;> decide)
    have hr := HR.out
    rw [if_neg (by simp)] at hr
    simp only at HTo
    generalize go1 W false 1 q = T at *
    obtain ⟨ct, i⟩ := T
    simp only at hgo hr HTo
    by_cases hct : ct = 0
    · subst hct
      rw [if_neg (by simp)] at hr
      simp only [errV_zero] at HTo
      have HDI := Lib.hid (fun (w' : World) (F' : List Nat) (h' : WldRep w' p W F') => world_dir h' i hgo)
      have HEN := Lib.hid (fun (w' : World) (F' : List Nat) (h' : WldRep w' p W F') => world_entry h' i hgo s hs)
      have hen := hok.entry i s
      generalize W.entry i s = en at *
      obtain ⟨⟨e1, e2, e3⟩, eb⟩ := en
      have HDE := Lib.hid (fun (w' : World) (F' : List Nat) (h' : WldRep w' p W F') => world_dir h' e2 hen)
      generalize (W.T.get i).1 = n at *
      obtain ⟨n1, n2, n3, n4, n5, n6⟩ := n
      generalize (W.T.get e2).1 = n at *
      obtain ⟨k1, k2, k3, k4, k5, k6⟩ := n
      simp only [Nd.val] at HDI HDE
      simp only [Ent.val] at HEN
      simp only at hr
      cases hdi : W.dir i with
      | false =>
        rw [hdi] at hr HDI
        rw [if_pos rfl] at hr
        have HR2 := Lib.hid hr
        clear hr HR
        go_enter Tryz.func133, Tryz.ntmps133
        go_wp2_with fail
        refine hsp.mono ?_
        rintro e w1 ⟨v1, rfl, hst, m1⟩
        obtain ⟨A2, c2, rfl, _, _⟩ := id hst
        have x2 := (hx2.mods m1 (by simp)).alloc (.cells #[.slice A2 q.length c2, .bool false] tPath)
        have mA := (m0.then m1).alloc (.cells #[.slice A2 q.length c2, .bool false] tPath)
        have hst2 := hst.mods0 ((Mods.refl [] w1).alloc (.cells #[.slice A2 q.length c2, .bool false] tPath))
        have b1 := (hx1.mods m1 (by simp)).alloc (.cells #[.slice A2 q.length c2, .bool false] tPath)
        clear hsp hx1 hx2
        go_wp2_with fail
        refine (HTo.out _ _ mA hst2).mono ?_
        rintro e w2 ⟨F2, rfl, m2, wi2, hw2⟩
        have z2 := x2.mods m2 (((h.mods0 mA).noRow (s := tFound) (by decide) (by decide) (by decide)).blk x2)
        have b2 := b1.mods m2 (((h.mods0 mA).noRow (s := tPath) (by decide) (by decide) (by decide)).blk b1)
        have mB : Mods F w w2 := (mA.of_nil (G := F)).seq (Within.refl _ _) m2
        clear HTo
        go_wp2_with fail
        refine (HDI.out _ _ hw2).mono ?_
        rintro e w3 ⟨rfl, m3⟩
        have z3' := z2.mods m3 (by simp)
        have b3 := (b2.mods m3 (by simp)).alloc (.cells #[.int .i64 n1, .int .i64 n2, .int .i64 n3, .int .i64 n4, .string n5, .int .i64 n6] tNd)
        have z3 := z3'.alloc (.cells #[.int .i64 n1, .int .i64 n2, .int .i64 n3, .int .i64 n4, .string n5, .int .i64 n6] tNd)
        have G3 := (G.mods mB hF).mods0 m3
        have g1 : w3.cell? ⟨10, 0, none⟩ = _ := G3.cell 111 (G3.core _ (by decide))
        have g2 := G3.lt 10 (by decide)
        have g3 := G.lt 10 (by decide)
        have hn1 : ¬ (10 = w.heap.size + 1) := by omega
        have hn2 : ¬ (w.heap.size + 1 = 10) := by omega
        have lt2 := z3'.lt
        have fr := z3'.frozen
        have z0 := z3'.cell 0
        have z1 := z3'.cell 1
        have z2 := z3'.cell 2
        simp at z0 z1 z2
        clear G3 G
        go_wp2_with fail
        go_region
        go_wp2_with fail
        have y2 := ((putFound_blk (a := 0) (b := 0) (s := ⟨#[]⟩) z3').alloc (.cells #[.int .i64 n1, .int .i64 n2, .int .i64 n3, .int .i64 n4, .string n5, .int .i64 n6] tNd)).drew
        have ld := found_ld y2
        have mm := ((((Mods.refl [w.heap.size + 1] w3).setCell (p := ⟨w.heap.size + 1, 0, none⟩) (.inl (by simp)) (.int .i64 0)).setCell (p := ⟨w.heap.size + 1, 1, none⟩) (.inl (by simp)) (.int .i64 0)).setCell (p := ⟨w.heap.size + 1, 2, none⟩) (.inl (by simp)) (.string ⟨#[]⟩)).alloc (.cells #[.int .i64 n1, .int .i64 n2, .int .i64 n3, .int .i64 n4, .string n5, .int .i64 n6] tNd) |>.drew
        have mT : Mods F w _ := (mB.then m3).trans mm (by intro y hy; simp at hy; right; omega)
        have wT : Within w F F2 := (Within.refl w F).trans wi2 mA.size
        have hw3 := hw2.mods0 m3
        refine bodyPost_ret (v := .tuple #[.agg #[.int .i64 0, .int .i64 0, .string ⟨#[]⟩], .iface eT (.pointer (some (A 111)))]) (by simp [results, Tryz.results133, asAddr, ld]) rfl ⟨F2, ?_, mT, wT, hw3.mods mm ?_⟩
        · rw [← HR2.out, errV_pos eT A (c := 111) (by decide)]
          rfl
        · intro g hg hg'
          simp at hg'
          subst hg'
          exact (hw3.noRow (s := tFound) (by decide) (by decide) (by decide)).blk z3' hg
      | true =>
        rw [hdi] at hr HDI
        rw [if_neg (by decide)] at hr
        have HR2 := Lib.hid hr
        clear hr HR
        go_enter Tryz.func133, Tryz.ntmps133
        go_wp2_with fail
        refine hsp.mono ?_
        rintro e w1 ⟨v1, rfl, hst, m1⟩
        obtain ⟨A2, c2, rfl, _, _⟩ := id hst
        have x2 := (hx2.mods m1 (by simp)).alloc (.cells #[.slice A2 q.length c2, .bool false] tPath)
        have mA := (m0.then m1).alloc (.cells #[.slice A2 q.length c2, .bool false] tPath)
        have hst2 := hst.mods0 ((Mods.refl [] w1).alloc (.cells #[.slice A2 q.length c2, .bool false] tPath))
        have b1 := (hx1.mods m1 (by simp)).alloc (.cells #[.slice A2 q.length c2, .bool false] tPath)
        clear hsp hx1 hx2
        go_wp2_with fail
        refine (HTo.out _ _ mA hst2).mono ?_
        rintro e w2 ⟨F2, rfl, m2, wi2, hw2⟩
        have z2 := x2.mods m2 (((h.mods0 mA).noRow (s := tFound) (by decide) (by decide) (by decide)).blk x2)
        have b2 := b1.mods m2 (((h.mods0 mA).noRow (s := tPath) (by decide) (by decide) (by decide)).blk b1)
        have mB : Mods F w w2 := (mA.of_nil (G := F)).seq (Within.refl _ _) m2
        clear HTo
        go_wp2_with fail
        refine (HDI.out _ _ hw2).mono ?_
        rintro e w3 ⟨rfl, m3⟩
        have z3' := z2.mods m3 (by simp)
        have b3 := (b2.mods m3 (by simp)).alloc (.cells #[.int .i64 n1, .int .i64 n2, .int .i64 n3, .int .i64 n4, .string n5, .int .i64 n6] tNd)
        have z3 := z3'.alloc (.cells #[.int .i64 n1, .int .i64 n2, .int .i64 n3, .int .i64 n4, .string n5, .int .i64 n6] tNd)
        have mC := (mB.then m3).alloc (.cells #[.int .i64 n1, .int .i64 n2, .int .i64 n3, .int .i64 n4, .string n5, .int .i64 n6] tNd)
        have hw3 := hw2.mods0 (m3.alloc (.cells #[.int .i64 n1, .int .i64 n2, .int .i64 n3, .int .i64 n4, .string n5, .int .i64 n6] tNd))
        have wC : Within w F F2 := (Within.refl w F).trans wi2 mA.size
        go_wp2_with fail
        refine (HEN.out _ _ hw3).mono ?_
        rintro e w4 ⟨F4, rfl, m4, wi4, hw4⟩
        have z4' := z3.mods m4 ((hw3.noRow (s := tFound) (by decide) (by decide) (by decide)).blk z3)
        have b4' := b3.mods m4 ((hw3.noRow (s := tPath) (by decide) (by decide) (by decide)).blk b3)
        have z4 := z4'.alloc (.cells #[.string e1, .int .i64 e2, .int .i64 e3] tEnt)
        have b4 := b4'.alloc (.cells #[.string e1, .int .i64 e2, .int .i64 e3] tEnt)
        have xe := Blk.new w4 tEnt #[.string e1, .int .i64 e2, .int .i64 e3]
        have mE := (Mods.refl [] w4).alloc (.cells #[.string e1, .int .i64 e2, .int .i64 e3] tEnt)
        have mD : Mods F w _ := (mC.seq wC m4).then mE
        have wD : Within w F F4 := wC.trans wi4 mC.size
        have hw5 := hw4.mods0 mE
        go_wp2_with fail
        refine (HDE.out _ _ hw5).mono ?_
        rintro e w5 ⟨rfl, m5⟩
        have z5' := z4.mods m5 (by simp)
        have b5 := (b4.mods m5 (by simp)).alloc (.cells #[.int .i64 k1, .int .i64 k2, .int .i64 k3, .int .i64 k4, .string k5, .int .i64 k6] tNd)
        have xe5 := (xe.mods m5 (by simp)).alloc (.cells #[.int .i64 k1, .int .i64 k2, .int .i64 k3, .int .i64 k4, .string k5, .int .i64 k6] tNd)
        have z5 := z5'.alloc (.cells #[.int .i64 k1, .int .i64 k2, .int .i64 k3, .int .i64 k4, .string k5, .int .i64 k6] tNd)
        have mF := mD.then m5
        have hw6 := hw5.mods0 m5
        have hsz5 := m5.size
        rw [World.size_alloc] at hsz5
        have lt2 := z5'.lt
        have fr := z5'.frozen
        have xe5' := xe.mods m5 (by simp)
        have b5' := b4.mods m5 (by simp)
        have ltx := xe5'.lt
        have ltb := b5'.lt
        have x0 := xe5'.cell 0
        have x1 := xe5'.cell 1
        simp at x0 x1
        have b0 := b5'.cell 0
        have b1 := b5'.cell 1
        simp at b0 b1
        have z0 := z5'.cell 0
        have z1 := z5'.cell 1
        have z2 := z5'.cell 2
        simp at z0 z1 z2
        have G5 := G.mods mF hF
        have g1 : w5.cell? ⟨10, 0, none⟩ = _ := G5.cell 111 (G5.core _ (by decide))
        have g2 := G5.lt 10 (by decide)
        have g3 := G.lt 10 (by decide)
        have hn1 : ¬ (10 = w.heap.size + 1) := by omega
        have hn2 : ¬ (w.heap.size + 1 = 10) := by omega
        have hr := HR2.out
        generalize W.dir e2 = de at *
        have HR3 := Lib.hid hr
        have y6 := fun (a b : Int) (s : ByteArray) => (putFound_blk (a := a) (b := b) (s := s) z5').alloc (.cells #[.int .i64 k1, .int .i64 k2, .int .i64 k3, .int .i64 k4, .string k5, .int .i64 k6] tNd)
        have HLD := Lib.hid (fun (a b : Int) (s : ByteArray) => found_ld (y6 a b s))
        have HLDD := Lib.hid (fun (a b : Int) (s : ByteArray) => found_ld (y6 a b s).drew)
        have MM := fun (a b : Int) (s : ByteArray) => ((((Mods.refl [w.heap.size + 1] w5).setCell (p := ⟨w.heap.size + 1, 0, none⟩) (.inl (by simp)) (.int .i64 a)).setCell (p := ⟨w.heap.size + 1, 1, none⟩) (.inl (by simp)) (.int .i64 b)).setCell (p := ⟨w.heap.size + 1, 2, none⟩) (.inl (by simp)) (.string s)).alloc (.cells #[.int .i64 k1, .int .i64 k2, .int .i64 k3, .int .i64 k4, .string k5, .int .i64 k6] tNd)
        have MT := fun (a b : Int) (s : ByteArray) => mF.trans (MM a b s) (by intro y hy; simp at hy; right; omega)
        have HW := fun (a b : Int) (s : ByteArray) => hw6.mods (MM a b s) (by
          intro g hg hg'
          simp at hg'
          subst hg'
          exact (hw6.noRow (s := tFound) (by decide) (by decide) (by decide)).blk z5' hg)
        have HY := Lib.hid (And.intro MT HW)
        clear hr HR2 y6 MM MT HW G5 G h hw2 hw3 hw4 hw5 hw6
        cases sl <;> cases eb <;> cases de
        all_goals
          go_wp2_with fail
          try go_region
          try go_wp2_with fail
          have hr := HR3.out
          simp only [Bool.and_self, Bool.and_true, Bool.and_false, Bool.true_and, Bool.false_and, Bool.not_true, Bool.not_false, Bool.false_eq_true, if_false, if_true] at hr
          rw [← hr]
          first
            | (have ld := HLD.out i e2 s
               exact bodyPost_ret (v := .tuple #[.agg #[.int .i64 i, .int .i64 e2, .string s], .nilIface]) (by simp [results, Tryz.results133, asAddr, ld]) rfl ⟨F4, rfl, HY.out.1 i e2 s, wD, HY.out.2 i e2 s⟩)
            | (have ld := HLDD.out 0 0 ⟨#[]⟩
               exact bodyPost_ret (v := .tuple #[.agg #[.int .i64 0, .int .i64 0, .string ⟨#[]⟩], .iface eT (.pointer (some (A 111)))]) (by simp [results, Tryz.results133, asAddr, ld]) rfl ⟨F4, by rw [errV_pos eT A (c := 111) (by decide)]; rfl, (HY.out.1 0 0 ⟨#[]⟩).drew, wD, (HY.out.2 0 0 ⟨#[]⟩).mods0 (Mods.refl [] _).drew⟩)
    · rw [if_pos hct] at hr
      have HR2 := Lib.hid hr
      clear hr HR
      simp only [errV_pos eT A hct] at HTo
      go_enter Tryz.func133, Tryz.ntmps133
      go_wp2_with fail
      refine hsp.mono ?_
      rintro e w1 ⟨v1, rfl, hst, m1⟩
      obtain ⟨A2, c2, rfl, _, _⟩ := id hst
      have x2 := (hx2.mods m1 (by simp)).alloc (.cells #[.slice A2 q.length c2, .bool false] tPath)
      have mA := (m0.then m1).alloc (.cells #[.slice A2 q.length c2, .bool false] tPath)
      have hst2 := hst.mods0 ((Mods.refl [] w1).alloc (.cells #[.slice A2 q.length c2, .bool false] tPath))
      have b1 := (hx1.mods m1 (by simp)).alloc (.cells #[.slice A2 q.length c2, .bool false] tPath)
      clear hsp hx1 hx2
      go_wp2_with fail
      refine (HTo.out _ _ mA hst2).mono ?_
      rintro e w2 ⟨F2, rfl, m2, wi2, hw2⟩
      have hno := fun hf => (h.mods0 mA).noRow (s := tFound) (by decide) (by decide) (by decide) |>.blk x2 hf
      have zb := x2.mods m2 hno
      have lt2 := zb.lt
      have fr := zb.frozen
      have z0 := zb.cell 0
      have z1 := zb.cell 1
      have z2 := zb.cell 2
      simp at z0 z1 z2
      clear HTo
      go_wp2_with fail
      have y2 := putFound_blk (a := 0) (b := 0) (s := ⟨#[]⟩) zb
      have ld := found_ld y2
      have mm := (((Mods.refl [w.heap.size + 1] w2).setCell (p := ⟨w.heap.size + 1, 0, none⟩) (.inl (by simp)) (.int .i64 0)).setCell (p := ⟨w.heap.size + 1, 1, none⟩) (.inl (by simp)) (.int .i64 0)).setCell (p := ⟨w.heap.size + 1, 2, none⟩) (.inl (by simp)) (.string ⟨#[]⟩)
      have mT : Mods F w _ := ((mA.of_nil (G := F)).seq (Within.refl _ _) m2).trans mm (by intro y hy; simp at hy; right; omega)
      have wT : Within w F F2 := (Within.refl w F).trans wi2 mA.size
      refine bodyPost_ret (v := .tuple #[.agg #[.int .i64 0, .int .i64 0, .string ⟨#[]⟩], .iface eT (.pointer (some (A ct)))]) (by simp [results, Tryz.results133, asAddr, ld]) rfl ⟨F2, ?_, mT, wT, hw2.mods mm ?_⟩
      · rw [← HR2.out, errV_pos eT A hct]
        rfl
      · intro g hg hg'
        simp at hg'
        subst hg'
        exact (hw2.noRow (s := tFound) (by decide) (by decide) (by decide)).blk zb hg
  · have hr := HR.out
    rw [if_pos hc] at hr
    rw [errV_pos eT A hc] at hsp
    go_enter Tryz.func133, Tryz.ntmps133
    go_wp2_with fail
    refine hsp.mono ?_
    rintro e w1 ⟨v1, rfl, hst, m1⟩
    obtain ⟨A2, c2, rfl, _, _⟩ := hst
    have x2 := hx2.mods m1 (by simp)
    have lt2 := x2.lt
    have fr := x2.frozen
    have z0 := x2.cell 0
    have z1 := x2.cell 1
    have z2 := x2.cell 2
    simp at z0 z1 z2
    clear hsp hx1 hx2
    go_wp2_with fail
    have y2 := (putFound_blk (a := 0) (b := 0) (s := ⟨#[]⟩) x2).alloc (.cells #[.slice A2 q.length c2, .bool false] tPath)
    have ld := found_ld y2
    have mm := (((Mods.refl [w.heap.size + 1] w1).setCell (p := ⟨w.heap.size + 1, 0, none⟩) (.inl (by simp)) (.int .i64 0)).setCell (p := ⟨w.heap.size + 1, 1, none⟩) (.inl (by simp)) (.int .i64 0)).setCell (p := ⟨w.heap.size + 1, 2, none⟩) (.inl (by simp)) (.string ⟨#[]⟩) |>.alloc (.cells #[.slice A2 q.length c2, .bool false] tPath)
    have mT : Mods [] w _ := (m0.then m1).trans mm (by intro y hy; simp at hy; right; omega)
    refine bodyPost_ret (v := .tuple #[.agg #[.int .i64 0, .int .i64 0, .string ⟨#[]⟩], .iface eT (.pointer (some (A c)))]) (by simp [results, Tryz.results133, asAddr, ld]) rfl ⟨F, ?_, mT.of_nil, Within.refl _ _, h.mods0 mT⟩
    rw [← hr, errV_pos eT A hc]
    rfl
end Go.Proofs.YtaiigmiiidldcaaGreatDoor

namespace Go.Proofs.YtaiigmiiidldcaaGreatDoor
open Go.RowKit Go.Maps
open Go.ChangeMaps (setBlock)

theorem foot_aDel (raw : List (Int × DirG)) (k : Int) : List.Sublist (foot (aDel raw k)) (foot raw) := by
  induction raw with
  | nil => exact List.Sublist.refl _
  | cons x raw ih =>
    obtain ⟨a, u⟩ := x
    simp only [aDel, foot, List.flatMap_cons]
    split
    · exact List.sublist_append_right _ _
    · simp only [List.flatMap_cons]
      exact List.Sublist.append_left ih _

section
variable {w w' : World} {p : Nat} {W : Wld} {t m : Nat} {Ft : List Nat} {raw : List (Int × DirG)}

theorem WldIs.disj (h : WldIs w p W t m Ft raw) : ∀ g ∈ p :: m :: foot raw, g ∉ Ft := by
  obtain ⟨x1, x2⟩ := List.nodup_cons.1 h.nodup
  obtain ⟨x3, x4⟩ := List.nodup_cons.1 x2
  obtain ⟨x5, x6, x7⟩ := List.nodup_append.1 x4
  intro g hg hf
  rcases List.mem_cons.1 hg with rfl | hg
  · exact x1 (by simp [hf])
  rcases List.mem_cons.1 hg with rfl | hg
  · exact x3 (by simp [hf])
  · exact x7 g hf g hg rfl

theorem WldIs.table (h : WldIs w p W t m Ft raw) (mm : Mods Ft w w') {T' : Tbl} {Ft' : List Nat} (hT : TableRep w' t T' Ft') (hw : Within w Ft Ft') (hn : Ft'.Nodup) : WldIs w' p ⟨T', W.δ⟩ t m Ft' raw where
  blk := h.blk.mods mm (h.disj p (by simp))
  tab := hT
  map := h.map.mods mm (h.disj m (by simp))
  dirs r hr := (h.dirs r hr).mods mm (fun g hg => h.disj g (by
    have : g ∈ foot raw := List.mem_flatMap.2 ⟨r, hr, hg⟩
    simp only [List.mem_cons]; right; right; exact this))
  δ := h.δ
  nodup := by
    have hnd := h.nodup
    have hlt := h.lt
    refine nodup_swap (A := [p, m]) (X := Ft) (B := foot raw) hnd hn (fun g hg => ?_)
    rcases hw g hg with h1 | h1
    · exact .inl h1
    · refine .inr ⟨fun h2 => ?_, fun h2 => ?_⟩
      · have := hlt g (by simp at h2; rcases h2 with h2 | h2 <;> simp [h2]); omega
      · have := hlt g (by simp only [List.mem_cons, List.mem_append]; right; right; right; exact h2); omega

theorem WldIs.del (h : WldIs w p W t m Ft raw) (mm : Mods [m] w w') {k : Int} (hm : MapRep w' m intV dirV okInt (aDel raw k)) :
    WldIs w' p ⟨W.T, fun j => if j = k then [] else W.δ j⟩ t m Ft (aDel raw k) := by
  obtain ⟨x1, x2⟩ := List.nodup_cons.1 h.nodup
  obtain ⟨x3, x4⟩ := List.nodup_cons.1 x2
  refine ⟨h.blk.mods mm (by simp; rintro rfl; exact x1 (by simp)), h.tab.mods mm (fun g hg hg' => ?_), hm, fun r hr => (h.dirs r (aDel_mem hr)).mods mm (fun g hg hg' => ?_), fun j => ?_, ?_⟩
  · simp at hg'
    subst hg'
    exact x3 (by simp [hg])
  · simp at hg'
    subst hg'
    have : g ∈ foot raw := List.mem_flatMap.2 ⟨r, aDel_mem hr, hg⟩
    exact x3 (List.mem_append.2 (.inr this))
  · unfold dOf
    rw [aGet_aDel h.map.nodup]
    simp only
    split
    · rfl
    · exact h.δ j
  · exact List.Nodup.sublist (List.Sublist.cons_cons _ (List.Sublist.cons_cons _ (List.Sublist.append_left (foot_aDel raw k) _))) h.nodup
end

/-- What Put leaves. -/
def Wld.put (W : Wld) (n : Nd) : Wld := ⟨W.T.put n, fun j => if j = n.id ∧ ¬ (n.kind = 2 ∧ W.dir n.id = true) then [] else W.δ j⟩

theorem table_Put_yes {w : World} {t : Nat} {T : Tbl} {F : List Nat} (h : TableRep w t T F) {n : Nd} (hn : NdOk n) (hroom : (T.get n.id).2 = true ∨ T.l.length < 512) (h0 : T.l ≠ [] ∨ F = [t]) :
    Calls Tryz.prog 78 #[.pointer (some ⟨t, 0, none⟩), n.val] w fun e w' => e = .returned .nilIface ∧ Mods F w w' ∧ ∃ F', Within w F F' ∧ F'.Nodup ∧ TableRep w' t (T.put n) F' := by
  rcases h with ⟨hb, h1, rfl⟩ | ⟨m, hb, hm, rfl⟩
  · obtain ⟨l, last⟩ := T
    simp only at h1
    subst h1
    refine (table_Put_nil hb hn).mono ?_
    rintro e w' ⟨rfl, m1, m, h2, h3⟩
    have := hb.lt
    refine ⟨rfl, m1, [t, m], fun g hg => ?_, by simp; omega, h2⟩
    simp at hg
    rcases hg with rfl | rfl
    · exact .inl (by simp)
    · exact .inr h3
  · have h0' : T.l ≠ [] := by rcases h0 with h0 | h0; exact h0; simp at h0
    refine (table_Put_some hb hm hn hroom h0').mono ?_
    rintro e w' ⟨rfl, m1, h2⟩
    exact ⟨rfl, m1, [t, m], Within.refl _ _, by simpa using hm.ne_blk hb, h2⟩

set_option maxRecDepth 100000 in
set_option maxHeartbeats 2000000 in
theorem world_PutI {w : World} {p : Nat} {W : Wld} {t m : Nat} {Ft : List Nat} {raw : List (Int × DirG)} (h : WldIs w p W t m Ft raw) {n : Nd} (hn : NdOk n) (hroom : (W.T.get n.id).2 = true ∨ W.T.l.length < 512) (h0 : W.T.l ≠ [] ∨ Ft = [t]) :
    Calls Tryz.prog 202 #[.pointer (some ⟨p, 0, none⟩), n.val] w fun e w' => ∃ F', e = .returned .nilIface ∧ Mods (p :: m :: (Ft ++ foot raw)) w w' ∧ Within w (p :: m :: (Ft ++ foot raw)) F' ∧ WldRep w' p (W.put n) F' := by
  have hid := hn.okid
  have HT := Lib.hid h.tab
  have hb := h.blk
  have hltp := hb.lt
  have c0 := hb.cell 0
  have c1 := hb.cell 1
  simp at c0 c1
  have HP := Lib.hid (fun (w' : World) (h' : TableRep w' t W.T Ft) => table_Put_yes h' hn hroom h0)
  have HG := Lib.hid (fun (w' : World) (h' : TableRep w' t W.T Ft) => table_Get h' n.id hid)
  obtain ⟨W', hW'⟩ : ∃ W', W.put n = W' := ⟨_, rfl⟩
  rw [hW']
  unfold Wld.put Wld.dir at hW'
  have HI := Lib.hid h
  generalize W.T.get n.id = gr at *
  obtain ⟨⟨y1, y2, y3, y4, y5, y6⟩, yb⟩ := gr
  obtain ⟨n1, n2, n3, n4, n5, n6⟩ := n
  simp only [Nd.val] at *
  have HW := Lib.hid hW'
  have hxb := Blk.new w tNd #[.int .i64 n1, .int .i64 n2, .int .i64 n3, .int .i64 n4, .string n5, .int .i64 n6]
  clear h hb hW' hroom h0 hn
  go_enter Tryz.func202, Tryz.ntmps202
  go_upto_region 1 with fail
  go_cut [5, 6] (fun s5 s6 wx => ∃ g5, s5 = .pointer (some ⟨g5, 0, none⟩) ∧ s6 = .bool yb ∧ Blk wx g5 tNd #[.int .i64 y1, .int .i64 y2, .int .i64 y3, .int .i64 y4, .string y5, .int .i64 y6] ∧ Mods [] (w.alloc (.cells #[.int .i64 n1, .int .i64 n2, .int .i64 n3, .int .i64 n4, .string n5, .int .i64 n6] tNd)) wx ∧ w.heap.size < g5)
  case first =>
    have mE := ((Mods.refl [] (w.alloc (.cells #[.int .i64 n1, .int .i64 n2, .int .i64 n3, .int .i64 n4, .string n5, .int .i64 n6] tNd))).drew)
    have mE2 := ((Mods.refl [] (w.alloc (.cells #[.int .i64 n1, .int .i64 n2, .int .i64 n3, .int .i64 n4, .string n5, .int .i64 n6] tNd))).alloc (.cells #[.int .i64 0, .int .i64 0, .int .i64 0, .int .i64 0, .string ⟨#[]⟩, .int .i64 0] tNd)).drew
    have mz := (Mods.refl [] w).alloc (.cells #[.int .i64 n1, .int .i64 n2, .int .i64 n3, .int .i64 n4, .string n5, .int .i64 n6] tNd)
    have k0 := keepDrew (keepAlloc (o := .cells #[.int .i64 n1, .int .i64 n2, .int .i64 n3, .int .i64 n4, .string n5, .int .i64 n6] tNd) c0)
    have j0 := keepDrew (keepAlloc (o := .cells #[.int .i64 0, .int .i64 0, .int .i64 0, .int .i64 0, .string ⟨#[]⟩, .int .i64 0] tNd) (keepAlloc (o := .cells #[.int .i64 n1, .int .i64 n2, .int .i64 n3, .int .i64 n4, .string n5, .int .i64 n6] tNd) c0))
    have k1 := hxb.drew.cell 0
    have j1 := (hxb.alloc (.cells #[.int .i64 0, .int .i64 0, .int .i64 0, .int .i64 0, .string ⟨#[]⟩, .int .i64 0] tNd)).drew.cell 0
    simp only [List.getElem?_toArray, List.getElem?_cons_zero, List.getElem?_cons_succ] at k1 j1
    have jb := (Blk.new (w.alloc (.cells #[.int .i64 n1, .int .i64 n2, .int .i64 n3, .int .i64 n4, .string n5, .int .i64 n6] tNd)) tNd #[.int .i64 0, .int .i64 0, .int .i64 0, .int .i64 0, .string ⟨#[]⟩, .int .i64 0]).drew
    rw [World.size_alloc] at jb
    go_region_held3 (fun w' => w'.cell? ⟨p, 0, none⟩ = some (.pointer (some ⟨t, 0, none⟩)) ∧ w'.cell? ⟨w.heap.size, 0, none⟩ = some (.int .i64 n1)) (refine ⟨?_, ?_⟩ <;> (repeat (first | with_reducible assumption | with_reducible refine keepAlloc ?_ | with_reducible refine keepDrew ?_ | (with_reducible refine keepStore ?_ (by simp; try omega)))))
      (first | (go_at_call 102; refine (HG.out _ (HT.out.mods0 (mz.then ?_))).mono ?_; (repeat (first | exact Mods.refl _ _ | apply Mods.drew | apply Mods.alloc)); rintro e w4 ⟨rfl, m4⟩; have k0 := keepMods m4 (a := ⟨p, 0, none⟩) (by first | exact k0 | exact j0) (by simp); have k1 := keepMods m4 (a := ⟨w.heap.size, 0, none⟩) (by first | exact k1 | exact j1) (by simp); first | (have jb := jb.mods m4 (by simp); have fr := jb.frozen; have z0 := jb.cell 0; have z1 := jb.cell 1; have z2 := jb.cell 2; have z3 := jb.cell 3; have z4 := jb.cell 4; have z5 := jb.cell 5; have mm := mE2.then m4; simp at z0 z1 z2 z3 z4 z5) | (have mm := mE.then m4)))
    all_goals
      go_wp2_with fail
      go_meet
    · exact ⟨_, rfl, rfl, Blk.new _ _ _, mm.alloc _, by have := mm.size; simp at this; omega⟩
    · exact ⟨_, rfl, rfl, putNd_blk jb, putNd_mods mm (.inr (by simp)), by omega⟩
  case rest =>
    obtain ⟨g5, rfl, rfl, hb5, mx, hg5⟩ := hcut
    have hbx := hxb.mods mx (by simp)
    have mwx := ((Mods.refl [] w).alloc (.cells #[.int .i64 n1, .int .i64 n2, .int .i64 n3, .int .i64 n4, .string n5, .int .i64 n6] tNd)).then mx
    have hIx := HI.out.mods0 mwx
    have HIX := Lib.hid hIx
    have k0 := keepMods mwx c0 (by simp)
    have k0' := keepDrew k0
    have x0 := hbx.cell 0
    have x1 := hbx.cell 1
    have x2 := hbx.cell 2
    have x3 := hbx.cell 3
    have x4 := hbx.cell 4
    have x5 := hbx.cell 5
    simp at x0 x1 x2 x3 x4 x5
    have hbxd := hbx.drew
    have d0 := hbxd.cell 0
    have d1 := hbxd.cell 1
    have d2 := hbxd.cell 2
    have d3 := hbxd.cell 3
    have d4 := hbxd.cell 4
    have d5 := hbxd.cell 5
    simp at d0 d1 d2 d3 d4 d5
    clear hxb HT
    go_upto_region 2 with fail
    go_region_held3 (fun w' => w'.cell? ⟨p, 0, none⟩ = some (.pointer (some ⟨t, 0, none⟩)) ∧ w'.cell? ⟨w.heap.size, 0, none⟩ = some (.int .i64 n1) ∧ w'.cell? ⟨w.heap.size, 1, none⟩ = some (.int .i64 n2) ∧ w'.cell? ⟨w.heap.size, 2, none⟩ = some (.int .i64 n3) ∧ w'.cell? ⟨w.heap.size, 3, none⟩ = some (.int .i64 n4) ∧ w'.cell? ⟨w.heap.size, 4, none⟩ = some (.string n5) ∧ w'.cell? ⟨w.heap.size, 5, none⟩ = some (.int .i64 n6)) (refine ⟨?_, ?_, ?_, ?_, ?_, ?_, ?_⟩ <;> (repeat (first | with_reducible assumption | with_reducible refine keepDrew ?_)))
      (first | (go_at_call 78; refine (HP.out _ (HIX.out.tab.mods0 (Mods.refl [] _).drew)).mono ?_; rintro e wy ⟨rfl, my, Ft', wt, hnt, hTy⟩; have hbp := HIX.out.blk.drew.mods my (HIX.out.disj p (by simp)); have hby := hbxd.mods my ((HIX.out.tab.noRow (s := tNd) (by decide)).blk hbx); have hb5y := hb5.drew.mods my ((HIX.out.tab.noRow (s := tNd) (by decide)).blk hb5); have e0 := hbp.cell 0; have e1 := hbp.cell 1; have f0 := hby.cell 0; have f1 := hby.cell 1; have f2 := hby.cell 2; have f3 := hby.cell 3; have f4 := hby.cell 4; have f5 := hby.cell 5; have r1 := hb5y.cell 1; simp at e0 e1 f0 f1 f2 f3 f4 f5 r1))
    have hWy := (HIX.out.mods0 (Mods.refl [] _).drew).table my hTy wt hnt
    obtain ⟨wz, hd1, mdz, hsz, hmz⟩ := hWy.map.drew.delete intEnc Tryz.underlying129 (k := n1) hid
    simp only [intV] at hd1
    have hWz := (hWy.mods0 (Mods.refl [] _).drew).del mdz hmz
    have mwy : Mods (p :: m :: (Ft ++ foot raw)) w wy := (mwx.drew.of_nil (G := p :: m :: (Ft ++ foot raw))).seq (Within.refl _ _) (my.mono (fun g hg => by simp [hg]))
    have mwz : Mods (p :: m :: (Ft ++ foot raw)) w wz := mwy.drew.seq (Within.refl _ _) (mdz.mono (fun g hg => by simp at hg; simp [hg]))
    have hsubY : Within w (p :: m :: (Ft ++ foot raw)) (p :: m :: (Ft' ++ foot raw)) := by
      intro g hg
      simp only [List.mem_cons, List.mem_append] at hg ⊢
      rcases hg with h | h | h | h
      · exact .inl (.inl h)
      · exact .inl (.inr (.inl h))
      · rcases wt g h with h | h
        · exact .inl (.inr (.inr (.inl h)))
        · exact .inr (Nat.le_trans mwx.size h)
      · exact .inl (.inr (.inr (.inr h)))
    have hsub : Within w (p :: m :: (Ft ++ foot raw)) (p :: m :: (Ft' ++ foot (aDel raw n1))) := fun g hg => hsubY g (List.Sublist.subset (List.Sublist.cons_cons _ (List.Sublist.cons_cons _ (List.Sublist.append_left (foot_aDel raw n1) _))) hg)
    have q0 := keepDrew e0
    have q1 := keepDrew e1
    have ltp := hbp.lt
    have HWY := Lib.hid hWy
    have HWZ := Lib.hid hWz
    have HSUB := Lib.hid hsub
    clear hWy hWz hsub hmz hsz hIx
    by_cases hk : n2 = 2
    · by_cases hy : yb = true ∧ y2 = 2
      · have hWW : (⟨W.T.put ⟨n1, n2, n3, n4, n5, n6⟩, W.δ⟩ : Wld) = W' := by
          rw [← HW.out]
          congr 1
          funext j
          rw [if_neg (fun h => h.2 ⟨hk, by simp [hy.1, hy.2]⟩)]
        have HF := HWY.out.rep
        rw [hWW] at HF
        have HFF := Lib.hid HF
        clear hWW HF
        obtain ⟨rfl, rfl⟩ := hy
        subst hk
        clear hd1
        go_wp2_with fail
        go_ret
        exact ⟨rfl, mwy, _, hsubY, HFF.out⟩
      · have hWW : (⟨W.T.put ⟨n1, n2, n3, n4, n5, n6⟩, fun j => if j = n1 then [] else W.δ j⟩ : Wld) = W' := by
          rw [← HW.out]
          congr 1
          funext j
          have : ¬ (n2 = 2 ∧ (yb && y2 == 2) = true) := fun h => hy (by simpa using h.2)
          by_cases hj : j = n1
          · rw [if_pos hj, if_pos ⟨hj, this⟩]
          · rw [if_neg hj, if_neg (fun h => hj h.1)]
        subst hk
        cases yb
        · go_wp2_with fail
          go_region
          go_wp2_with fail
          go_ret
          have HF := HWZ.out.rep
          rw [hWW] at HF
          first | exact ⟨_, rfl, mwz, HSUB.out, HF⟩ | exact ⟨rfl, mwz, _, HSUB.out, HF⟩ | exact ⟨_, mwz, HSUB.out, HF⟩ | exact ⟨mwz, _, HSUB.out, HF⟩
        · have hy2 : (y2 != 2) = true := by simpa using hy
          go_wp2_with fail
          go_region
          go_wp2_with fail
          go_ret
          have HF := HWZ.out.rep
          rw [hWW] at HF
          first | exact ⟨_, rfl, mwz, HSUB.out, HF⟩ | exact ⟨rfl, mwz, _, HSUB.out, HF⟩ | exact ⟨_, mwz, HSUB.out, HF⟩ | exact ⟨mwz, _, HSUB.out, HF⟩
    · have hWW : (⟨W.T.put ⟨n1, n2, n3, n4, n5, n6⟩, fun j => if j = n1 then [] else W.δ j⟩ : Wld) = W' := by
        rw [← HW.out]
        congr 1
        funext j
        have : ¬ (n2 = 2 ∧ (yb && y2 == 2) = true) := fun h => hk h.1
        by_cases hj : j = n1
        · rw [if_pos hj, if_pos ⟨hj, this⟩]
        · rw [if_neg hj, if_neg (fun h => hj h.1)]
      have hk2 : (n2 != 2) = true := by simpa using hk
      go_wp2_with fail
      go_region
      go_wp2_with fail
      go_ret
      have HF := HWZ.out.rep
      rw [hWW] at HF
      first | exact ⟨_, rfl, mwz, HSUB.out, HF⟩ | exact ⟨rfl, mwz, _, HSUB.out, HF⟩ | exact ⟨_, mwz, HSUB.out, HF⟩ | exact ⟨mwz, _, HSUB.out, HF⟩

theorem world_Put {w : World} {p : Nat} {W : Wld} {F : List Nat} (h : WldRep w p W F) {n : Nd} (hn : NdOk n) (hroom : (W.T.get n.id).2 = true ∨ W.T.l.length < 512) (h0 : W.T.l ≠ []) :
    Calls Tryz.prog 202 #[.pointer (some ⟨p, 0, none⟩), n.val] w fun e w' => ∃ F', e = .returned .nilIface ∧ Mods F w w' ∧ Within w F F' ∧ WldRep w' p (W.put n) F' := by
  obtain ⟨t, m, Ft, raw, h, rfl⟩ := h
  exact world_PutI h hn hroom (.inl h0)
end Go.Proofs.YtaiigmiiidldcaaGreatDoor

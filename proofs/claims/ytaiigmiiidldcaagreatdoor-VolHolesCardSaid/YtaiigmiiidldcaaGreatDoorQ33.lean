/- Package vol: Read, where all goes well; The chapter's examples: first; A volume with one file: plain laws on its blocks and bytes; Write and Read of it. -/
import Derived.Test.YtaiigmiiidldcaaGreatDoorQ32
set_option linter.unusedSimpArgs false
set_option linter.unusedVariables false
namespace Go.Proofs.YtaiigmiiidldcaaGreatDoor
open Go.RowKit Go.Maps
open Go.ChangeMaps (setBlock)

/-- Bytes read, block by block. -/
def readN (B : Bod) (n : Int) (l : List Pc) : List UInt8 := l.flatMap fun p => (((B.blk (n, p.index)).getD []).take p.to_.toNat).drop p.from_.toNat

theorem readN_snoc (B : Bod) (n : Int) {l : List Pc} {k : Nat} {p : Pc} (h : l[k]? = some p) : readN B n (l.take (k + 1)) = readN B n (l.take k) ++ (((B.blk (n, p.index)).getD []).take p.to_.toNat).drop p.from_.toNat := by
  unfold readN
  rw [List.take_add_one, h]
  simp

theorem FilesRep.noRowB {w : World} {f : Nat} {D : List (Int × Hd)} {F : List Nat} (h : FilesRep w f D F) : NoBytes w F := h.noRow (by decide)
theorem ownsRow_mods0 {w w' : World} {base n size : Nat} {e : TypeId} {v : Value} {xs : List Value} (h : w.ownsRow base e size v n xs) (m : Mods [] w w') : w'.ownsRow base e size v n xs := by
  refine ⟨h.1, ?_⟩
  rcases h.2 with h1 | ⟨g, cap, cur, e, hb, hh, r⟩
  · exact .inl h1
  · exact .inr ⟨g, cap, cur, e, hb, m.at hh (by simp), r⟩

set_option maxRecDepth 100000 in
set_option maxHeartbeats 4000000 in
theorem vol_Read_ok {B0 : Nat} {A : Nat → Addr} {L : List Nat} {w : World} (G : Glob B0 A L w) {v : Nat} {S : VolSt} {F : List Nat} (h : VolRep w v S F) (fd : Int) (hfd : okInt fd) {xn : Int} {a : Nat} (hx : aGet S.D fd = some ⟨xn, (a : Int)⟩) (hxn : okInt xn) {n : Nd} (hnd : (S.W.T.get xn).1 = n) (hid1 : 1 ≤ n.id) (hid2 : n.id ≤ 16777215)
    (c : Int) (hc : 0 ≤ c) (hc2 : c ≤ 1099511627776) (ha : (a : Int) < n.size) (hs : n.size ≤ 16384) {M : Nat} (hM : (M : Int) = min (min c 1024) (n.size - a)) (hM1 : 1 ≤ M)
    (hlost : ∀ p ∈ piecesN M (a : Int) (M : Int), ∃ l, S.B.blk (n.id, p.index) = some l) :
    Calls Tryz.prog 22 #[.pointer (some ⟨v, 0, none⟩), .int .i64 fd, .int .i64 c] w fun e w' => ∃ vo, e = .returned (.tuple #[vo, .nilIface]) ∧ Bytes w' vo (readN S.B n.id (piecesN M (a : Int) (M : Int))) ∧ Mods F w w' ∧ VolRep w' v ⟨S.W, S.B, aPut S.D fd ⟨xn, (a : Int) + (M : Int)⟩, S.q⟩ F := by
  obtain ⟨t, b, f, Ft, Fb, Ff, hv, hFe⟩ := id h
  have haM : a + M ≤ 16384 := by omega
  have hMk : M ≤ 1024 := by omega
  have hMe : min (min c 1024) (n.size - (a : Int)) = (M : Int) := hM.symm
  obtain ⟨pf1, pf2, pf3, pf4⟩ := pieces_facts M a M (Nat.le_refl _) haM
  obtain ⟨pf5, pf6⟩ := pf4 hM1
  have hat := vol_at_yes h fd hfd hx hxn
  rw [hnd] at hat
  generalize hle : piecesN M (a : Int) (M : Int) = l at *
  have HLE := Lib.hid hle
  have HH := Lib.hid h
  have HX := Lib.hid hx
  have HLOST := Lib.hid hlost
  have hvlt := h.vlt
  have hlF := h.lt
  obtain ⟨y1, y2, y3, y4, y5, y6⟩ := n
  simp only [Hd.val, Nd.val] at *
  have HV := Lib.hid hv
  have c1 := hv.blk.cell 1
  have c2 := hv.blk.cell 2
  simp only [List.getElem?_toArray, List.getElem?_cons_zero, List.getElem?_cons_succ] at c1 c2
  have HFE := Lib.hid hFe
  have HPF1 := Lib.hid pf1
  have hcn : ¬ (c < 0) := by omega
  have hgn : ¬ (y4 ≤ (a : Int)) := by omega
  have hsz := G.size
  have HME := Lib.hid hMe
  clear h hx hlost hnd pf1 pf2 pf4 pf5 hle hv hFe hM hMe
  go_enter Tryz.func22, Tryz.ntmps22
  go_wp2_with fail
  refine hat.mono ?_
  rintro e w1 ⟨rfl, m1⟩
  clear hat
  have mA := (m1.alloc (.cells #[.int .i64 xn, .int .i64 (a : Int)] tHandle)).alloc (.cells #[.int .i64 y1, .int .i64 y2, .int .i64 y3, .int .i64 y4, .string y5, .int .i64 y6] tNd)
  have hb1 := (Blk.new w1 tHandle #[.int .i64 xn, .int .i64 (a : Int)]).alloc (.cells #[.int .i64 y1, .int .i64 y2, .int .i64 y3, .int .i64 y4, .string y5, .int .i64 y6] tNd)
  have nb1 := Blk.new (w1.alloc (.cells #[.int .i64 xn, .int .i64 (a : Int)] tHandle)) tNd #[.int .i64 y1, .int .i64 y2, .int .i64 y3, .int .i64 y4, .string y5, .int .i64 y6]
  rw [World.size_alloc] at nb1
  have sz1 := m1.size
  have hMe := HME.out
  have hPc := span_Pieces (w := (w1.alloc (.cells #[.int .i64 xn, .int .i64 (a : Int)] tHandle)).alloc (.cells #[.int .i64 y1, .int .i64 y2, .int .i64 y3, .int .i64 y4, .string y5, .int .i64 y6] tNd)) (a : Int) (M : Int) (by omega) (by omega) (by omega) (by omega)
  rw [Int.toNat_natCast, HLE.out] at hPc
  have HPC := Lib.hid hPc
  clear hPc
  go_wp2_with fail
  refine HPC.out.mono ?_
  rintro e w3 ⟨vr, rfl, hrow, m3⟩
  clear HPC hMe
  obtain ⟨gp, cp, rfl, hgp, hcp, hpb⟩ := PcRow.blk hrow pf6
  have m4 := mA.then m3
  have nb3 := nb1.mods0 m3
  have hb3 := hb1.mods0 m3
  have HPB := Lib.hid hpb
  obtain ⟨i0, hin, hz0, hz1, hz2⟩ := info_parts info_u8
  have HIN := Lib.hid hin
  clear hrow hb1 nb1 hpb hin
  go_wp2_with fail
  go_loopw [11, 50] (fun s11 s50 wr => ∃ k : Nat, k ≤ l.length ∧ s50 = .int .i64 k ∧ Mods [] w3 wr ∧ (readN S.B y1 (l.take k)).length ≤ 256 * k ∧ wr.ownsRow w3.heap.size tU8 1 s11 (readN S.B y1 (l.take k)).length ((readN S.B y1 (l.take k)).map bV)) (fun _ s50 _ => l.length - (intOf s50).toNat)
  case atStart => exact ⟨0, Nat.zero_le _, rfl, Mods.refl _ _, by simp [readN], World.ownsRow_nil _ _ _ _⟩
  case round =>
    obtain ⟨k, hk, rfl, mr, hlr, hown⟩ := hrel
    have nb4 := nb3.mods0 mr
    have hb4 := hb3.mods0 mr
    have mwr := m4.then mr
    by_cases hlt : k < l.length
    · obtain ⟨p, hp⟩ : ∃ p, l[k]? = some p := ⟨_, List.getElem?_eq_getElem hlt⟩
      have hpo := HPF1.out p (List.mem_of_getElem? hp)
      obtain ⟨ol, hol⟩ := HLOST.out p (List.mem_of_getElem? hp)
      obtain ⟨q0, q1, q2⟩ := (HPB.out.mods0 mr).at hp
      have hsn := readN_snoc S.B y1 hp
      rw [hol] at hsn
      obtain ⟨pi, pf, pt⟩ := p
      obtain ⟨i0', i1, f0, ft, t1⟩ := hpo
      simp only at i0' i1 f0 ft t1 q0 q1 q2 hol hsn
      obtain ⟨fN, rfl⟩ := Int.eq_ofNat_of_zero_le f0
      obtain ⟨tN, rfl⟩ := Int.eq_ofNat_of_zero_le (show 0 ≤ pt by omega)
      simp only [Option.getD_some, Int.toNat_natCast] at hsn
      have hN1 : fN < tN := by omega
      have hN2 : tN ≤ 256 := by omega
      have hoc : okCel (y1, pi) := ⟨⟨by omega, by omega⟩, ⟨by omega, by omega⟩⟩
      have mP := (Mods.refl [] wr).alloc (.cells #[.int .i64 pi, .int .i64 (fN : Int), .int .i64 (tN : Int)] tPiece)
      have pb := Blk.new wr tPiece #[.int .i64 pi, .int .i64 (fN : Int), .int .i64 (tN : Int)]
      have p0 := pb.cell 0
      have p1 := pb.cell 1
      have p2 := pb.cell 2
      have n0 := (nb4.mods0 mP).cell 0
      simp only [List.getElem?_toArray, List.getElem?_cons_zero, List.getElem?_cons_succ] at p0 p1 p2 n0
      have v1 := keepMods (mwr.then mP) c1 (by simp)
      have mPD := (mwr.then mP).drew
      have HGet := Lib.hid (fun (w' : World) (m' : Mods [] w w') => body_Get_blk (HV.out.body.mods0 m') (y1, pi) hoc hol)
      simp only [celV] at HGet
      have hltv := World.block_lt_of_cell? _ _ v1
      have hltn := World.block_lt_of_cell? _ _ n0
      simp only [World.size_alloc] at hltv hltn
      generalize hacc : readN S.B y1 (l.take k) = acc at *
      have HSN := Lib.hid hsn
      have HP := Lib.hid hp
      clear hp hol hsn hacc
      go_wp2_with fail
      go_region_held3 (fun w' => w'.cell? ⟨v, 1, none⟩ = some (.pointer (some ⟨b, 0, none⟩)) ∧ w'.cell? ⟨w1.heap.size + 1, 0, none⟩ = some (.int .i64 y1) ∧ w'.cell? ⟨wr.heap.size, 0, none⟩ = some (.int .i64 pi)) (refine ⟨?_, ?_, ?_⟩ <;> (repeat (first | with_reducible assumption | with_reducible refine keepAlloc ?_ | with_reducible refine keepDrew ?_)))
        (first
          | (go_at_call 60; refine (HGet.out _ mPD).mono ?_; rintro e w5 ⟨vo, rfl, m5, hbo, hl256⟩; have v1 := keepMods m5 (keepDrew v1) (by simp); have n0 := keepMods m5 (keepDrew n0) (by simp); have p0 := keepMods m5 (keepDrew p0) (by simp); have p1 := keepMods m5 (keepDrew p1) (by simp); have p2 := keepMods m5 (keepDrew p2) (by simp); have HL256 := Lib.hid hl256; have hol0 : ol ≠ [] := by rintro rfl; cases hl256
             clear hl256; obtain ⟨A7, c7, rfl, hc7, hcl7⟩ := id hbo; obtain ⟨g7, o7, rfl, hrow7, hcell7⟩ := hcl7 hol0; have hc7' : tN ≤ c7 := by rw [HL256.out] at hc7; omega
             have hc7n : ¬ (c7 = fN) := by omega
             have hfle : fN ≤ tN := by omega
             have HC7 := Lib.hid hcell7; clear hcell7 hcl7))
      have m35 : Mods [] w3 w5 := ((mr.then mP).drew).then m5
      have hown5 := ownsRow_mods0 (ownsRow_mods0 hown mP) (((Mods.refl [] _).drew).then m5)
      have hnl : (((ol.take tN).drop fN).map bV).length = tN - fN := by
        have := HL256.out
        rw [List.length_map, List.length_drop, List.length_take]; omega
      have hsz5 := m35.size
      have hnews : ∀ j u, (((ol.take tN).drop fN).map bV)[j]? = some u → w5.cell? ((⟨g7, o7 + fN, none⟩ : Addr).add j) = some u := by
        intro j u hj
        rw [List.getElem?_map, List.getElem?_drop, List.getElem?_take] at hj
        split at hj
        · cases hx : ol[fN + j]? with
          | none => rw [hx] at hj; cases hj
          | some y =>
            rw [hx] at hj
            rw [Addr.add_lit, Nat.add_assoc]
            exact (HC7.out _ y hx).trans hj
        · cases hj
      have HNEWS := Lib.hid hnews
      have HNL := Lib.hid hnl
      clear hnews hnl hbo
      go_wp2_with (at_builtin; refine wpList_append_lies _ rfl (Operand.tmp 70) (Operand.tmp 76) tBytes rfl tU8 i0 (.int .u8 0) 1 1 Tryz.underlying32 HIN.out hz0 hz1 hz2 rfl (by decide) u11 acc.length (acc.map bV) rfl (base := w3.heap.size) hown5 ⟨g7, o7 + fN, none⟩ (tN - fN) (c7 - fN) (((ol.take tN).drop fN).map bV) rfl ?c5 HNEWS.out ?c7 ?c8 ?c9 ?c10 hsz5 _ rfl ?_; rotate_right; intro g cap w6 hown6 hgr hat6 hlt6)
      case c5 => rw [HNL.out, Nat.mul_one]
      case c7 =>
        intro u hu
        obtain ⟨y, _, rfl⟩ := List.mem_map.1 hu
        rfl
      case c8 => omega
      case c9 => unfold maxLen; omega
      case c10 => omega
      have m36 : Mods [] w3 w6 := m35.grown hgr (fun q hq => .inr (by
        rcases Nat.lt_or_ge q w3.heap.size with h1 | h1
        · exact absurd hq.symm (row_ne_low hown5 h1)
        · exact h1))
      go_roundw
      case rel =>
        have hal : (acc ++ (ol.take tN).drop fN).length = acc.length + (tN - fN) := by
          have := HNL.out
          rw [List.length_map] at this
          rw [List.length_append, this]
        refine ⟨k + 1, by omega, by go_num, m36, ?_, ?_⟩
        · rw [HSN.out, hal]; omega
        · rw [HSN.out, hal, List.map_append]; exact hown6
      case measure => simp [intOf]; omega
    · obtain rfl : k = l.length := by omega
      rw [List.take_length] at hown hlr
      have hby := Bytes.of_own hown
      have v2 := keepMods mwr c2 (by simp)
      have h1c := hb4.cell 1
      simp only [List.getElem?_toArray, List.getElem?_cons_zero, List.getElem?_cons_succ] at h1c
      have HMV := Lib.hid (fun (w' : World) (m' : Mods [] w w') => files_Move_yes (HV.out.files.mods0 m') fd hfd HX.out ((a : Int) + (M : Int)) (by omega) (by omega))
      have hvf : v ∉ Ff := HV.out.own.2.2
      have hnh : w1.heap.size ∉ Ff := fun hg => by have := HV.out.files.lt' _ hg; omega
      have mD := mwr.drew
      have hwrap : IntKind.i64.wrap ((a : Int) + (M : Int)) = (a : Int) + (M : Int) := IntWalk.i64_in _ (by omega)
      have hltv := World.block_lt_of_cell? _ _ v2
      have hlth := World.block_lt_of_cell? _ _ h1c
      simp only at hltv hlth
      have HBY := Lib.hid hby
      obtain ⟨R, hR⟩ : ∃ R, readN S.B y1 l = R := ⟨_, rfl⟩
      have HR := Lib.hid hR
      clear hown hby hlr hR
      go_wp2_with fail
      go_region_held3 (fun w' => w'.cell? ⟨v, 2, none⟩ = some (.pointer (some ⟨f, 0, none⟩)) ∧ w'.cell? ⟨w1.heap.size, 1, none⟩ = some (.int .i64 (a : Int))) (refine ⟨?_, ?_⟩ <;> (repeat (first | with_reducible assumption | with_reducible refine keepAlloc ?_ | with_reducible refine keepDrew ?_)))
        (first
          | (go_at_call 57; refine (HMV.out _ mD).mono ?_; rintro e w5 ⟨rfl, m5, hF5⟩; have v2 := keepMods m5 (keepDrew v2) hvf; have h1c := keepMods m5 (keepDrew h1c) hnh))
      clear hwrap
      go_wp2_with fail
      go_ret2
      have hbz := (HBY.out.mods0 (Mods.refl [] _).drew).mods m5 (HV.out.files.mods0 mD).noRowB
      refine ⟨_, rfl, hbz, mD.of_nil.trans m5 (fun g hg => .inl (by rw [HFE.out]; simp [hg])), ⟨t, b, f, Ft, Fb, Ff, (HV.out.mods mD (by simp) (by intro g hg; cases hg)).setFiles m5 hF5 (Within.refl _ _), HFE.out⟩⟩
end Go.Proofs.YtaiigmiiidldcaaGreatDoor

namespace Go.Proofs.YtaiigmiiidldcaaGreatDoor
open Go.RowKit Go.Maps
open Go.ChangeMaps (setBlock)

set_option maxRecDepth 100000 in
set_option maxHeartbeats 2000000 in
/-- Read behind the end. -/
theorem vol_Read_end {w : World} {v : Nat} {S : VolSt} {F : List Nat} (h : VolRep w v S F) (fd : Int) (hfd : okInt fd) {x : Hd} (hx : aGet S.D fd = some x) (hxn : okInt x.node) {n : Nd} (hnd : (S.W.T.get x.node).1 = n) (c : Int) (hc : 0 ≤ c) (ha : n.size ≤ x.pos) :
    Calls Tryz.prog 22 #[.pointer (some ⟨v, 0, none⟩), .int .i64 fd, .int .i64 c] w fun e w' => e = .returned (.tuple #[.slice none 0 0, .nilIface]) ∧ Mods [] w w' := by
  have hat := vol_at_yes h fd hfd hx hxn
  rw [hnd] at hat
  obtain ⟨y1, y2, y3, y4, y5, y6⟩ := n
  obtain ⟨xn, a⟩ := x
  simp only [Hd.val, Nd.val] at *
  have hcn : ¬ (c < 0) := by omega
  have hvlt := h.vlt
  clear h hx hnd
  go_enter Tryz.func22, Tryz.ntmps22
  go_wp2_with fail
  refine hat.mono ?_
  rintro e w1 ⟨rfl, m1⟩
  clear hat
  go_wp2_with fail
  go_ret2
  exact ⟨rfl, (m1.alloc _).alloc _⟩

/-- One file by one name, nothing in it, open. -/
def fileS (q : Int) (nm : ByteArray) : VolSt := ⟨W0.make 1 1 nm, ⟨[], []⟩, [(0, ⟨2, 0⟩)], q⟩
def newS (q : Int) : VolSt := ⟨W0, ⟨[], []⟩, [], q⟩

theorem W0_ok : WldOk W0 := ⟨fun p hp => by
  simp only [W0, List.mem_cons, List.mem_nil_iff, or_false] at hp
  subst hp
  exact rootNd_ok, fun i p hp => by simp [W0] at hp⟩
theorem W0_nl : NoLink W0 := fun p hp => by
  simp only [W0, List.mem_cons, List.mem_nil_iff, or_false] at hp
  subst hp
  decide
theorem newS_B (q : Int) : VolB (newS q) := ⟨by simp [newS, W0], by simp [newS, W0], by
  show W0.ents ≤ 1000000
  rw [show W0.ents = 0 by kernel_rfl]; omega, by simp [newS]⟩

/-- A letter that may be a file's name. -/
structure Letter (c : UInt8) : Prop where
  parse : parse ⟨#[47, c]⟩ = (0, ⟨[⟨#[c]⟩], false⟩)
  look : (look1 W0 ⟨#[47, c]⟩).1 = 109
  fresh : fresh1 W0 ⟨[⟨#[c]⟩], false⟩ false = (0, 1, 0, ⟨#[c]⟩)
  name : NameOk ⟨#[c]⟩
  ents : (W0.make 1 1 ⟨#[c]⟩).ents = 1

theorem letter_a : Letter 97 := ⟨by kernel_rfl, by kernel_rfl, by kernel_rfl, by constructor <;> decide, by kernel_rfl⟩
theorem letter_f : Letter 102 := ⟨by kernel_rfl, by kernel_rfl, by kernel_rfl, by constructor <;> decide, by kernel_rfl⟩

theorem mk_letter {c : UInt8} (h : Letter c) : MkOk W0 ⟨#[47, c]⟩ 1 ⟨[⟨#[c]⟩], false⟩ 1 0 ⟨#[c]⟩ := {
  ok := W0_ok
  nl := W0_nl
  parse := h.parse
  fresh := h.fresh
  l0 := by decide
  l1 := by decide
  room := by decide
  ne := by simp [W0]
  d1 := by decide
  d2 := by decide
  dir := by kernel_rfl
  no := rfl
  nm := h.name }

theorem fileS_len (q : Int) (nm : ByteArray) : (fileS q nm).W.T.l.length = 2 := by kernel_rfl
theorem fileS_B (q : Int) {c : UInt8} (h : Letter c) : VolB (fileS q ⟨#[c]⟩) := by
  refine ⟨fun e => ?_, ?_, ?_, ?_⟩
  · have h1 := congrArg List.length e
    rw [fileS_len] at h1
    simp at h1
  · rw [fileS_len]; omega
  · show (W0.make 1 1 ⟨#[c]⟩).ents ≤ _
    rw [h.ents]; omega
  · simp [fileS]
theorem fileS_charge (q : Int) {c : UInt8} (h : Letter c) : (fileS q ⟨#[c]⟩).charge = 3 := by
  unfold VolSt.charge
  rw [fileS_len]
  show 2 + (W0.make 1 1 ⟨#[c]⟩).ents + 0 = 3
  rw [h.ents]

theorem vol_open0 {B0 : Nat} {A : Nat → Addr} {L : List Nat} {w : World} (G : Glob B0 A L w) (hM : MaxCell w) {v : Nat} {q : Int} (hq : 3 ≤ q) {F : List Nat} (h : VolRep w v (newS q) F) (hF : ∀ g ∈ F, B0 ≤ g) {c : UInt8} (hl : Letter c) :
    Calls Tryz.prog 16 #[.pointer (some ⟨v, 0, none⟩), .string ⟨#[47, c]⟩, .bool true] w fun e w' => e = .returned (.tuple #[.int .i64 0, .nilIface]) ∧ ∃ F', Mods F w w' ∧ Within w F F' ∧ VolRep w' v (fileS q ⟨#[c]⟩) F' :=
  vol_Open_new G hM h hF (mk_letter hl) hl.look 0 (by decide) (fun j hj => by omega) rfl (S' := fileS q ⟨#[c]⟩) rfl (newS_B q) (fileS_B q hl) (.inl (by rw [fileS_charge q hl]; exact hq))

/-- The node of the file. -/
def fileN (size : Int) : Nd := ⟨2, 1, 1, size, ByteArray.empty, 0⟩
theorem fileN_ok {s : Int} (h0 : 0 ≤ s) (h1 : s ≤ 16384) : NdOk (fileN s) := ⟨show (1 : Int) ≤ 2 by decide, show (2 : Int) ≤ 16777215 by decide, show (0 : Int) ≤ 1 by decide, show (1 : Int) ≤ 16 by decide, h0, h1, .inl ⟨rfl, rfl, rfl⟩⟩
end Go.Proofs.YtaiigmiiidldcaaGreatDoor

namespace Go.Proofs.YtaiigmiiidldcaaGreatDoor
open Go.RowKit Go.Maps
open Go.ChangeMaps (setBlock)

/-- Nothing is lost. -/
def NoLost (B : Bod) : Prop := ∀ c, ∃ l, B.blk c = some l

theorem noLost_nil : NoLost ⟨[], []⟩ := fun c => ⟨_, rfl⟩
theorem bodOk_nil : BodOk ⟨[], []⟩ := ⟨by simp, by simp, by simp⟩

theorem layN_noLost (n : Int) (hn : okInt n) : ∀ (k : Nat) (B : Bod) (a : Nat) (b : List UInt8), BodOk B → NoLost B → b.length ≤ k → a + b.length ≤ 1099511627776 → NoLost (layN B n (piecesN k (a : Int) (b.length : Int)) b) := by
  intro k
  induction k with
  | zero =>
    intro B a b h hl hk _
    obtain rfl : b = [] := List.eq_nil_of_length_eq_zero (by omega)
    simpa [piecesN, layN] using hl
  | succ k ih =>
    intro B a b h hl hk ha
    by_cases hb : b = []
    · subst hb
      simp only [List.length_nil, Int.ofNat_eq_natCast, Int.natCast_zero]
      rw [piecesN_zero, layN]
      exact hl
    · have hp : 0 < b.length := List.length_pos_iff.2 hb
      have hs1 : stepN a b.length ≤ b.length := by unfold stepN; omega
      have hs2 : a % 256 + stepN a b.length ≤ 256 := by unfold stepN; omega
      have hs3 : 0 < stepN a b.length := by unfold stepN; omega
      have ht : (b.take (stepN a b.length)).length = stepN a b.length := by simp only [List.length_take]; omega
      rw [layN_succ B n k a b hb]
      refine ih _ _ _ (Bod.put_ok h _ (okCel_nat hn (by omega)) _ _ (by rw [ht]; exact hs2)) (fun c => ?_) (by simp only [List.length_drop]; omega) (by simp only [List.length_drop]; omega)
      rw [Bod.put_blk h _ _ _ (by rw [ht]; exact hs2)]
      split
      · exact ⟨_, rfl⟩
      · exact hl c

theorem readN_byte (n : Int) : ∀ (k : Nat) (B : Bod) (a m : Nat), BodOk B → NoLost B → m ≤ k → readN B n (piecesN k (a : Int) (m : Int)) = (List.range m).map fun i => B.byte n (a + i) := by
  intro k
  induction k with
  | zero =>
    intro B a m h hl hk
    obtain rfl : m = 0 := by omega
    simp [piecesN, readN]
  | succ k ih =>
    intro B a m h hl hk
    by_cases h0 : m = 0
    · subst h0
      simp [piecesN, readN]
    · rw [piecesN_succ k a m h0]
      have hs1 : stepN a m ≤ m := by unfold stepN; omega
      have hs2 : a % 256 + stepN a m ≤ 256 := by unfold stepN; omega
      have hs3 : 0 < stepN a m := by unfold stepN; omega
      generalize stepN a m = s at *
      have hrec := ih B (a + s) (m - s) h hl (by omega)
      have hcons : ∀ (p : Pc) (l : List Pc), readN B n (p :: l) = (((B.blk (n, p.index)).getD []).take p.to_.toNat).drop p.from_.toNat ++ readN B n l := fun p l => by simp [readN]
      rw [hcons, hrec]
      simp only [Int.toNat_natCast]
      obtain ⟨bl, hbl⟩ := hl (n, ((a / 256 : Nat) : Int))
      have hbl2 := h.blk hbl
      rw [hbl, Option.getD_some]
      apply List.ext_getElem?
      intro i
      by_cases hi : i < s
      · rw [List.getElem?_append_left (by rw [List.length_drop, List.length_take]; omega), List.getElem?_drop, List.getElem?_take, if_pos (by omega), List.getElem?_map, List.getElem?_range (by omega)]
        simp only [Option.map_some]
        unfold Bod.byte
        have e1 : (a + i) / 256 = a / 256 := by omega
        have e2 : (a + i) % 256 = a % 256 + i := by omega
        rw [e1, e2, hbl, Option.getD_some, List.getElem?_eq_getElem (by omega)]
        rfl
      · rw [List.getElem?_append_right (by rw [List.length_drop, List.length_take]; omega)]
        have e3 : i - ((bl.take (a % 256 + s)).drop (a % 256)).length = i - s := by rw [List.length_drop, List.length_take]; omega
        rw [e3, List.getElem?_map, List.getElem?_map]
        by_cases hi2 : i < m
        · rw [List.getElem?_range (by omega), List.getElem?_range hi2]
          simp only [Option.map_some]
          congr 2
          omega
        · rw [List.getElem?_eq_none (by simp; omega), List.getElem?_eq_none (by simp; omega)]
          rfl

/-! ### which blocks there are -/
theorem Bod.put_keys (B : Bod) (c : Cel) (o : Nat) (cs : List UInt8) : (B.put c o cs).l.map (·.1) = if (aGet B.l c).isSome then B.l.map (·.1) else B.l.map (·.1) ++ [c] := aPut_keys

theorem pieces_count : ∀ (k a m : Nat), m ≤ k → 1 ≤ m → (piecesN k (a : Int) (m : Int)).length = (a + m - 1) / 256 - a / 256 + 1 := by
  intro k
  induction k with
  | zero => intro a m h1 h2; omega
  | succ k ih =>
    intro a m h1 h2
    rw [piecesN_succ k a m (by omega)]
    have hs1 : stepN a m ≤ m := by unfold stepN; omega
    have hs3 : 0 < stepN a m := by unfold stepN; omega
    have hs4 : stepN a m = m ∨ a % 256 + stepN a m = 256 := by unfold stepN; omega
    have hs2 : a % 256 + stepN a m ≤ 256 := by unfold stepN; omega
    generalize stepN a m = s at *
    simp only [List.length_cons]
    by_cases h0 : m - s = 0
    · rw [h0, Int.natCast_zero, piecesN_zero]
      simp only [List.length_nil]
      omega
    · rw [ih (a + s) (m - s) (by omega) (by omega)]
      omega

theorem pieces_index : ∀ (k a m : Nat) (p : Pc), p ∈ piecesN k (a : Int) (m : Int) → ((a / 256 : Nat) : Int) ≤ p.index := by
  intro k
  induction k with
  | zero => intro a m p hp; simp [piecesN] at hp
  | succ k ih =>
    intro a m p hp
    by_cases h0 : m = 0
    · subst h0; simp [piecesN] at hp
    · rw [piecesN_succ k a m h0] at hp
      rcases List.mem_cons.1 hp with rfl | hp
      · exact Int.le_refl _
      · have := ih _ _ p hp
        omega

/-- Where none of the blocks is there yet: as many more as there are pieces. -/
theorem layN_count (n : Int) : ∀ (k : Nat) (B : Bod) (a : Nat) (b : List UInt8), b.length ≤ k → (∀ q : Nat, a / 256 ≤ q → aGet B.l (n, (q : Int)) = none) →
    (layN B n (piecesN k (a : Int) (b.length : Int)) b).l.map (·.1) = B.l.map (·.1) ++ (piecesN k (a : Int) (b.length : Int)).map fun p => (n, p.index) := by
  intro k
  induction k with
  | zero =>
    intro B a b hk _
    simp [piecesN, layN]
  | succ k ih =>
    intro B a b hk hno
    by_cases hb : b = []
    · subst hb
      simp [piecesN, layN]
    · have hp : 0 < b.length := List.length_pos_iff.2 hb
      rw [layN_succ B n k a b hb, piecesN_succ k a b.length (by omega)]
      have hs1 : stepN a b.length ≤ b.length := by unfold stepN; omega
      have hs3 : 0 < stepN a b.length := by unfold stepN; omega
      have hs4 : stepN a b.length = b.length ∨ a % 256 + stepN a b.length = 256 := by unfold stepN; omega
      generalize stepN a b.length = s at *
      have hld : ((b.drop s).length : Nat) = b.length - s := by rw [List.length_drop]
      rw [hld]
      by_cases h0 : b.length - s = 0
      · have e0 : b.drop s = [] := List.eq_nil_of_length_eq_zero (by rw [hld]; exact h0)
        rw [h0, Int.natCast_zero, piecesN_zero, e0, layN, Bod.put_keys, hno _ (Nat.le_refl _)]
        simp
      · have hr := ih (B.put (n, ((a / 256 : Nat) : Int)) (a % 256) (b.take s)) (a + s) (b.drop s) (by rw [hld]; omega) (fun q hq => by
          unfold Bod.put Bod.set
          rw [aGet_aPut, if_neg (by simp only [Prod.mk.injEq, not_and]; intro _; omega)]
          exact hno q (by omega))
        rw [hld] at hr
        rw [hr, Bod.put_keys, hno _ (Nat.le_refl _)]
        simp

theorem layN_len (n : Int) (k : Nat) (B : Bod) (a : Nat) (b : List UInt8) (hk : b.length ≤ k) (hno : ∀ q : Nat, a / 256 ≤ q → aGet B.l (n, (q : Int)) = none) :
    (layN B n (piecesN k (a : Int) (b.length : Int)) b).l.length = B.l.length + (piecesN k (a : Int) (b.length : Int)).length := by
  have := congrArg List.length (layN_count n k B a b hk hno)
  simpa using this

/-! ### the volume -/
def fileW (nm : ByteArray) (size : Int) : Wld := ⟨⟨[(1, rootNd), (2, fileN size)], 2⟩, (W0.make 1 1 nm).δ⟩
/-- One file, of a size, open at a place. -/
def fS (q : Int) (nm : ByteArray) (size pos : Int) (B : Bod) : VolSt := ⟨fileW nm size, B, [(0, ⟨2, pos⟩)], q⟩

theorem fileS_fS (q : Int) (nm : ByteArray) : fileS q nm = fS q nm 0 0 ⟨[], []⟩ := by
  have : W0.make 1 1 nm = fileW nm 0 := by kernel_rfl
  unfold fileS fS
  rw [this]

theorem fS_get (q : Int) (nm : ByteArray) (size pos : Int) (B : Bod) : ((fS q nm size pos B).W.T.get 2) = (fileN size, true) := by kernel_rfl
theorem fS_laid (q : Int) (nm : ByteArray) (size pos : Int) (B : Bod) (x : Int) (l : List Pc) (bs : List UInt8) : (fS q nm size pos B).laid 0 ⟨2, x⟩ (fileN size) l bs = fS q nm (max size (endN l 0)) (endN l 0) (layN B 2 l bs) := by
  unfold VolSt.laid fS fileW Tbl.put fileN
  simp [aPut]

/-- A file's name: one letter. -/
structure Letter2 (nm : ByteArray) : Prop where
  ents : ∀ size, (fileW nm size).ents = 1
theorem letter2_f : Letter2 ⟨#[102]⟩ := ⟨fun size => by kernel_rfl⟩
theorem letter2_a : Letter2 ⟨#[97]⟩ := ⟨fun size => by kernel_rfl⟩

theorem fS_len (q : Int) (nm : ByteArray) (size pos : Int) (B : Bod) : (fS q nm size pos B).W.T.l.length = 2 := rfl
theorem fS_B {q : Int} {nm : ByteArray} (h : Letter2 nm) {size pos : Int} {B : Bod} (hb : B.l.length ≤ 1000000) : VolB (fS q nm size pos B) :=
  ⟨by simp [fS, fileW], by rw [fS_len]; omega, by show (fileW nm size).ents ≤ _; rw [h.ents]; omega, hb⟩
theorem fS_charge {q : Int} {nm : ByteArray} (h : Letter2 nm) {size pos : Int} {B : Bod} : (fS q nm size pos B).charge = 3 + B.l.length := by
  unfold VolSt.charge
  rw [fS_len]
  show 2 + (fileW nm size).ents + B.l.length = _
  rw [h.ents]

theorem fS_write {B0 : Nat} {A : Nat → Addr} {L : List Nat} {w : World} (G : Glob B0 A L w) {v : Nat} {q : Int} {nm : ByteArray} (hn : Letter2 nm) {size : Int} {a : Nat} {B : Bod} {F : List Nat} (h : VolRep w v (fS q nm size (a : Int) B) F) (hF : ∀ g ∈ F, B0 ≤ g)
    (h0 : 0 ≤ size) (h1 : size ≤ 16384) {gb ob cb : Nat} {bs : List UInt8} (hb : Bytes w (.slice (some ⟨gb, ob, none⟩) bs.length cb) bs) (hne : bs ≠ []) (hbig : bs.length ≤ 1048576) {M : Nat} (hM : M = min bs.length 1024) (ha : a + M ≤ 16384) (hl : NoLost B)
    (hlen : B.l.length ≤ 1000000) (hlen' : (layN B 2 (piecesN M (a : Int) (M : Int)) (bs.take M)).l.length ≤ 1000000) (hc : (3 + (layN B 2 (piecesN M (a : Int) (M : Int)) (bs.take M)).l.length : Int) ≤ q ∨ (layN B 2 (piecesN M (a : Int) (M : Int)) (bs.take M)).l.length ≤ B.l.length) :
    Calls Tryz.prog 18 #[.pointer (some ⟨v, 0, none⟩), .int .i64 0, .slice (some ⟨gb, ob, none⟩) bs.length cb] w fun e w' => e = .returned (.tuple #[.int .i64 (M : Int), .nilIface]) ∧ ∃ F', Mods F w w' ∧ Within w F F' ∧
      VolRep w' v (fS q nm (max size ((a : Int) + M)) ((a : Int) + M) (layN B 2 (piecesN M (a : Int) (M : Int)) (bs.take M))) F' := by
  have hM1 : 0 < M := by have := List.length_pos_iff.2 hne; omega
  obtain ⟨-, -, -, pf4⟩ := pieces_facts M a M (Nat.le_refl _) ha
  have he := (pf4 hM1).1 0
  refine vol_Write_ok G h hF 0 (by constructor <;> decide) (xn := 2) (a := a) rfl (by constructor <;> decide) (n := fileN size) (by rw [fS_get]) (fileN_ok h0 h1) rfl (by show ((fS q nm size (a : Int) B).W.T.get 2).2 = true; rw [fS_get]) (by simp [fS, fileW]) hb hne hbig hM ha (fun p _ => hl _)
    (by rw [fS_laid, he]) (fS_B hn hlen) (fS_B hn hlen') ?_
  rw [fS_charge hn, fS_charge hn]
  rcases hc with hc | hc
  · left
    show ((3 + _ : Nat) : Int) ≤ q
    omega
  · right
    exact Nat.add_le_add_left hc 3

theorem fS_read {B0 : Nat} {A : Nat → Addr} {L : List Nat} {w : World} (G : Glob B0 A L w) {v : Nat} {q : Int} {nm : ByteArray} {size : Int} {a : Nat} {B : Bod} {F : List Nat} (h : VolRep w v (fS q nm size (a : Int) B) F)
    (h1 : size ≤ 16384) (c : Int) (hc : 0 ≤ c) (hc2 : c ≤ 1099511627776) (ha : (a : Int) < size) {M : Nat} (hM : (M : Int) = min (min c 1024) (size - a)) (hM1 : 1 ≤ M) (hok : BodOk B) (hl : NoLost B) :
    Calls Tryz.prog 22 #[.pointer (some ⟨v, 0, none⟩), .int .i64 0, .int .i64 c] w fun e w' => ∃ vo, e = .returned (.tuple #[vo, .nilIface]) ∧ Bytes w' vo ((List.range M).map fun i => B.byte 2 (a + i)) ∧ Mods F w w' ∧ VolRep w' v (fS q nm size ((a : Int) + M) B) F := by
  have := vol_Read_ok G h 0 (by constructor <;> decide) (xn := 2) (a := a) rfl (by constructor <;> decide) (n := fileN size) (by rw [fS_get]) (show (1 : Int) ≤ 2 by decide) (show (2 : Int) ≤ 16777215 by decide) c hc hc2 ha h1 hM hM1 (fun p _ => hl _)
  rw [show (fileN size).id = 2 from rfl, show (fS q nm size (a : Int) B).B = B from rfl, readN_byte 2 M B a M hok hl (Nat.le_refl _)] at this
  exact this
end Go.Proofs.YtaiigmiiidldcaaGreatDoor

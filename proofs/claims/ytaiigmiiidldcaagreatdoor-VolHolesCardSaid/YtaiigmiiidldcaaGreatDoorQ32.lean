/- Slices of bytes; pieces in memory; Get of what is not lost; Package vol: lay; Facts on pieces; Write's closure; Package vol: Write, where all goes well. -/
import Derived.IntWalk
import Derived.Test.YtaiigmiiidldcaaGreatDoorQ30
import Derived.Test.YtaiigmiiidldcaaGreatDoorQ31
set_option linter.unusedSimpArgs false
set_option linter.unusedVariables false
namespace Go.Proofs.YtaiigmiiidldcaaGreatDoor
open Go.RowKit Go.Maps
open Go.ChangeMaps (setBlock)

theorem sizeOf_u8 (w : World) : (sizeOf tU8).run Tryz.prog w = .ok 1 w := Tryz.sizeOf5 w

/-- v[i:j] -/
theorem bytes_slice {w : World} {v : Value} {l : List UInt8} (h : Bytes w v l) (i j : Nat) (hij : i ≤ j) (hj : j ≤ l.length) :
    ∃ A c, (∀ w', (Instr.slice tBytes v (some (.int .i64 (i : Int))) (some (.int .i64 (j : Int))) none).run Tryz.prog w' = .ok (.slice A (j - i) c) w') ∧ Bytes w (.slice A (j - i) c) ((l.take j).drop i) ∧ j - i ≤ c := by
  obtain ⟨A, c, rfl, hc, h3⟩ := h
  refine ⟨if c = i then A else A.map (·.add (i * 1)), c - i, fun w' => ?_, ?_, by omega⟩
  · simp [Instr.slice, Instr.sliceBounds, Instr.sliceBound, asIntOf, run_underlying Tryz.underlying32, Tryz.sizeOf5, show i ≤ j by omega, show j ≤ c by omega, Result.andThen]
  · have hlen : ((l.take j).drop i).length = j - i := by rw [List.length_drop, List.length_take]; omega
    refine ⟨_, _, by rw [hlen], by rw [hlen]; omega, fun hne => ?_⟩
    have hl : l ≠ [] := by rintro rfl; simp at hne
    have hji : i < j := by
      rcases Nat.lt_or_ge i j with h' | h'
      · exact h'
      · exact absurd (List.drop_eq_nil_of_le (by simp; omega)) hne
    obtain ⟨g, o, rfl, hrow, hcell⟩ := h3 hl
    refine ⟨g, o + i, ?_, hrow, fun k x hx => ?_⟩
    · rw [if_neg (by omega)]
      simp [Addr.add]
    · rw [List.getElem?_drop, List.getElem?_take] at hx
      split at hx
      · rw [Nat.add_assoc]; exact hcell _ _ hx
      · cases hx

theorem bytes_upto {w : World} {v : Value} {l : List UInt8} (h : Bytes w v l) (j : Nat) (hj : j ≤ l.length) :
    ∃ A c, (∀ w', (Instr.slice tBytes v none (some (.int .i64 (j : Int))) none).run Tryz.prog w' = .ok (.slice A j c) w') ∧ Bytes w (.slice A j c) (l.take j) ∧ j ≤ c := by
  obtain ⟨A, c, rfl, hc, h3⟩ := h
  refine ⟨if c = 0 then A else A.map (·.add (0 * 1)), c, fun w' => ?_, ?_, by omega⟩
  · simp [Instr.slice, Instr.sliceBounds, Instr.sliceBound, asIntOf, run_underlying Tryz.underlying32, Tryz.sizeOf5, show j ≤ c by omega, Result.andThen]
  · have hlen : (l.take j).length = j := by rw [List.length_take]; omega
    refine ⟨_, _, by rw [hlen], by rw [hlen]; omega, fun hne => ?_⟩
    have hl : l ≠ [] := by rintro rfl; simp at hne
    have hlp := List.length_pos_iff.2 hl
    obtain ⟨g, o, rfl, hrow, hcell⟩ := h3 hl
    refine ⟨g, o, ?_, hrow, fun k x hx => ?_⟩
    · rw [if_neg (by omega)]
      simp [Addr.add]
    · rw [List.getElem?_take] at hx
      split at hx
      · exact hcell _ _ hx
      · cases hx

theorem bytes_from {w : World} {v : Value} {l : List UInt8} (h : Bytes w v l) (i : Nat) (hi : i ≤ l.length) :
    ∃ A c, (∀ w', (Instr.slice tBytes v (some (.int .i64 (i : Int))) none none).run Tryz.prog w' = .ok (.slice A (l.length - i) c) w') ∧ Bytes w (.slice A (l.length - i) c) (l.drop i) ∧ l.length - i ≤ c := by
  obtain ⟨A, c, rfl, hc, h3⟩ := h
  refine ⟨if c = i then A else A.map (·.add (i * 1)), c - i, fun w' => ?_, ?_, by omega⟩
  · simp [Instr.slice, Instr.sliceBounds, Instr.sliceBound, asIntOf, run_underlying Tryz.underlying32, Tryz.sizeOf5, show i ≤ l.length by omega, Result.andThen]
  · have hlen : (l.drop i).length = l.length - i := by rw [List.length_drop]
    refine ⟨_, _, by rw [hlen], by rw [hlen]; omega, fun hne => ?_⟩
    have hl : l ≠ [] := by rintro rfl; simp at hne
    have hji : i < l.length := by
      rcases Nat.lt_or_ge i l.length with h' | h'
      · exact h'
      · exact absurd (List.drop_eq_nil_of_le h') hne
    obtain ⟨g, o, rfl, hrow, hcell⟩ := h3 hl
    refine ⟨g, o + i, ?_, hrow, fun k x hx => ?_⟩
    · rw [if_neg (by omega)]
      simp [Addr.add]
    · rw [List.getElem?_drop] at hx
      rw [Nat.add_assoc]; exact hcell _ _ hx

/-! ### pieces in memory -/
def PcBlk (w : World) (g : Nat) (l : List Pc) : Prop :=
  ∃ cs, Blk w g tPiece cs ∧ ∀ (k : Nat) (p : Pc), l[k]? = some p → cs[k * 3]? = some (.int .i64 p.index) ∧ cs[k * 3 + 1]? = some (.int .i64 p.from_) ∧ cs[k * 3 + 2]? = some (.int .i64 p.to_)

theorem PcBlk.mods {w w' : World} {g : Nat} {l : List Pc} {G : List Nat} (h : PcBlk w g l) (m : Mods G w w') (hg : g ∉ G) : PcBlk w' g l := by
  obtain ⟨cs, hb, h1⟩ := h
  exact ⟨cs, hb.mods m hg, h1⟩
theorem PcBlk.mods0 {w w' : World} {g : Nat} {l : List Pc} (h : PcBlk w g l) (m : Mods [] w w') : PcBlk w' g l := h.mods m (by simp)
theorem PcBlk.lt {w : World} {g : Nat} {l : List Pc} (h : PcBlk w g l) : g < w.heap.size := by
  obtain ⟨cs, hb, h1⟩ := h
  exact hb.lt
theorem PcBlk.at {w : World} {g : Nat} {l : List Pc} (h : PcBlk w g l) {k : Nat} {p : Pc} (hp : l[k]? = some p) :
    w.cell? ⟨g, k * 3, none⟩ = some (.int .i64 p.index) ∧ w.cell? ⟨g, k * 3 + 1, none⟩ = some (.int .i64 p.from_) ∧ w.cell? ⟨g, k * 3 + 2, none⟩ = some (.int .i64 p.to_) := by
  obtain ⟨cs, hb, h1⟩ := h
  obtain ⟨e0, e1, e2⟩ := h1 k p hp
  exact ⟨by rw [hb.cell]; exact e0, by rw [hb.cell]; exact e1, by rw [hb.cell]; exact e2⟩

theorem flatP_get (l : List Pc) (k j : Nat) (hj : j < 3) : (l.flatMap Pc.cells)[k * 3 + j]? = (l[k]?).bind fun p => p.cells[j]? := by
  induction l generalizing k with
  | nil => simp
  | cons x l ih =>
    cases k with
    | zero =>
      simp only [List.flatMap_cons, Nat.zero_mul, Nat.zero_add, List.getElem?_cons_zero, Option.bind_some]
      rw [List.getElem?_append_left (by simp [Pc.cells]; omega)]
    | succ k =>
      simp only [List.flatMap_cons, List.getElem?_cons_succ]
      rw [List.getElem?_append_right (by simp [Pc.cells]; omega), ← ih k]
      congr 1
      simp [Pc.cells]
      omega

theorem PcRow.blk {w : World} {base : Nat} {v : Value} {l : List Pc} (h : PcRow w base v l) (hne : l ≠ []) : ∃ g c, v = .slice (some ⟨g, 0, none⟩) l.length c ∧ base ≤ g ∧ l.length ≤ c ∧ PcBlk w g l := by
  rcases h.2 with ⟨_, h0⟩ | ⟨g, cap, cur, rfl, hb, hh, h1, h2, h3, h4⟩
  · exact absurd (List.eq_nil_of_length_eq_zero h0) hne
  · refine ⟨g, cap, rfl, hb, h1, cur, hh, fun k p hp => ?_⟩
    have hk : k < l.length := (List.getElem?_eq_some_iff.1 hp).1
    have key : ∀ j, j < 3 → cur[k * 3 + j]? = p.cells[j]? := fun j hj => by
      have e := congrArg (fun L : List Value => L[k * 3 + j]?) h4
      simp only [List.getElem?_take_of_lt (show k * 3 + j < l.length * 3 by omega), flatP_get l k j hj, hp, Option.bind_some, Array.getElem?_toList] at e
      exact e
    exact ⟨key 0 (by omega), key 1 (by omega), key 2 (by omega)⟩

/-! ### Get of what is not lost -/
theorem body_Get_blk {w : World} {b : Nat} {B : Bod} {F : List Nat} (h : BodyRep w b B F) (c : Cel) (hc : okCel c) {l : List UInt8} (hx : B.blk c = some l) :
    Calls Tryz.prog 60 #[.pointer (some ⟨b, 0, none⟩), celV c] w fun e w' => ∃ v, e = .returned (.tuple #[v, .nilIface]) ∧ Mods [] w w' ∧ Bytes w' v l ∧ l.length = 256 := by
  unfold Bod.blk at hx
  cases hg : aGet B.l c with
  | none =>
    rw [hg] at hx
    cases hx
    refine (body_Get_none h c hc hg).mono ?_
    rintro e w' ⟨v, rfl, m, hb⟩
    exact ⟨v, rfl, m, hb, length_zeros 256⟩
  | some r =>
    rw [hg] at hx
    cases r with
    | none => cases hx
    | some x =>
      cases hx
      exact body_Get_some h c hc hg
theorem Bod.lost_get {B : Bod} {c : Cel} (h : B.blk c = none) : aGet B.l c = some none := by
  unfold Bod.blk at h
  cases hg : aGet B.l c with
  | none => rw [hg] at h; cases h
  | some r => rw [hg] at h; simp only at h; rw [h]
end Go.Proofs.YtaiigmiiidldcaaGreatDoor

namespace Go.Proofs.YtaiigmiiidldcaaGreatDoor
open Go.RowKit Go.Maps
open Go.ChangeMaps (setBlock)

structure PcOk (p : Pc) : Prop where
  i0 : 0 ≤ p.index
  i1 : p.index < 64
  f0 : 0 ≤ p.from_
  ft : p.from_ < p.to_
  t1 : p.to_ ≤ 256

def pcSum (l : List Pc) : Nat := (l.map fun p => (p.to_ - p.from_).toNat).sum
def endN : List Pc → Int → Int
  | [], e => e
  | p :: ps, _ => endN ps (p.index * 256 + p.to_)

theorem bytes_take {w : World} {g o c : Nat} {l : List UInt8} (h : Bytes w (.slice (some ⟨g, o, none⟩) l.length c) l) {m : Nat} (hm : m ≤ l.length) : Bytes w (.slice (some ⟨g, o, none⟩) m c) (l.take m) := by
  obtain ⟨A, c', e, hc, h3⟩ := h
  cases e
  have hl : (l.take m).length = m := by rw [List.length_take]; omega
  refine ⟨_, _, by rw [hl], by rw [hl]; omega, fun hne => ?_⟩
  obtain ⟨g', o', e, hr, hcell⟩ := h3 (by rintro rfl; simp at hne)
  cases e
  refine ⟨g, o, rfl, hr, fun j x hx => ?_⟩
  rw [List.getElem?_take] at hx
  split at hx
  · exact hcell j x hx
  · cases hx
theorem bytes_drop {w : World} {g o c : Nat} {l : List UInt8} (h : Bytes w (.slice (some ⟨g, o, none⟩) l.length c) l) {m : Nat} (hm : m ≤ l.length) : Bytes w (.slice (some ⟨g, o + m, none⟩) (l.length - m) (c - m)) (l.drop m) := by
  obtain ⟨A, c', e, hc, h3⟩ := h
  cases e
  have hl : (l.drop m).length = l.length - m := by rw [List.length_drop]
  refine ⟨_, _, by rw [hl], by rw [hl]; omega, fun hne => ?_⟩
  obtain ⟨g', o', e, hr, hcell⟩ := h3 (by rintro rfl; simp at hne)
  cases e
  refine ⟨g, o + m, rfl, hr, fun j x hx => ?_⟩
  rw [List.getElem?_drop] at hx
  rw [Nat.add_assoc]
  exact hcell _ x hx
theorem bytes_none {w : World} {A : Option Addr} {c : Nat} : Bytes w (.slice A 0 c) [] := ⟨A, c, rfl, by simp, fun h => absurd rfl h⟩

theorem pcSum_cons (p : Pc) (l : List Pc) : pcSum (p :: l) = (p.to_ - p.from_).toNat + pcSum l := by simp [pcSum]

set_option maxRecDepth 100000 in
set_option maxHeartbeats 4000000 in
theorem vol_lay {B0 : Nat} {A : Nat → Addr} {L : List Nat} {w : World} (G : Glob B0 A L w) {v : Nat} {S : VolSt} {F : List Nat} (h : VolRep w v S F) (hF : ∀ g ∈ F, B0 ≤ g) (fd : Int) (hfd : okInt fd) {x : Hd} (hx : aGet S.D fd = some x) (n : Nd) (hn : NdOk n) (hkind : n.kind = 1) (hin : (S.W.T.get n.id).2 = true) (h0 : S.W.T.l ≠ [])
    {gp cp : Nat} {l : List Pc} (hcp : l.length ≤ cp) (hl : PcBlk w gp l) (hgp : gp ∉ F) (hpc : ∀ p ∈ l, PcOk p) (hll : l.length ≤ 1000000) {Ab : Option Addr} {cb : Nat} {bs : List UInt8} (hb : Bytes w (.slice Ab bs.length cb) bs) (hsum : pcSum l = bs.length) (hbl : bs.length ≤ 1048576) (he0 : 0 ≤ endN l 0) (he1 : endN l 0 ≤ 16384) :
    Calls Tryz.prog 64 #[.pointer (some ⟨v, 0, none⟩), .int .i64 fd, n.val, .slice (some ⟨gp, 0, none⟩) l.length cp, .slice Ab bs.length cb] w fun e w' => e = .returned .nilIface ∧ ∃ F', Mods F w w' ∧ Within w F F' ∧
      VolRep w' v ⟨⟨S.W.T.put ⟨n.id, n.kind, n.links, max n.size (endN l 0), n.target, n.parent⟩, S.W.δ⟩, layN S.B n.id l bs, aPut S.D fd ⟨x.node, endN l 0⟩, S.q⟩ F' := by
  obtain ⟨t, b, f, Ft, Fb, Ff, h, rfl⟩ := h
  obtain ⟨E, hE⟩ : ∃ E, endN l 0 = E := ⟨_, rfl⟩
  obtain ⟨BR, hBR⟩ : ∃ BR, layN S.B n.id l bs = BR := ⟨_, rfl⟩
  rw [hE] at he0 he1 ⊢
  rw [hBR]
  have hid1 := hn.id1
  have hid2 := hn.id2
  have hsz1 := hn.size1
  have hsz2 := hn.size2
  obtain ⟨y1, y2, y3, y4, y5, y6⟩ := n
  simp only [Nd.val] at *
  subst hkind
  have hvb : v ∉ Fb := h.own.2.1
  have HH := Lib.hid h
  have HL := Lib.hid hl
  have HN := Lib.hid hn
  have HG := Lib.hid G
  have hltv := h.blk.lt
  have hltp := hl.lt
  have hFbt : ∀ g ∈ Fb, g ∈ v :: (Ft ++ (Fb ++ Ff)) := fun g hg => by simp [hg]
  have hnbF := h.body.noBytes
  have m0 := (Mods.refl [] w).alloc (.cells #[.int .i64 y1, .int .i64 1, .int .i64 y3, .int .i64 y4, .string y5, .int .i64 y6] tNd)
  have nb0 := Blk.new w tNd #[.int .i64 y1, .int .i64 1, .int .i64 y3, .int .i64 y4, .string y5, .int .i64 y6]
  have hV0 := HH.out.mods m0 (by simp) (by intro g hg; cases hg)
  have hb0 := hb.mods0 m0
  have HBR := Lib.hid hBR
  have HE := Lib.hid hE
  have hx' := Lib.hid hx
  have HSUM := Lib.hid hsum
  have HIN := Lib.hid hin
  have hltB := h.body.old
  clear hl hn G h hBR hE hx hb hsum hin
  go_enter Tryz.func64, Tryz.ntmps64
  go_wp2_with fail
  go_loopw [4, 11, 21] (fun s4 s11 s21 wr => ∃ (k : Nat) (rb : List UInt8) (A4 : Option Addr) (c4 : Nat) (e : Int) (B : Bod), k ≤ l.length ∧ s21 = .int .i64 k ∧ s4 = .slice A4 rb.length c4 ∧ s11 = .int .i64 e ∧ Bytes wr (.slice A4 rb.length c4) rb ∧ endN (l.drop k) e = E ∧ layN B y1 (l.drop k) rb = BR ∧ pcSum (l.drop k) = rb.length ∧ rb.length ≤ bs.length ∧ Mods Fb w wr ∧ VolIs wr v ⟨S.W, B, S.D, S.q⟩ t b f Ft Fb Ff ∧ Blk wr w.heap.size tNd #[.int .i64 y1, .int .i64 1, .int .i64 y3, .int .i64 y4, .string y5, .int .i64 y6]) (fun _ _ s21 _ => l.length - (intOf s21).toNat)
  case atStart => exact ⟨0, bs, Ab, cb, 0, S.B, Nat.zero_le _, rfl, rfl, rfl, hb0, HE.out, HBR.out, HSUM.out, Nat.le_refl _, m0.of_nil, hV0, nb0⟩
  case round =>
    clear nb0 hV0 hb0
    obtain ⟨k, rb, A4, c4, e, B, hk, rfl, rfl, rfl, hbr, her, hBr, hsr, hrl, mr, hVr, hnb⟩ := hrel
    by_cases hlt : k < l.length
    · obtain ⟨p, hp⟩ : ∃ p, l[k]? = some p := ⟨_, List.getElem?_eq_getElem hlt⟩
      have hpo := hpc p (List.mem_of_getElem? hp)
      have hdr : l.drop k = p :: l.drop (k + 1) := by
        rw [List.drop_eq_getElem_cons hlt]
        congr 1
        have := List.getElem?_eq_getElem hlt
        rw [hp] at this
        exact (Option.some.inj this).symm
      rw [hdr] at her hBr hsr
      rw [pcSum_cons] at hsr
      simp only [endN, layN] at her hBr
      obtain ⟨q0, q1, q2⟩ := (HL.out.mods mr (fun hg => hgp (hFbt _ hg))).at hp
      obtain ⟨pi, pf, pt⟩ := p
      obtain ⟨i0, i1, f0, ft, t1⟩ := hpo
      simp only at i0 i1 f0 ft t1 q0 q1 q2 her hBr hsr
      obtain ⟨fN, rfl⟩ := Int.eq_ofNat_of_zero_le f0
      obtain ⟨tN, rfl⟩ := Int.eq_ofNat_of_zero_le (show 0 ≤ pt by omega)
      have hN1 : fN < tN := by omega
      have hN2 : tN ≤ 256 := by omega
      have ecast : (((tN - fN : Nat)) : Int) = (tN : Int) - fN := by omega
      have etn : ((tN : Int) - fN).toNat = tN - fN := by omega
      rw [etn] at hBr hsr
      simp only [Int.toNat_natCast] at hBr
      have hm : tN - fN ≤ rb.length := by omega
      have hrb : rb ≠ [] := by rintro rfl; simp at hm; omega
      obtain ⟨A4', c4', hA4, hc4, hcell4⟩ := id hbr
      obtain ⟨g4, o4, rfl, hrow4, hcl4⟩ := hcell4 hrb
      cases hA4
      have hby1 : Bytes wr (.slice (some ⟨g4, o4, none⟩) (tN - fN) c4) (rb.take (tN - fN)) := bytes_take hbr hm
      have hby2 : Bytes wr (.slice (some ⟨g4, o4 + (tN - fN), none⟩) (rb.length - (tN - fN)) (c4 - (tN - fN))) (rb.drop (tN - fN)) := bytes_drop hbr hm
      have z1 : fN ≤ tN := by omega
      have z2 : (tN : Int) - fN ≤ c4 := by omega
      have z3 : (tN : Int) - fN ≤ rb.length := by omega
      have z4 : ¬ c4 = 0 := by have := List.length_pos_iff.2 hrb; omega
      have hlt5 : (rb.take (tN - fN)).length = tN - fN := by rw [List.length_take]; omega
      have hl6 : (rb.drop (tN - fN)).length = rb.length - (tN - fN) := by rw [List.length_drop]
      have hoc : okCel (y1, pi) := ⟨⟨by omega, by omega⟩, ⟨by omega, by omega⟩⟩
      have mA := ((Mods.refl [] wr).alloc (.cells #[.int .i64 pi, .int .i64 (fN : Int), .int .i64 (tN : Int)] tPiece)).alloc (.cells #[.int .i64 y1, .int .i64 pi] tCell)
      have pb := (Blk.new wr tPiece #[.int .i64 pi, .int .i64 (fN : Int), .int .i64 (tN : Int)]).alloc (.cells #[.int .i64 y1, .int .i64 pi] tCell)
      have cbk := Blk.new (wr.alloc (.cells #[.int .i64 pi, .int .i64 (fN : Int), .int .i64 (tN : Int)] tPiece)) tCell #[.int .i64 y1, .int .i64 pi]
      rw [World.size_alloc] at cbk
      have n0 := hnb.cell 0
      have k1 := hVr.blk.cell 1
      have p0 := pb.cell 0
      have p1 := pb.cell 1
      have p2 := pb.cell 2
      have c0 := cbk.cell 0
      have c1 := cbk.cell 1
      simp only [List.getElem?_toArray, List.getElem?_cons_zero, List.getElem?_cons_succ] at n0 k1 p0 p1 p2 c0 c1
      have k1 := keepMods mA k1 (by simp)
      have mAD := mA.drew
      have hltr := hVr.blk.lt
      have HV := Lib.hid hVr
      have HNB := Lib.hid hnb
      have HHER := Lib.hid her
      have HHBR := Lib.hid hBr
      have HHSR := Lib.hid hsr
      have ltn := hnb.lt
      have hszr := mr.size
      clear hVr hnb her hBr hsr hdr hp hbr hrow4 hcl4 hcell4 ecast
      cases hblk : B.blk (y1, pi) with
      | none =>
        have HGet := Lib.hid (fun (w' : World) (m' : Mods [] wr w') => body_Get_lost (HG.out.mods (mr.then m') (fun g hg => hF g (hFbt g hg))) (HV.out.body.mods0 m') (y1, pi) hoc (Bod.lost_get hblk))
        simp only [celV, errV_pos eT A (show (107 : Nat) ≠ 0 by decide)] at HGet
        have HBK := Lib.hid hblk
        clear hblk
        go_wp2_with fail
        go_region_held3 (fun w' => w'.cell? ⟨v, 1, none⟩ = some (.pointer (some ⟨b, 0, none⟩)) ∧ w'.cell? ⟨wr.heap.size + 1, 0, none⟩ = some (.int .i64 y1) ∧ w'.cell? ⟨wr.heap.size + 1, 1, none⟩ = some (.int .i64 pi)) (refine ⟨?_, ?_, ?_⟩ <;> (repeat (first | with_reducible assumption | with_reducible refine keepAlloc ?_ | with_reducible refine keepDrew ?_)))
          (first
            | (go_at_call 60; refine (HGet.out _ mAD).mono ?_; rintro e w1 ⟨rfl, m1⟩; have k1 := keepMods m1 (keepDrew k1) (by simp); have c0 := keepMods m1 (keepDrew c0) (by simp); have c1 := keepMods m1 (keepDrew c1) (by simp); have p0 := keepMods m1 (keepDrew p0) (by simp); have p1 := keepMods m1 (keepDrew p1) (by simp); have p2 := keepMods m1 (keepDrew p2) (by simp)))
        have m1' := mAD.then m1
        have hbo : Bytes w1 (.slice none 0 0) [] := ⟨none, 0, rfl, by simp, fun h => absurd rfl h⟩
        have HLay := Lib.hid (fun (w' : World) (m' : Mods [] w1 w') => span_Lay (hbo.mods0 m') (by simp) pi fN tN hN1 hN2 ((hby1.mods0 m1').mods0 m') hlt5)
        simp only [Pc.val] at HLay
        have mB := (Mods.refl [] w1).drew
        have HSet := Lib.hid (fun (w' : World) (m' : Mods [] wr w') (v' : Value) (l' : List UInt8) (hv : Bytes w' v' l') (hl' : l'.length ≤ 256) => body_Set (HV.out.body.mods0 m') (y1, pi) (by simp only; omega) (by simp only; omega) i0 i1 hv hl')
        simp only [celV] at HSet
        have hsp : (spl (full ([] : List UInt8)) fN (rb.take (tN - fN))).length = 256 := by
          rw [spl_length _ _ _ (by rw [full_length (by simp), hlt5]; omega), full_length (by simp)]
        have hput : (B.put (y1, pi) fN (rb.take (tN - fN))) = B.set (y1, pi) (spl (full ([] : List UInt8)) fN (rb.take (tN - fN))) := by unfold Bod.put; rw [HBK.out]; rfl
        have HPUT := Lib.hid hput
        clear hput HGet
        have hnP : wr.heap.size ∉ Fb := fun hg => by have := hltB _ hg; omega
        have hnC : wr.heap.size + 1 ∉ Fb := fun hg => by have := hltB _ hg; omega
        have hwrap : IntKind.i64.wrap ((tN : Int) - fN) = (tN : Int) - fN := IntWalk.i64_in _ (by omega)
        go_wp2_with fail
        go_region_held3 (fun w' => w'.cell? ⟨v, 1, none⟩ = some (.pointer (some ⟨b, 0, none⟩)) ∧ w'.cell? ⟨wr.heap.size + 1, 0, none⟩ = some (.int .i64 y1) ∧ w'.cell? ⟨wr.heap.size + 1, 1, none⟩ = some (.int .i64 pi) ∧ w'.cell? ⟨wr.heap.size, 0, none⟩ = some (.int .i64 pi) ∧ w'.cell? ⟨wr.heap.size, 1, none⟩ = some (.int .i64 (fN : Int)) ∧ w'.cell? ⟨wr.heap.size, 2, none⟩ = some (.int .i64 (tN : Int))) (refine ⟨?_, ?_, ?_, ?_, ?_, ?_⟩ <;> (repeat (first | with_reducible assumption | with_reducible refine keepAlloc ?_ | with_reducible refine keepDrew ?_)))
          (first
            | (go_at_call 139; refine (HLay.out _ mB).mono ?_; rintro e w2 ⟨rfl, m2, hb2⟩; have k1 := keepMods m2 (keepDrew k1) (by simp); have c0 := keepMods m2 (keepDrew c0) (by simp); have c1 := keepMods m2 (keepDrew c1) (by simp); have p0 := keepMods m2 (keepDrew p0) (by simp); have p1 := keepMods m2 (keepDrew p1) (by simp); have p2 := keepMods m2 (keepDrew p2) (by simp); have m2' := (m1'.drew).then m2; have hby := DataRep.bytes ⟨hsp, _, rfl, hb2⟩)
            | (go_at_call 74; refine (HSet.out _ m2' _ _ hby (Nat.le_of_eq hsp)).mono ?_; rintro e w3 ⟨rfl, m3, hB3⟩; have k1 := keepMods m3 k1 hvb; have c0 := keepMods m3 c0 hnC; have c1 := keepMods m3 c1 hnC; have p0 := keepMods m3 p0 hnP; have p1 := keepMods m3 p1 hnP; have p2 := keepMods m3 p2 hnP))
        clear hwrap
        have m3' : Mods Fb wr w3 := m2'.of_nil.trans m3 (fun g hg => .inl hg)
        have V3 := Lib.hid ((HV.out.mods m2' (by simp) (by intro g hg; cases hg)).setBody m3 hB3)
        have nb3 := HNB.out.mods m3' (fun hg => by have := hltB _ hg; omega)
        have by6 := hby2.mods m3' (HV.out.body.noBytes)
        go_upto_region 12 with fail
        go_cut [4] (fun s4 wx => ∃ A6 c6, s4 = .slice A6 (rb.length - (tN - fN)) c6 ∧ Bytes wx (.slice A6 (rb.length - (tN - fN)) c6) (rb.drop (tN - fN)) ∧ wx = w3)
        case first =>
          by_cases hcm : c4 = tN - fN
          · have hcm' := Lib.hid hcm
            subst hcm
            go_wp2_with fail
            go_meet
            have e0 : rb.length - (tN - fN) = 0 := by omega
            refine ⟨some ⟨g4, o4, none⟩, 0, ?_, ?_, rfl⟩
            · rw [e0]
            · rw [e0, List.drop_eq_nil_of_le (by omega)]; exact bytes_none
          · go_wp2_with fail
            go_meet
            exact ⟨_, _, rfl, by6, rfl⟩
        case rest =>
          obtain ⟨A6, c6, rfl, by7, rfl⟩ := hcut
          go_wp2_with fail
          go_roundw
          case rel =>
            refine ⟨k + 1, rb.drop (tN - fN), A6, c6, pi * 256 + tN, _, by omega, by go_num, by rw [hl6], rfl, by rw [hl6]; exact by7, HHER.out, ?_, ?_, by omega, mr.trans m3' (fun g hg => .inl hg), V3.out, nb3⟩
            · rw [← HPUT.out]; exact HHBR.out
            · have := HHSR.out; omega
          case measure => simp [intOf]; omega
      | some ol =>
        have HGet := Lib.hid (fun (w' : World) (m' : Mods [] wr w') => body_Get_blk (HV.out.body.mods0 m') (y1, pi) hoc hblk)
        simp only [celV] at HGet
        have HBK := Lib.hid hblk
        clear hblk
        go_wp2_with fail
        go_region_held3 (fun w' => w'.cell? ⟨v, 1, none⟩ = some (.pointer (some ⟨b, 0, none⟩)) ∧ w'.cell? ⟨wr.heap.size + 1, 0, none⟩ = some (.int .i64 y1) ∧ w'.cell? ⟨wr.heap.size + 1, 1, none⟩ = some (.int .i64 pi)) (refine ⟨?_, ?_, ?_⟩ <;> (repeat (first | with_reducible assumption | with_reducible refine keepAlloc ?_ | with_reducible refine keepDrew ?_)))
          (first
            | (go_at_call 60; refine (HGet.out _ mAD).mono ?_; rintro e w1 ⟨vo, rfl, m1, hbo, hl256⟩; have hlo : ol.length ≤ 256 := Nat.le_of_eq hl256; clear hl256; obtain ⟨A7, c7, rfl, _, _⟩ := id hbo; have k1 := keepMods m1 (keepDrew k1) (by simp); have c0 := keepMods m1 (keepDrew c0) (by simp); have c1 := keepMods m1 (keepDrew c1) (by simp); have p0 := keepMods m1 (keepDrew p0) (by simp); have p1 := keepMods m1 (keepDrew p1) (by simp); have p2 := keepMods m1 (keepDrew p2) (by simp)))
        have m1' := mAD.then m1
        have hlo2 := hlo
        have HLay := Lib.hid (fun (w' : World) (m' : Mods [] w1 w') => span_Lay (hbo.mods0 m') (by omega) pi fN tN hN1 hN2 ((hby1.mods0 m1').mods0 m') hlt5)
        simp only [Pc.val] at HLay
        have mB := (Mods.refl [] w1).drew
        have HSet := Lib.hid (fun (w' : World) (m' : Mods [] wr w') (v' : Value) (l' : List UInt8) (hv : Bytes w' v' l') (hl' : l'.length ≤ 256) => body_Set (HV.out.body.mods0 m') (y1, pi) (by simp only; omega) (by simp only; omega) i0 i1 hv hl')
        simp only [celV] at HSet
        have hsp : (spl (full ol) fN (rb.take (tN - fN))).length = 256 := by
          rw [spl_length _ _ _ (by rw [full_length (by omega), hlt5]; omega), full_length (by omega)]
        have hput : (B.put (y1, pi) fN (rb.take (tN - fN))) = B.set (y1, pi) (spl (full ol) fN (rb.take (tN - fN))) := by unfold Bod.put; rw [HBK.out]; rfl
        have HPUT := Lib.hid hput
        clear hput HGet
        have hnP : wr.heap.size ∉ Fb := fun hg => by have := hltB _ hg; omega
        have hnC : wr.heap.size + 1 ∉ Fb := fun hg => by have := hltB _ hg; omega
        have hwrap : IntKind.i64.wrap ((tN : Int) - fN) = (tN : Int) - fN := IntWalk.i64_in _ (by omega)
        go_wp2_with fail
        go_region_held3 (fun w' => w'.cell? ⟨v, 1, none⟩ = some (.pointer (some ⟨b, 0, none⟩)) ∧ w'.cell? ⟨wr.heap.size + 1, 0, none⟩ = some (.int .i64 y1) ∧ w'.cell? ⟨wr.heap.size + 1, 1, none⟩ = some (.int .i64 pi) ∧ w'.cell? ⟨wr.heap.size, 0, none⟩ = some (.int .i64 pi) ∧ w'.cell? ⟨wr.heap.size, 1, none⟩ = some (.int .i64 (fN : Int)) ∧ w'.cell? ⟨wr.heap.size, 2, none⟩ = some (.int .i64 (tN : Int))) (refine ⟨?_, ?_, ?_, ?_, ?_, ?_⟩ <;> (repeat (first | with_reducible assumption | with_reducible refine keepAlloc ?_ | with_reducible refine keepDrew ?_)))
          (first
            | (go_at_call 139; refine (HLay.out _ mB).mono ?_; rintro e w2 ⟨rfl, m2, hb2⟩; have k1 := keepMods m2 (keepDrew k1) (by simp); have c0 := keepMods m2 (keepDrew c0) (by simp); have c1 := keepMods m2 (keepDrew c1) (by simp); have p0 := keepMods m2 (keepDrew p0) (by simp); have p1 := keepMods m2 (keepDrew p1) (by simp); have p2 := keepMods m2 (keepDrew p2) (by simp); have m2' := (m1'.drew).then m2; have hby := DataRep.bytes ⟨hsp, _, rfl, hb2⟩)
            | (go_at_call 74; refine (HSet.out _ m2' _ _ hby (Nat.le_of_eq hsp)).mono ?_; rintro e w3 ⟨rfl, m3, hB3⟩; have k1 := keepMods m3 k1 hvb; have c0 := keepMods m3 c0 hnC; have c1 := keepMods m3 c1 hnC; have p0 := keepMods m3 p0 hnP; have p1 := keepMods m3 p1 hnP; have p2 := keepMods m3 p2 hnP))
        clear hwrap
        have m3' : Mods Fb wr w3 := m2'.of_nil.trans m3 (fun g hg => .inl hg)
        have V3 := Lib.hid ((HV.out.mods m2' (by simp) (by intro g hg; cases hg)).setBody m3 hB3)
        have nb3 := HNB.out.mods m3' (fun hg => by have := hltB _ hg; omega)
        have by6 := hby2.mods m3' (HV.out.body.noBytes)
        go_upto_region 12 with fail
        go_cut [4] (fun s4 wx => ∃ A6 c6, s4 = .slice A6 (rb.length - (tN - fN)) c6 ∧ Bytes wx (.slice A6 (rb.length - (tN - fN)) c6) (rb.drop (tN - fN)) ∧ wx = w3)
        case first =>
          by_cases hcm : c4 = tN - fN
          · have hcm' := Lib.hid hcm
            subst hcm
            go_wp2_with fail
            go_meet
            have e0 : rb.length - (tN - fN) = 0 := by omega
            refine ⟨some ⟨g4, o4, none⟩, 0, ?_, ?_, rfl⟩
            · rw [e0]
            · rw [e0, List.drop_eq_nil_of_le (by omega)]; exact bytes_none
          · go_wp2_with fail
            go_meet
            exact ⟨_, _, rfl, by6, rfl⟩
        case rest =>
          obtain ⟨A6, c6, rfl, by7, rfl⟩ := hcut
          go_wp2_with fail
          go_roundw
          case rel =>
            refine ⟨k + 1, rb.drop (tN - fN), A6, c6, pi * 256 + tN, _, by omega, by go_num, by rw [hl6], rfl, by rw [hl6]; exact by7, HHER.out, ?_, ?_, by omega, mr.trans m3' (fun g hg => .inl hg), V3.out, nb3⟩
            · rw [← HPUT.out]; exact HHBR.out
            · have := HHSR.out; omega
          case measure => simp [intOf]; omega
    · obtain rfl : k = l.length := by omega
      rw [List.drop_length] at her hBr
      simp only [endN] at her
      rw [layN] at hBr
      subst her
      subst hBr
      obtain ⟨t', F1, htb, hw, hFt, hnt⟩ := id hVr.tree
      obtain ⟨tt, m, Fn, raw, hI, hF1⟩ := id hw
      have n0 := hnb.cell 0
      have n1 := hnb.cell 1
      have n2 := hnb.cell 2
      have n3 := hnb.cell 3
      have n4 := hnb.cell 4
      have n5 := hnb.cell 5
      have fr := hnb.frozen
      have v0 := hVr.blk.cell 0
      have v2 := hVr.blk.cell 2
      have t0 := htb.cell 0
      have p0 := hI.blk.cell 0
      simp only [List.getElem?_toArray, List.getElem?_cons_zero, List.getElem?_cons_succ] at n0 n1 n2 n3 n4 n5 v0 v2 t0 p0
      have hlF := HH.out.lt
      have hnF : ∀ g ∈ v :: (Ft ++ (Fb ++ Ff)), g ≠ w.heap.size := fun g hg e => by have := hlF g hg; omega
      have hnT : w.heap.size ∉ Ft := fun hg => hnF _ (by simp [hg]) rfl
      have mS := (Mods.refl [w.heap.size] wr).setCell (p := ⟨w.heap.size, 3, none⟩) (.inl (by simp)) (.int .i64 (max y4 e))
      have nbS := hnb.set_ 3 (.int .i64 (max y4 e))
      simp only [List.setIfInBounds_toArray, List.set_cons_zero, List.set_cons_succ] at nbS
      have VS := hVr.mods mS (fun g hg hg' => hnF g hg (List.mem_singleton.1 hg')) (NoRow.of_blk hnb (by decide))
      have hFn : ∀ g ∈ Fn, g ∈ Ft := fun g hg => by rw [hFt, hF1]; simp [hg]
      have hIS := hI.mods mS (fun g hg hg' => hnT (by rw [← List.mem_singleton.1 hg', hFt, hF1]; simp only [List.mem_cons]; right; simpa using hg))
      have htbS := htb.mods mS (fun hg' => hnT (by rw [← List.mem_singleton.1 hg', hFt]; simp))
      have hn' : NdOk ⟨y1, 1, y3, max y4 e, y5, y6⟩ := by
        have hno := HN.out
        refine ⟨hno.id1, hno.id2, hno.links1, hno.links2, ?_, ?_, ?_⟩
        · have := hno.size1; simp only at this ⊢; omega
        · have := hno.size2; simp only at this ⊢; omega
        · rcases hno.kind with h1 | h1 | h1
          · exact .inl h1
          · exact absurd h1.1 (by simp)
          · exact absurd h1.1 (by simp)
      have HPut := Lib.hid (fun (w' : World) (m' : Mods [] (wr.setCell ⟨w.heap.size, 3, none⟩ (.int .i64 (max y4 e))) w') => table_Put_yes (hIS.tab.mods0 m') hn' (.inl HIN.out) (.inl h0))
      simp only [Nd.val] at HPut
      have HVS := Lib.hid VS
      have HIS := Lib.hid hIS
      have HTBS := Lib.hid htbS
      have hdis := hI.disj
      have hvT : v ∉ Ft := hVr.own.1
      have hvFf : v ∉ Ff := hVr.own.2.2
      have ltn := hnb.lt
      have ltv := hVr.blk.lt
      have ltt := htb.lt
      have ltp := hI.blk.lt
      have htT : t ∉ Fn := fun hg => hnt (by rw [hF1]; simp [hg])
      have hpT : t' ∉ Fn := hdis t' (by simp)
      have hnFn : w.heap.size ∉ Fn := fun hg => hnT (hFn _ hg)
      have hvFn : v ∉ Fn := fun hg => hvT (hFn _ hg)
      have HMV := Lib.hid (fun (w' : World) (h' : FilesRep w' f S.D Ff) => files_Move_yes h' fd hfd hx'.out e he0 (by omega))
      have mD := (Mods.refl [] (wr.setCell ⟨w.heap.size, 3, none⟩ (.int .i64 (max y4 e)))).drew
      have hb0 := nbS.cell 0
      have hb1 := nbS.cell 1
      have hb2 := nbS.cell 2
      have hb3 := nbS.cell 3
      have hb4 := nbS.cell 4
      have hb5 := nbS.cell 5
      simp only [List.getElem?_toArray, List.getElem?_cons_zero, List.getElem?_cons_succ] at hb0 hb1 hb2 hb3 hb4 hb5
      have s0 := keepMods mS v0 (fun hg => hnF v (by simp) (List.mem_singleton.1 hg))
      have s2 := keepMods mS v2 (fun hg => hnF v (by simp) (List.mem_singleton.1 hg))
      have s3 := keepMods mS t0 (fun hg => hnT (by rw [← List.mem_singleton.1 hg, hFt]; simp))
      have s4 := keepMods mS p0 (fun hg => hnT (by rw [← List.mem_singleton.1 hg, hFt, hF1]; simp))
      have mrS := mr.trans mS (by intro g hg; simp at hg; subst hg; right; omega)
      have htne : t ≠ w.heap.size := fun e => hnT (by rw [← e, hFt]; simp)
      have hpne : t' ≠ w.heap.size := fun e => hnT (by rw [← e, hFt, hF1]; simp)
      clear hVr htb hw hI hnb VS hIS htbS hdis hsr hbr nbS mS
      go_wp2_with fail
      go_region_held3 (fun w' => w'.cell? ⟨v, 0, none⟩ = some (.pointer (some ⟨t, 0, none⟩)) ∧ w'.cell? ⟨t, 0, none⟩ = some (.pointer (some ⟨t', 0, none⟩)) ∧ w'.cell? ⟨t', 0, none⟩ = some (.pointer (some ⟨tt, 0, none⟩)) ∧ w'.cell? ⟨w.heap.size, 0, none⟩ = some (.int .i64 y1) ∧ w'.cell? ⟨w.heap.size, 1, none⟩ = some (.int .i64 1) ∧ w'.cell? ⟨w.heap.size, 2, none⟩ = some (.int .i64 y3) ∧ w'.cell? ⟨w.heap.size, 3, none⟩ = some (.int .i64 (max y4 e)) ∧ w'.cell? ⟨w.heap.size, 4, none⟩ = some (.string y5) ∧ w'.cell? ⟨w.heap.size, 5, none⟩ = some (.int .i64 y6)) (refine ⟨?_, ?_, ?_, ?_, ?_, ?_, ?_, ?_, ?_⟩ <;> (repeat (first | with_reducible assumption | with_reducible refine keepAlloc ?_ | with_reducible refine keepDrew ?_)))
        (first
          | (go_at_call 78; refine (HPut.out _ mD).mono ?_; rintro e9 w2 ⟨rfl, m2, Fn', wn, hnn, hT2⟩; have s0 := keepMods m2 (keepDrew s0) hvFn; have s2 := keepMods m2 (keepDrew s2) hvFn; have s3 := keepMods m2 (keepDrew s3) htT; have s4 := keepMods m2 (keepDrew s4) hpT; have hb0 := keepMods m2 (keepDrew hb0) hnFn; have hb1 := keepMods m2 (keepDrew hb1) hnFn; have hb2 := keepMods m2 (keepDrew hb2) hnFn; have hb3 := keepMods m2 (keepDrew hb3) hnFn; have hb4 := keepMods m2 (keepDrew hb4) hnFn; have hb5 := keepMods m2 (keepDrew hb5) hnFn))
      have hI3 := (HIS.out.mods0 mD).table m2 hT2 wn hnn
      have hsub : ∀ g ∈ Fn, g ∈ F1 := fun g hg => by rw [hF1]; simp [hg]
      have wnF : Within (wr.setCell ⟨w.heap.size, 3, none⟩ (.int .i64 (max y4 e))).drew F1 (t' :: m :: (Fn' ++ foot raw)) := by
        intro g hg
        rw [hF1]
        simp only [List.mem_cons, List.mem_append] at hg ⊢
        rcases hg with h | h | h | h
        · exact .inl (.inl h)
        · exact .inl (.inr (.inl h))
        · rcases wn g h with h | h
          · exact .inl (.inr (.inr (.inl h)))
          · exact .inr h
        · exact .inl (.inr (.inr (.inr h)))
      obtain ⟨hT3, m3t, wn3⟩ := TreeRep.step (HTBS.out.mods0 mD) hnt (m2.mono hsub) wnF hI3.rep
      rw [← hFt] at m3t wn3
      have V3 := (HVS.out.mods mD (by simp) (by intro g hg; cases hg)).setTree m3t hT3 wn3
      have hMv := HMV.out w2 V3.files
      have HV3 := Lib.hid V3
      have HMvh := Lib.hid hMv
      clear V3 hMv HMV HPut
      go_wp2_with fail
      refine HMvh.out.mono ?_
      rintro e9 w3 ⟨rfl, m3, hF3⟩
      go_wp2_with fail
      go_ret
      have V4 := HV3.out.setFiles m3 hF3 (Within.refl _ _)
      have hFtT : ∀ g ∈ Ft, g ∈ v :: (Ft ++ (Fb ++ Ff)) := fun g hg => by simp [hg]
      have szS := mrS.size
      have mX : Mods (v :: (Ft ++ (Fb ++ Ff))) w w2 := ((mrS.mono hFbt).then mD).trans m3t (fun g hg => .inl (hFtT g hg))
      refine ⟨rfl, v :: ((t :: t' :: m :: (Fn' ++ foot raw)) ++ (Fb ++ Ff)), mX.trans m3 (fun g hg => .inl (by simp [hg])), fun g hg => ?_, t, b, f, t :: t' :: m :: (Fn' ++ foot raw), Fb, Ff, V4, rfl⟩
      simp only [List.mem_cons, List.mem_append] at hg ⊢
      rcases hg with hg | hg | hg | hg
      · exact .inl (.inl hg)
      · rcases wn3 g (by simp only [List.mem_cons, List.mem_append]; exact hg) with h1 | h1
        · exact .inl (.inr (.inl h1))
        · simp at h1; right; simp at szS; omega
      · exact .inl (.inr (.inr (.inl hg)))
      · exact .inl (.inr (.inr (.inr hg)))
end Go.Proofs.YtaiigmiiidldcaaGreatDoor

namespace Go.Proofs.YtaiigmiiidldcaaGreatDoor
open Go.RowKit Go.Maps
open Go.ChangeMaps (setBlock)

theorem pieces_facts : ∀ (k a n : Nat), n ≤ k → a + n ≤ 16384 → (∀ p ∈ piecesN k (a : Int) (n : Int), PcOk p) ∧ pcSum (piecesN k (a : Int) (n : Int)) = n ∧ (piecesN k (a : Int) (n : Int)).length ≤ n ∧ (0 < n → (∀ e, endN (piecesN k (a : Int) (n : Int)) e = (a : Int) + n) ∧ piecesN k (a : Int) (n : Int) ≠ []) := by
  intro k
  induction k with
  | zero =>
    intro a n hn ha
    obtain rfl : n = 0 := by omega
    exact ⟨by simp [piecesN], rfl, by simp [piecesN], by omega⟩
  | succ k ih =>
    intro a n hn ha
    by_cases h0 : n = 0
    · subst h0
      have e : piecesN (k + 1) (a : Int) ((0 : Nat) : Int) = [] := by simp [piecesN]
      rw [e]
      exact ⟨by simp, rfl, by simp, by omega⟩
    · rw [piecesN_succ k a n h0]
      have hs1 : stepN a n ≤ n := by unfold stepN; omega
      have hs2 : a % 256 + stepN a n ≤ 256 := by unfold stepN; omega
      have hs3 : 0 < stepN a n := by unfold stepN; omega
      have hs4 : stepN a n = n ∨ a % 256 + stepN a n = 256 := by unfold stepN; omega
      generalize stepN a n = s at *
      obtain ⟨i1, i2, i3, i4⟩ := ih (a + s) (n - s) (by omega) (by omega)
      refine ⟨?_, ?_, by simp only [List.length_cons]; omega, fun _ => ⟨fun e => ?_, by simp⟩⟩
      · intro p hp
        rcases List.mem_cons.1 hp with rfl | hp
        · refine ⟨?_, ?_, ?_, ?_, ?_⟩ <;> simp only <;> omega
        · exact i1 p hp
      · rw [pcSum_cons, i2]
        simp only
        omega
      · simp only [endN]
        by_cases h1 : n - s = 0
        · rw [h1, Int.natCast_zero, piecesN_zero]
          simp only [endN]
          have : s = n := by omega
          omega
        · rw [(i4 (by omega)).1]
          omega

theorem bytes_heap {x y : World} {g o m c : Nat} {l : List UInt8} (h : Bytes x (.slice (some ⟨g, o, none⟩) m c) l) (e : y.heap[g]? = x.heap[g]?) : Bytes y (.slice (some ⟨g, o, none⟩) m c) l := by
  obtain ⟨A, c', e1, hc, h3⟩ := h
  cases e1
  refine ⟨_, _, rfl, hc, fun hne => ?_⟩
  obtain ⟨g', o', e2, ⟨cs, fr, hr⟩, hcell⟩ := h3 hne
  cases e2
  exact ⟨g, o, rfl, ⟨cs, fr, e.trans hr⟩, fun j x hx => (World.cell?_of_block (a := ⟨g, o + j, none⟩) e).trans (hcell j x hx)⟩

/-- What Write's closure asks of the world: the errors, and that some blocks lie as they lay. -/
structure KeptI (B0 : Nat) (A : Nat → Addr) (L : List Nat) (w : World) (KS : List Nat) (x : World) : Prop where
  G : Glob B0 A L x
  k : ∀ g ∈ KS, x.heap[g]? = w.heap[g]?

theorem KeptI.stays {B0 : Nat} {A : Nat → Addr} {L : List Nat} {w : World} {KS F : List Nat} (hF : ∀ g ∈ F, B0 ≤ g) (hB : B0 ≤ w.heap.size) (hK : ∀ g ∈ KS, g < w.heap.size ∧ g ∉ F) : Stays w F (KeptI B0 A L w KS) := fun a b G ha m hsz hG =>
  ⟨ha.G.mods m (fun g hg => by
    rcases hG g hg with h1 | h1
    · exact hF g h1
    · omega), fun g hg => by
    rw [m.block g (by have := (hK g hg).1; omega) (fun h => by
      rcases hG g h with h1 | h1
      · exact (hK g hg).2 h1
      · have := (hK g hg).1; omega)]
    exact ha.k g hg⟩

/-- What a write leaves. -/
def VolSt.laid (S : VolSt) (fd : Int) (x : Hd) (n : Nd) (l : List Pc) (bs : List UInt8) : VolSt :=
  ⟨⟨S.W.T.put ⟨n.id, n.kind, n.links, max n.size (endN l 0), n.target, n.parent⟩, S.W.δ⟩, layN S.B n.id l bs, aPut S.D fd ⟨x.node, endN l 0⟩, S.q⟩

set_option maxRecDepth 100000 in
set_option maxHeartbeats 2000000 in
theorem write1_do {B0 : Nat} {A : Nat → Addr} {L : List Nat} {w : World} {F : List Nat} {S : VolSt} (hB0 : B0 ≤ w.heap.size) (hF : ∀ g ∈ F, B0 ≤ g) (fd : Int) (hfd : okInt fd) {x : Hd} (hx : aGet S.D fd = some x) (n : Nd) (hn : NdOk n) (hkind : n.kind = 1) (hin : (S.W.T.get n.id).2 = true) (h0 : S.W.T.l ≠ [])
    {gf gn gl gs gp gb ob cp cb : Nat} {l : List Pc} (hf : Blk w gf tInt #[.int .i64 fd]) (hnb : Blk w gn tNd n.cells) (hlb : Blk w gl tPieces #[.slice (some ⟨gp, 0, none⟩) l.length cp]) {bs : List UInt8} (hsb : Blk w gs tBytes #[.slice (some ⟨gb, ob, none⟩) bs.length cb])
    (hcp : l.length ≤ cp) (hl : PcBlk w gp l) (hb : Bytes w (.slice (some ⟨gb, ob, none⟩) bs.length cb) bs) (hpc : ∀ p ∈ l, PcOk p) (hll : l.length ≤ 1000000) (hsum : pcSum l = bs.length) (hbl : bs.length ≤ 1048576) (he0 : 0 ≤ endN l 0) (he1 : endN l 0 ≤ 16384)
    (hK : ∀ g ∈ [gf, gn, gl, gs, gp, gb], g < w.heap.size ∧ g ∉ F) :
    DoOk 63 #[.pointer (some ⟨gf, 0, none⟩), .pointer (some ⟨gn, 0, none⟩), .pointer (some ⟨gl, 0, none⟩), .pointer (some ⟨gs, 0, none⟩)] w F [] S (S.laid fd x n l bs)
      (KeptI B0 A L w [gf, gn, gl, gs, gp, gb]) (KeptI B0 A L w [gf, gn, gl, gs, gp, gb]) := by
  rintro w1 v1 F1 hI hV hsz hF1
  have hB : ∀ g ∈ F1, B0 ≤ g := fun g hg => by
    rcases hF1 g hg with h1 | h1
    · exact hF g h1
    · omega
  have hKF : ∀ g ∈ [gf, gn, gl, gs, gp, gb], g ∉ F1 := fun g hg hg' => by
    have := hK g hg
    rcases hF1 g hg' with h1 | h1
    · exact this.2 h1
    · omega
  have f1 : Blk w1 gf tInt #[.int .i64 fd] := (hI.k gf (by simp)).trans hf
  have n1 : Blk w1 gn tNd n.cells := (hI.k gn (by simp)).trans hnb
  have l1 : Blk w1 gl tPieces #[.slice (some ⟨gp, 0, none⟩) l.length cp] := (hI.k gl (by simp)).trans hlb
  have s1 : Blk w1 gs tBytes #[.slice (some ⟨gb, ob, none⟩) bs.length cb] := (hI.k gs (by simp)).trans hsb
  have p1 : PcBlk w1 gp l := by
    obtain ⟨cs, hc, hcs⟩ := hl
    exact ⟨cs, (hI.k gp (by simp)).trans hc, hcs⟩
  have b1 := bytes_heap hb (hI.k gb (by simp))
  have hlay := vol_lay hI.G hV hB fd hfd hx n hn hkind hin h0 hcp p1 (hKF gp (by simp)) hpc hll b1 hsum hbl he0 he1
  have HLAY := Lib.hid hlay
  have HI := Lib.hid hI
  have q0 := f1.cell 0
  have q1 := l1.cell 0
  have q2 := s1.cell 0
  have k0 := n1.cell 0
  have k1 := n1.cell 1
  have k2 := n1.cell 2
  have k3 := n1.cell 3
  have k4 := n1.cell 4
  have k5 := n1.cell 5
  obtain ⟨y1, y2, y3, y4, y5, y6⟩ := n
  simp only [Nd.cells, List.getElem?_toArray, List.getElem?_cons_zero, List.getElem?_cons_succ] at q0 q1 q2 k0 k1 k2 k3 k4 k5
  simp only [Nd.val] at HLAY
  have hvlt := hV.vlt
  clear hlay f1 n1 l1 s1 p1 b1 hI hV hf hnb hlb hsb hl hb hx hn hkind hin hsum
  go_enter Tryz.func63, Tryz.ntmps63
  go_wp2_with fail
  refine HLAY.out.mono ?_
  rintro e w2 ⟨rfl, F2, m2, wi2, hV2⟩
  go_wp2_with fail
  go_ret
  refine ⟨rfl, F2, m2.mono (fun g hg => by simp [hg]), wi2, hV2, ?_⟩
  refine ⟨HI.out.G.mods m2 hB, fun g hg => ?_⟩
  rw [m2.block g (by have := (hK g hg).1; omega) (hKF g hg)]
  exact HI.out.k g hg
end Go.Proofs.YtaiigmiiidldcaaGreatDoor

namespace Go.Proofs.YtaiigmiiidldcaaGreatDoor
open Go.RowKit Go.Maps
open Go.ChangeMaps (setBlock)

theorem enters_write1 : ∀ args w, (callFunc 63 args).run Tryz.prog w = .ok (.enter 63 args) w := enters_of Tryz.func63 (by kernel_rfl) rfl

set_option maxRecDepth 100000 in
set_option maxHeartbeats 4000000 in
theorem vol_Write_ok {B0 : Nat} {A : Nat → Addr} {L : List Nat} {w : World} (G : Glob B0 A L w) {v : Nat} {S : VolSt} {F : List Nat} (h : VolRep w v S F) (hF : ∀ g ∈ F, B0 ≤ g) (fd : Int) (hfd : okInt fd) {xn : Int} {a : Nat} (hx : aGet S.D fd = some ⟨xn, (a : Int)⟩) (hxn : okInt xn) {n : Nd} (hnd : (S.W.T.get xn).1 = n) (hn : NdOk n) (hkind : n.kind = 1) (hin : (S.W.T.get n.id).2 = true) (h0 : S.W.T.l ≠ [])
    {gb ob cb : Nat} {bs : List UInt8} (hb : Bytes w (.slice (some ⟨gb, ob, none⟩) bs.length cb) bs) (hne : bs ≠ []) (hbig : bs.length ≤ 1048576) {M : Nat} (hM : M = min bs.length 1024) (ha : a + M ≤ 16384)
    (hlost : ∀ p ∈ piecesN M (a : Int) (M : Int), ∃ l, S.B.blk (n.id, p.index) = some l)
    {S' : VolSt} (hS : S' = S.laid fd ⟨xn, (a : Int)⟩ n (piecesN M (a : Int) (M : Int)) (bs.take M)) (hB : VolB S) (hB' : VolB S') (hc : (S'.charge : Int) ≤ S.q ∨ S'.charge ≤ S.charge) :
    Calls Tryz.prog 18 #[.pointer (some ⟨v, 0, none⟩), .int .i64 fd, .slice (some ⟨gb, ob, none⟩) bs.length cb] w fun e w' => e = .returned (.tuple #[.int .i64 (M : Int), .nilIface]) ∧ ∃ F', Mods F w w' ∧ Within w F F' ∧ VolRep w' v S' F' := by
  obtain ⟨t, b, f, Ft, Fb, Ff, hv, hFe⟩ := id h
  have hblp := List.length_pos_iff.2 hne
  have hMl : M ≤ bs.length := by omega
  have hM1 : 1 ≤ M := by omega
  have hMk : M ≤ 1024 := by omega
  have hMe : min ((bs.length : Nat) : Int) 1024 = (M : Int) := by omega
  obtain ⟨pf1, pf2, pf3, pf4⟩ := pieces_facts M a M (Nat.le_refl _) ha
  obtain ⟨pf5, pf6⟩ := pf4 hM1
  have pf5 := pf5 0
  generalize hle : piecesN M (a : Int) (M : Int) = l at *
  have HLE := Lib.hid hle
  have hcb : bs.length ≤ cb := by
    obtain ⟨A', c', e1, hc', _⟩ := hb
    cases e1
    exact hc'
  have hM0 : ((M : Int) == 0) = false := by simp; omega
  have hcb0 : ¬ cb = 0 := by omega
  have hMc : M ≤ cb := by omega
  have hgb : gb < w.heap.size ∧ gb ∉ F := by
    obtain ⟨A', c', e1, _, h3⟩ := hb
    obtain ⟨g, o, e2, ⟨cs, fr, hr⟩, _⟩ := h3 hne
    cases e1
    cases e2
    exact ⟨lt_of_heap hr, fun hg => h.noBytes _ hg _ _ hr⟩
  have m0 := ((Mods.refl [] w).alloc (.cells #[.int .i64 fd] tInt)).alloc (.cells #[.slice (some ⟨gb, ob, none⟩) bs.length cb] tBytes)
  have fb := (Blk.new w tInt #[.int .i64 fd]).alloc (.cells #[.slice (some ⟨gb, ob, none⟩) bs.length cb] tBytes)
  have bb := Blk.new (w.alloc (.cells #[.int .i64 fd] tInt)) tBytes #[.slice (some ⟨gb, ob, none⟩) bs.length cb]
  rw [World.size_alloc] at bb
  have hat := vol_at_yes (h.mods0 m0) fd hfd hx hxn
  rw [hnd] at hat
  have HH := Lib.hid h
  have HG := Lib.hid G
  have HB := Lib.hid hb
  have HX := Lib.hid hx
  have HN := Lib.hid hn
  have HIN := Lib.hid hin
  have HLOST := Lib.hid hlost
  have HS := Lib.hid hS
  have hvlt := h.vlt
  have hlF := h.lt
  have hid1 := hn.id1
  have hid2 := hn.id2
  obtain ⟨y1, y2, y3, y4, y5, y6⟩ := n
  simp only [Hd.val, Nd.val] at *
  subst hkind
  have q0 := fb.cell 0
  have q1 := bb.cell 0
  simp only [List.getElem?_toArray, List.getElem?_cons_zero] at q0 q1
  have HM := Lib.hid hM
  have hsz := G.size
  have HPF1 := Lib.hid pf1
  have HPF2 := Lib.hid pf2
  have HPF5 := Lib.hid pf5
  have HV := Lib.hid hv
  have c1 := hv.blk.cell 1
  simp only [List.getElem?_toArray, List.getElem?_cons_zero, List.getElem?_cons_succ] at c1
  have HFE := Lib.hid hFe
  have HPF4 := Lib.hid pf4
  clear h G hb hx hn hin hlost hS hnd hM pf1 pf2 pf5 hle hv hFe pf4
  go_enter Tryz.func18, Tryz.ntmps18
  go_wp2_with fail
  refine hat.mono ?_
  rintro e w1 ⟨rfl, m1⟩
  clear hat q0 q1
  have mA := ((m0.then m1).alloc (.cells #[.int .i64 xn, .int .i64 (a : Int)] tHandle)).alloc (.cells #[.int .i64 y1, .int .i64 1, .int .i64 y3, .int .i64 y4, .string y5, .int .i64 y6] tNd)
  have hb1 := (Blk.new w1 tHandle #[.int .i64 xn, .int .i64 (a : Int)]).alloc (.cells #[.int .i64 y1, .int .i64 1, .int .i64 y3, .int .i64 y4, .string y5, .int .i64 y6] tNd)
  have nb1 := Blk.new (w1.alloc (.cells #[.int .i64 xn, .int .i64 (a : Int)] tHandle)) tNd #[.int .i64 y1, .int .i64 1, .int .i64 y3, .int .i64 y4, .string y5, .int .i64 y6]
  rw [World.size_alloc] at nb1
  have fb1 := ((fb.mods0 m1).alloc (.cells #[.int .i64 xn, .int .i64 (a : Int)] tHandle)).alloc (.cells #[.int .i64 y1, .int .i64 1, .int .i64 y3, .int .i64 y4, .string y5, .int .i64 y6] tNd)
  have bb1 := ((bb.mods0 m1).alloc (.cells #[.int .i64 xn, .int .i64 (a : Int)] tHandle)).alloc (.cells #[.int .i64 y1, .int .i64 1, .int .i64 y3, .int .i64 y4, .string y5, .int .i64 y6] tNd)
  have fr := bb1.frozen
  have q1 := bb1.cell 0
  have k0 := hb1.cell 0
  have k1 := hb1.cell 1
  simp only [List.getElem?_toArray, List.getElem?_cons_zero, List.getElem?_cons_succ] at q1 k0 k1
  have ltb := bb1.lt
  have lth := hb1.lt
  have sz1 := m1.size
  simp only [World.size_alloc] at sz1
  have hf16 : ¬ ((16384 : Int) < (a : Int) + (M : Int)) := by omega
  go_wp2_with fail
  have mS := (Mods.refl [w.heap.size + 1] ((w1.alloc (.cells #[.int .i64 xn, .int .i64 (a : Int)] tHandle)).alloc (.cells #[.int .i64 y1, .int .i64 1, .int .i64 y3, .int .i64 y4, .string y5, .int .i64 y6] tNd))).setCell (p := ⟨w.heap.size + 1, 0, none⟩) (.inl (by simp)) (.slice (some ⟨gb, ob, none⟩) M cb)
  have mW := mA.trans mS (by intro g hg; simp at hg; subst hg; right; omega)
  have fb2 := fb1.mods mS (by simp)
  have nb2 := nb1.mods mS (by simp; omega)
  have hb2 := hb1.mods mS (by simp; omega)
  have bb2 := bb1.set_ 0 (.slice (some ⟨gb, ob, none⟩) M cb)
  simp only [List.setIfInBounds_toArray, List.set_cons_zero] at bb2
  obtain ⟨W2, hW2⟩ : ∃ W2, (((w1.alloc (.cells #[.int .i64 xn, .int .i64 (a : Int)] tHandle)).alloc (.cells #[.int .i64 y1, .int .i64 1, .int .i64 y3, .int .i64 y4, .string y5, .int .i64 y6] tNd)).setCell ⟨w.heap.size + 1, 0, none⟩ (.slice (some ⟨gb, ob, none⟩) M cb)) = W2 := ⟨_, rfl⟩
  have sz2 : w1.heap.size + 2 ≤ W2.heap.size := by rw [← hW2]; simp
  rw [hW2] at mS mW fb2 nb2 hb2 bb2 ⊢
  clear hW2
  have hPc := span_Pieces (w := W2) (a : Int) (M : Int) (by omega) (by omega) (by omega) (by omega)
  rw [Int.toNat_natCast, HLE.out] at hPc
  refine hPc.mono ?_
  rintro e w3 ⟨vr, rfl, hrow, m3⟩
  clear hPc
  obtain ⟨gp, cp, rfl, hgp, hcp, hpb⟩ := PcRow.blk hrow pf6
  have mL := (Mods.refl [] w3).alloc (.cells #[.slice (some ⟨gp, 0, none⟩) l.length cp] tPieces)
  have lb3 := Blk.new w3 tPieces #[.slice (some ⟨gp, 0, none⟩) l.length cp]
  have m4 := mW.then (m3.then mL)
  have m34 := m3.then mL
  have fb3 := fb2.mods0 m34
  have nb3 := nb2.mods0 m34
  have bb3 := bb2.mods0 m34
  have pb3 := hpb.mods0 mL
  have sz3 := m3.size
  have HPB := Lib.hid pb3
  clear hrow fb1 bb1 hb1 nb1 q1 k0 k1 fr hb2 fb2 nb2 bb2 mS mW hpb pb3
  go_wp2_with fail
  go_loopw [49] (fun s49 wr => ∃ k : Nat, k ≤ l.length ∧ s49 = .int .i64 k ∧ Mods [] (w3.alloc (.cells #[.slice (some ⟨gp, 0, none⟩) l.length cp] tPieces)) wr) (fun s49 _ => l.length - (intOf s49).toNat)
  case atStart => exact ⟨0, Nat.zero_le _, rfl, Mods.refl _ _⟩
  case round =>
    obtain ⟨k, hk, rfl, mr⟩ := hrel
    have fb4 := fb3.mods0 mr
    have nb4 := nb3.mods0 mr
    have bb4 := bb3.mods0 mr
    have lb4 := lb3.mods0 mr
    have mwr := m4.then mr
    by_cases hlt : k < l.length
    · obtain ⟨p, hp⟩ : ∃ p, l[k]? = some p := ⟨_, List.getElem?_eq_getElem hlt⟩
      have hpo := HPF1.out p (List.mem_of_getElem? hp)
      obtain ⟨ol, hol⟩ := HLOST.out p (List.mem_of_getElem? hp)
      obtain ⟨q0, q1, q2⟩ := (HPB.out.mods0 mr).at hp
      obtain ⟨pi, pf, pt⟩ := p
      obtain ⟨i0, i1, f0, ft, t1⟩ := hpo
      simp only at i0 i1 f0 ft t1 q0 q1 q2 hol
      have hoc : okCel (y1, pi) := ⟨⟨by omega, by omega⟩, ⟨by omega, by omega⟩⟩
      have mP := (Mods.refl [] wr).alloc (.cells #[.int .i64 pi, .int .i64 pf, .int .i64 pt] tPiece)
      have pb := Blk.new wr tPiece #[.int .i64 pi, .int .i64 pf, .int .i64 pt]
      have p0 := pb.cell 0
      have n0 := (nb4.mods0 mP).cell 0
      simp only [List.getElem?_toArray, List.getElem?_cons_zero, List.getElem?_cons_succ] at p0 n0
      have v1 := keepMods (mwr.then mP) c1 (by simp)
      have mPD := (mwr.then mP).drew
      have HGet := Lib.hid (fun (w' : World) (m' : Mods [] w w') => body_Get_blk (HV.out.body.mods0 m') (y1, pi) hoc hol)
      simp only [celV] at HGet
      have hltv := World.block_lt_of_cell? _ _ v1
      have hltn := World.block_lt_of_cell? _ _ n0
      simp only [World.size_alloc] at hltv hltn
      clear hp hol
      go_wp2_with fail
      go_region_held3 (fun w' => w'.cell? ⟨v, 1, none⟩ = some (.pointer (some ⟨b, 0, none⟩)) ∧ w'.cell? ⟨w1.heap.size + 1, 0, none⟩ = some (.int .i64 y1) ∧ w'.cell? ⟨wr.heap.size, 0, none⟩ = some (.int .i64 pi)) (refine ⟨?_, ?_, ?_⟩ <;> (repeat (first | with_reducible assumption | with_reducible refine keepAlloc ?_ | with_reducible refine keepDrew ?_)))
        (first
          | (go_at_call 60; refine (HGet.out _ mPD).mono ?_; rintro e w5 ⟨vo, rfl, m5, hbo, -⟩; have v1 := keepMods m5 (keepDrew v1) (by simp); have n0 := keepMods m5 (keepDrew n0) (by simp); have p0 := keepMods m5 (keepDrew p0) (by simp)))
      have mr5 : Mods [] (w3.alloc (.cells #[.slice (some ⟨gp, 0, none⟩) l.length cp] tPieces)) w5 := ((mr.then mP).drew).then m5
      go_wp2_with fail
      go_roundw
      case rel => exact ⟨k + 1, by omega, by go_num, mr5⟩
      case measure => simp [intOf]; omega
    · obtain rfl : k = l.length := by omega
      have hgb4 : gb < wr.heap.size := by have := mwr.size; omega
      have szr := mr.size
      simp only [World.size_alloc] at szr
      have hb5 := HB.out.mods0 mwr
      have hbt := bytes_take hb5 hMl
      have hMt : (bs.take M).length = M := by rw [List.length_take]; omega
      have hV4 := HH.out.mods0 mwr
      have hS' := HS.out
      have hlF1 : ∀ g ∈ F, g < w.heap.size := hlF
      have hKS : ∀ g ∈ [w.heap.size, w1.heap.size + 1, w3.heap.size, w.heap.size + 1, gp, gb], g < wr.heap.size ∧ g ∉ F := by
        intro g hg
        simp only [List.mem_cons, List.mem_nil_iff, or_false] at hg
        have hlp := HPB.out.lt
        simp only [World.size_alloc] at hlp
        rcases hg with rfl | rfl | rfl | rfl | rfl | rfl
        · exact ⟨by omega, fun h1 => by have := hlF _ h1; omega⟩
        · exact ⟨by omega, fun h1 => by have := hlF _ h1; omega⟩
        · exact ⟨by omega, fun h1 => by have := hlF _ h1; omega⟩
        · exact ⟨by omega, fun h1 => by have := hlF _ h1; omega⟩
        · exact ⟨by omega, fun h1 => by have := hlF _ h1; omega⟩
        · exact ⟨hgb4, hgb.2⟩
      have hGr := HG.out.mods0 mwr
      have hdo := write1_do (B0 := B0) (A := A) (L := L) (w := wr) (F := F) (S := S) (bs := bs.take M) (x := ⟨xn, (a : Int)⟩) (n := ⟨y1, 1, y3, y4, y5, y6⟩) hGr.size hF fd hfd HX.out HN.out rfl HIN.out h0 fb4 nb4 lb4 (by rw [hMt]; exact bb4) hcp (HPB.out.mods0 mr) (by rw [hMt]; exact hbt) HPF1.out (by omega) (by rw [hMt]; exact HPF2.out) (by omega) (by rw [HPF5.out]; omega) (by rw [HPF5.out]; omega) hKS
      rw [← hS'] at hdo
      have htr := vol_tried_yes hV4 hB hB' (by rw [hS']; rfl) enters_write1 (I := KeptI B0 A L wr [w.heap.size, w1.heap.size + 1, w3.heap.size, w.heap.size + 1, gp, gb]) (J := KeptI B0 A L wr [w.heap.size, w1.heap.size + 1, w3.heap.size, w.heap.size + 1, gp, gb]) ⟨hGr, fun g hg => rfl⟩ (KeptI.stays hF hGr.size hKS) (fun x hx => hx) (K := []) (by simp) (by intro g hg; cases hg) hdo hc
      have HTR := Lib.hid htr
      have bq := bb4.cell 0
      simp only [List.getElem?_toArray, List.getElem?_cons_zero] at bq
      clear htr hdo hS' hV4 hb5 hbt fb4 nb4 lb4 bb4 fb3 nb3 bb3 lb3
      go_wp2_with fail
      refine HTR.out.mono ?_
      rintro e w6 ⟨rfl, F6, m6, wi6, hV6, hJ6⟩
      have bq6 := (World.cell?_of_block (a := ⟨w.heap.size + 1, 0, none⟩) (hJ6.k (w.heap.size + 1) (by simp))).trans bq
      clear bq
      go_wp2_with fail
      go_ret2
      rw [List.append_nil] at m6
      refine ⟨rfl, F6, mwr.of_nil.trans m6 (fun g hg => .inl hg), fun g hg => ?_, hV6⟩
      rcases wi6 g hg with h1 | h1
      · exact .inl h1
      · right; have := mwr.size; omega
end Go.Proofs.YtaiigmiiidldcaaGreatDoor

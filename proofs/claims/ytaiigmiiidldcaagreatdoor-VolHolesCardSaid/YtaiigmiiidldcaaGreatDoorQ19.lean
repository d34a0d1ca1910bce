/- Packages walk, tree: Clone; Package span: Pieces; Package span: Lay; Package vol: a volume, New; Package vol: Clone, Seek; Package vol: Seek; Package vol: at. -/
import Derived.Test.YtaiigmiiidldcaaGreatDoorQ18
set_option linter.unusedSimpArgs false
set_option linter.unusedVariables false
namespace Go.Proofs.YtaiigmiiidldcaaGreatDoor
open Go.RowKit Go.Maps
open Go.ChangeMaps (setBlock)

def conts (raw : List (Int × DirG)) : List (Int × DirC) := raw.map fun r => (r.1, r.2.2.1)

theorem dOf_conts (raw : List (Int × DirG)) (i : Int) : dOf raw i = (aGet (conts raw) i).getD [] := by
  unfold dOf conts
  rw [aGet_map (fun v : DirG => v.2.1)]
  cases aGet raw i <;> rfl

set_option maxRecDepth 100000 in
set_option maxHeartbeats 2000000 in
theorem world_Clone {w : World} {p : Nat} {W : Wld} {F : List Nat} (h : WldRep w p W F) :
    Calls Tryz.prog 170 #[.pointer (some ⟨p, 0, none⟩)] w fun e w' => ∃ x F', e = .returned (.pointer (some ⟨x, 0, none⟩)) ∧ Mods [] w w' ∧ WldRep w' x W F' ∧ (∀ g ∈ F', w.heap.size ≤ g) := by
  obtain ⟨t, m, Ft, raw, h, rfl⟩ := h
  have hb := h.blk
  have c0 := hb.cell 0
  have c1 := hb.cell 1
  simp at c0 c1
  have hltp := hb.lt
  have hltm := h.map.lt
  have htc := table_Clone h.tab
  have HI := Lib.hid h
  have hmm := @run_makeMap Tryz.prog
  clear hb h
  go_enter Tryz.func170, Tryz.ntmps170
  go_wp2_with fail
  refine htc.mono ?_
  rintro e w1 ⟨t2, Ft2, rfl, m1, hT2, hF2, hn2, -⟩
  have mA := (m1.alloc (.map #[] 0)).alloc (.cells #[.pointer (some ⟨t2, 0, none⟩), .map (some w1.heap.size)] tWorld)
  have hIA := HI.out.mods0 mA
  obtain ⟨o, hr, hi⟩ := hIA.map.run_range Tryz.underlying129
  have hbA := hIA.blk
  have a0 := hbA.cell 0
  have a1 := hbA.cell 1
  simp at a0 a1
  have hm2 := (MapRep.new w1 intV dirV okInt).alloc (.cells #[.pointer (some ⟨t2, 0, none⟩), .map (some w1.heap.size)] tWorld)
  have hx2 := Blk.new (w1.alloc (.map #[] 0)) tWorld #[.pointer (some ⟨t2, 0, none⟩), .map (some w1.heap.size)]
  rw [World.size_alloc] at hx2
  simp only [World.size_alloc] at hr hi
  have hsz := m1.size
  have hlt2 := hT2.lt
  have mAA := (Mods.refl [] w1).alloc (.map #[] 0) |>.alloc (.cells #[.pointer (some ⟨t2, 0, none⟩), .map (some w1.heap.size)] tWorld)
  clear htc hbA hIA
  go_wp2_with fail
  go_loopw [] (fun wr => ∃ left done raw2, raw.Perm (done ++ left) ∧ IterRep wr (w1.heap.size + 1 + 1) m intV dirV left ∧ Mods [] w wr ∧ Blk wr (w1.heap.size + 1) tWorld #[.pointer (some ⟨t2, 0, none⟩), .map (some w1.heap.size)] ∧ TableRep wr t2 W.T Ft2 ∧ MapRep wr w1.heap.size intV dirV okInt raw2 ∧ conts raw2 = conts done ∧ (∀ r ∈ raw2, DirRep wr r.2.1 r.2.2.1 r.2.2.2) ∧ (∀ g ∈ foot raw2, w1.heap.size + 1 + 1 < g) ∧ (foot raw2).Nodup) (fun wr => iterN wr (w1.heap.size + 1 + 1) m)
  case atStart =>
    refine ⟨raw, [], [], List.Perm.refl _, hi, mA.alloc _, hx2.alloc _, (hT2.mods0 mAA).mods0 ((Mods.refl [] _).alloc _), hm2.alloc _, rfl, by simp, by simp [foot], by simp [foot]⟩
  case round =>
    obtain ⟨left, done, raw2, hperm, hit, mr, hx, hT, hmr, hco, hds, hfo, hnd⟩ := hrel
    have hl0 := hit.lt
    have hitn : m ≠ w1.heap.size + 1 + 1 := by omega
    rcases hit.next (P := Tryz.prog) (by omega) with ⟨rfl, hnx⟩ | ⟨q, left', w2, hp, hnx, hit', hen, m2, s2⟩
    · clear hit hr hi
      go_wp2_with fail
      go_ret
      have hnF : ((w1.heap.size + 1) :: w1.heap.size :: (Ft2 ++ foot raw2)).Nodup := by
        refine List.nodup_cons.2 ⟨fun hg => ?_, List.nodup_cons.2 ⟨fun hg => ?_, List.nodup_append.2 ⟨hn2, hnd, ?_⟩⟩⟩
        · rcases List.mem_cons.1 hg with hg | hg
          · omega
          rcases List.mem_append.1 hg with hg | hg
          · have := hlt2 _ hg; omega
          · have := hfo _ hg; omega
        · rcases List.mem_append.1 hg with hg | hg
          · have := hlt2 _ hg; omega
          · have := hfo _ hg; omega
        · rintro a ha b hb rfl
          have := hlt2 _ ha
          have := hfo _ hb
          omega
      have hδ : ∀ i, W.δ i = dOf raw2 i := by
        intro i
        rw [HI.out.δ, dOf_conts raw2, hco, ← dOf_conts]
        unfold dOf
        rw [aGet_perm hperm HI.out.map.nodup]
        simp
      refine ⟨_, _, rfl, mr, (⟨hx, hT, hmr, hds, hδ, hnF⟩ : WldIs _ _ _ _ _ _ _).rep, ?_⟩
      intro g hg
      simp only [List.mem_cons, List.mem_append] at hg
      rcases hg with rfl | rfl | hg | hg
      · omega
      · omega
      · exact hF2 g hg
      · have := hfo g hg; omega
    · have hmeas : left'.length < left.length := by have := hp.length_eq; simp at this; omega
      obtain ⟨i, d, D, Fd⟩ := q
      have hq : (i, d, D, Fd) ∈ raw := hperm.mem_iff.2 (List.mem_append.2 (.inr (hp.mem_iff.2 (by simp))))
      have hok := HI.out.map.oks _ hq
      have hn1 := hit.n
      have mw2 : Mods [] w w2 := mr.trans m2 (by intro g hg; simp at hg; subst hg; right; omega)
      have hd2 := (HI.out.mods0 mw2).dirs _ hq
      have hdD := hd2.mods0 (Mods.refl [] w2).drew
      have hdc := dir_Clone hdD
      have hx2 := hx.mods m2 (by simp)
      have hT2 := hT.mods m2 (fun g hg => by have := hlt2 _ hg; simp; omega)
      have hm2 := hmr.mods m2 (by simp; omega)
      have hds2 := fun r hr' => (hds r hr').mods m2 (fun g hg => by have := hfo g (List.mem_flatMap.2 ⟨r, hr', hg⟩); simp; omega)
      have hnotin : aGet raw2 i = none := by
        have hnk : ((done ++ left).map (·.1)).Nodup := (hperm.map _).nodup_iff.1 HI.out.map.nodup
        have hnk2 : ((done ++ (i, d, D, Fd) :: left').map (·.1)).Nodup := ((List.Perm.append_left done hp).map _).nodup_iff.1 hnk
        rw [List.map_append] at hnk2
        obtain ⟨_, _, h3⟩ := List.nodup_append.1 hnk2
        refine aGet_none.2 fun r hr' e => ?_
        have : r.1 ∈ (conts raw2).map (·.1) := List.mem_map.2 ⟨(r.1, r.2.2.1), List.mem_map.2 ⟨r, hr', rfl⟩, rfl⟩
        rw [hco] at this
        obtain ⟨y, hy, e2⟩ := List.mem_map.1 this
        obtain ⟨z, hz, e3⟩ := List.mem_map.1 hy
        refine h3 i (List.mem_map.2 ⟨z, hz, ?_⟩) i (by simp) rfl
        rw [← e, ← e2, ← e3]
      have x0 := hx2.cell 0
      have x1 := hx2.cell 1
      simp only [List.getElem?_toArray, List.getElem?_cons_zero, List.getElem?_cons_succ] at x0 x1
      simp only [intV, dirV] at hnx hen
      clear hr hi hit s2
      simp only at hdc
      have hsw2 := m2.size
      go_upto_region 5 with fail
      go_region_held3 (fun w' => w'.cell? ⟨w1.heap.size + 1, 1, none⟩ = some (.map (some w1.heap.size))) (first | with_reducible assumption | (with_reducible refine keepDrew ?_; with_reducible assumption))
        (first | (go_at_call 237; refine hdc.mono ?_; rintro e w3 ⟨d', F', rfl, m3, hd3, hF3, hn3, -⟩; have hx3 := hx2.drew.mods m3 (by simp); have z1 := hx3.cell 1; have hm3 := (hm2.drew).mods m3 (by simp); obtain ⟨w4, hu, m4, hs4, hm4⟩ := hm3.update intEnc Tryz.underlying129 (k := i) hok ((d', D, F') : DirG); simp only [intV, dirV] at hu; have hx4 := hx3.mods m4 (by simp); have y1 := hx4.cell 1; simp only [List.getElem?_toArray, List.getElem?_cons_zero, List.getElem?_cons_succ] at z1 y1))
      have hap := aPut_append hnotin (v := ((d', D, F') : DirG))
      have hit4 := ((hit'.mods ((Mods.refl [] w2).drew) (by simp) (by simp)).mods m3 (by simp) (by simp)).mods m4 (by simp; omega) (by simp; omega)
      have hsz3 : w2.heap.size ≤ w3.heap.size := m3.size
      have mW4 : Mods [] w w4 := (mw2.drew.then m3).trans m4 (by intro g hg; simp at hg; subst hg; right; omega)
      have hF3' : ∀ g ∈ F', w2.heap.size ≤ g := hF3
      have hraw2 : ∀ r ∈ raw2, ∀ g ∈ r.2.2.2, g < w2.heap.size := fun r hr' => (hds2 r hr').lt
      clear hnx hen hu hdc
      go_wp2_with fail
      go_roundw
      case rel =>
        refine ⟨left', done ++ [(i, d, D, Fd)], aPut raw2 i (d', D, F'), ?_, hit4, mW4, hx4, ?_, hm4, ?_, ?_, ?_, ?_⟩
        · have := hperm.trans (List.Perm.append_left done hp)
          simpa [List.append_assoc] using this
        · exact (((hT2.mods0 (Mods.refl [] w2).drew).mods0 m3).mods m4 (fun g hg => by have := hlt2 g hg; simp; omega))
        · rw [hap]
          unfold conts at hco ⊢
          rw [List.map_append, List.map_append, hco]
          rfl
        · intro r hr'
          rw [hap] at hr'
          rcases List.mem_append.1 hr' with hr' | hr'
          · exact (((hds2 r hr').mods0 (Mods.refl [] w2).drew).mods0 m3).mods m4 (fun g hg => by have := hfo g (List.mem_flatMap.2 ⟨r, hr', hg⟩); simp; omega)
          · obtain rfl := List.mem_singleton.1 hr'
            exact hd3.mods m4 (fun g hg => by have := hF3' g hg; simp; omega)
        · intro g hg
          rw [hap] at hg
          simp only [foot, List.flatMap_append, List.mem_append, List.flatMap_cons, List.flatMap_nil, List.append_nil] at hg
          rcases hg with hg | hg
          · exact hfo g hg
          · have := hF3' g hg; omega
        · rw [hap]
          simp only [foot, List.flatMap_append, List.flatMap_cons, List.flatMap_nil, List.append_nil]
          refine List.nodup_append.2 ⟨hnd, hn3, ?_⟩
          rintro a ha b hb rfl
          obtain ⟨r, hr', hg⟩ := List.mem_flatMap.1 ha
          have := hraw2 r hr' a hg
          have := hF3' a hb
          omega
      case measure => rw [hn1, hit4.n]; exact hmeas

set_option maxRecDepth 100000 in
set_option maxHeartbeats 1000000 in
theorem tree_Clone {w : World} {t : Nat} {W : Wld} {F : List Nat} (h : TreeRep w t W F) :
    Calls Tryz.prog 93 #[.pointer (some ⟨t, 0, none⟩)] w fun e w' => ∃ x F', e = .returned (.pointer (some ⟨x, 0, none⟩)) ∧ Mods [] w w' ∧ TreeRep w' x W F' ∧ (∀ g ∈ F', w.heap.size ≤ g) := by
  obtain ⟨p, F1, hb, hw, rfl, hn⟩ := h
  have hc := world_Clone hw
  have c0 := hb.cell 0
  simp at c0
  go_enter Tryz.func93, Tryz.ntmps93
  go_wp2_with fail
  refine hc.mono ?_
  rintro e w1 ⟨x, F', rfl, m1, hw1, hF⟩
  go_wp2_with fail
  go_ret
  have hl := hw1.lt
  refine ⟨_, w1.heap.size :: F', rfl, m1.alloc _, ⟨x, F', Blk.new _ _ _, hw1.mods0 ((Mods.refl [] _).alloc _), rfl, fun hh => by have := hl _ hh; omega⟩, ?_⟩
  intro g hg
  rcases List.mem_cons.1 hg with rfl | hg
  · exact m1.size
  · exact hF g hg
end Go.Proofs.YtaiigmiiidldcaaGreatDoor

namespace Go.Proofs.YtaiigmiiidldcaaGreatDoor
open Go.RowKit Go.Maps
open Go.ChangeMaps (setBlock)

abbrev tPieces : TypeId := 115

def Pc.cells (p : Pc) : List Value := [.int .i64 p.index, .int .i64 p.from_, .int .i64 p.to_]

def stepOf (a n : Int) : Int := min n (256 - a % 256)

/-- Bytes, block by block. -/
def piecesN : Nat → Int → Int → List Pc
  | 0, _, _ => []
  | k + 1, a, n => if n ≤ 0 then [] else ⟨a / 256, a % 256, a % 256 + stepOf a n⟩ :: piecesN k (a + stepOf a n) (n - stepOf a n)

theorem info_piece : (Tryz.prog.info? tPiece).map (fun i => (i.zero, i.size, i.bytes)) = some (some (.agg #[.int .i64 0, .int .i64 0, .int .i64 0]), 3, 24) := by kernel_rfl

/-- A row of pieces of the call's own. -/
def PcRow (w : World) (base : Nat) (v : Value) (l : List Pc) : Prop := w.ownsRow base tPiece 3 v l.length (l.flatMap Pc.cells)

set_option maxRecDepth 100000 in
set_option maxHeartbeats 2000000 in
theorem span_Pieces {w : World} (a n : Int) (ha0 : 0 ≤ a) (ha1 : a ≤ 1099511627776) (hn0 : 1 ≤ n) (hn1 : n ≤ 1048576) :
    Calls Tryz.prog 59 #[.int .i64 a, .int .i64 n] w fun e w' => ∃ v, e = .returned v ∧ PcRow w' w.heap.size v (piecesN n.toNat a n) ∧ Mods [] w w' := by
  obtain ⟨i0, hi, hz0, hz1, hz2⟩ := info_parts info_piece
  obtain ⟨R, hR⟩ : ∃ R, piecesN n.toNat a n = R := ⟨_, rfl⟩
  rw [hR]
  have f1 : ¬ (a < 0) := by omega
  have f2 : ¬ (1099511627776 < a) := by omega
  have f3 : ¬ (n < 1) := by omega
  have f4 : ¬ (1048576 < n) := by omega
  have HI := Lib.hid hi
  go_enter Tryz.func59, Tryz.ntmps59
  go_wp2_with fail
  go_loopw [0, 1, 5] (fun s0 s1 s5 wr => ∃ (a' r : Int) (k : Nat) (acc : List Pc) (v : Value), s0 = .int .i64 a' ∧ s1 = .int .i64 r ∧ s5 = v ∧ 0 ≤ r ∧ 0 ≤ a' ∧ a' + r = a + n ∧ r ≤ k ∧ PcRow wr w.heap.size v acc ∧ acc ++ piecesN k a' r = R ∧ acc.length + r ≤ n ∧ Mods [] w wr) (fun _ s1 _ _ => (intOf s1).toNat)
  case atStart =>
    exact ⟨a, n, n.toNat, [], _, rfl, rfl, rfl, by omega, ha0, rfl, by omega, World.ownsRow_nil _ _ _ _, hR, by simp, Mods.refl _ _⟩
  case round =>
    obtain ⟨a', r, k, acc, v, rfl, rfl, rfl, hr0, hap, har, hrk, hown, hrel, hlen, mr⟩ := hrel
    by_cases hr : r = 0
    · subst hr
      have hx : piecesN k a' 0 = [] := by cases k <;> simp [piecesN]
      rw [hx, List.append_nil] at hrel
      subst hrel
      go_wp2_with fail
      go_ret
      exact ⟨_, rfl, hown, mr⟩
    · have hrp : 0 < r := by omega
      obtain ⟨k', rfl⟩ : ∃ k', k = k' + 1 := ⟨k - 1, by omega⟩
      rw [piecesN, if_neg (by omega)] at hrel
      unfold stepOf at hrel
      have hm0 : 0 ≤ a' % 256 := Int.emod_nonneg _ (by decide)
      have hm1 : a' % 256 < 256 := Int.emod_lt_of_pos _ (by decide)
      have hs1 : 1 ≤ min r (256 - a' % 256) := by omega
      have hs2 : min r (256 - a' % 256) ≤ r := by omega
      have hs3 : min r (256 - a' % 256) ≤ 256 := by omega
      have HREL := Lib.hid hrel
      have HOWN := Lib.hid hown
      clear hrel hR hi hown
      go_wp2_with (at_builtin; refine wpList_append_lies _ rfl (Operand.tmp 30) (Operand.tmp 38) tPieces rfl tPiece i0 (.agg #[.int .i64 0, .int .i64 0, .int .i64 0]) 3 24 Tryz.underlying115 HI.out hz0 hz1 hz2 rfl (by decide) u5 acc.length (acc.flatMap Pc.cells) rfl (base := w.heap.size) ?c1 ⟨wr.heap.size, 0, none⟩ 1 1 (Pc.cells ⟨a' / 256, a' % 256, a' % 256 + min r (256 - a' % 256)⟩) rfl rfl ?c6 ?c7 (by decide) ?c8 ?c9 ?c10 _ rfl ?_; rotate_right; intro g cap w1 hown1 hgr hat hlt1; have ym := mr.row HOWN.out hgr (Nat.le_refl _))
      case c1 => exact HOWN.out.alloc _
      case c6 =>
        intro j u hj
        rw [Addr.add_lit, (Blk.new wr tPiece #[.int .i64 (a' / 256), .int .i64 (a' % 256), .int .i64 (a' % 256 + min r (256 - a' % 256))]).cell, Nat.zero_add]
        simp only [List.getElem?_toArray]
        exact hj
      case c7 =>
        intro u hu
        simp only [Pc.cells, List.mem_cons, List.mem_nil_iff, or_false] at hu
        rcases hu with rfl | rfl | rfl <;> rfl
      case c8 => unfold maxLen; omega
      case c9 => omega
      case c10 => have := mr.size; simp; omega
      go_roundw
      case rel =>
        refine ⟨_, _, k', acc ++ [⟨a' / 256, a' % 256, a' % 256 + min r (256 - a' % 256)⟩], _, rfl, rfl, rfl, by omega, by omega, by omega, by omega, ?_, ?_, by simp; omega, ym⟩
        · unfold PcRow
          rw [List.flatMap_append, List.length_append]
          simpa using hown1
        · rw [← HREL.out]
          simp [stepOf]
      case measure => simp [intOf]; omega
end Go.Proofs.YtaiigmiiidldcaaGreatDoor

namespace Go.Proofs.YtaiigmiiidldcaaGreatDoor
open Go.RowKit Go.Maps
open Go.ChangeMaps (setBlock)

theorem full_length {l : List UInt8} (h : l.length ≤ 256) : (full l).length = 256 := by
  unfold full
  rw [List.length_append, length_zeros]
  omega

set_option maxRecDepth 100000 in
set_option maxHeartbeats 1000000 in
theorem span_Lay {w : World} {vo vb : Value} {lo lb : List UInt8} (ho : Bytes w vo lo) (hol : lo.length ≤ 256) (i : Int) (f t : Nat) (hft : f < t) (ht : t ≤ 256) (hbb : Bytes w vb lb) (hbl : lb.length = t - f) :
    Calls Tryz.prog 139 #[vo, Pc.val ⟨i, f, t⟩, vb] w fun e w' => e = .returned (.slice (some ⟨w.heap.size + 1, 0, none⟩) 256 256) ∧ Mods [] w w' ∧ Blk w' (w.heap.size + 1) tU8 ((spl (full lo) f lb).map bV).toArray := by
  have m0 : Mods [] w ((w.alloc (.cells #[.int .i64 i, .int .i64 f, .int .i64 t] tPiece)).alloc (.cells Z256 tU8)) := ((Mods.refl _ _).alloc _).alloc _
  have hz := Blk.new (w.alloc (.cells #[.int .i64 i, .int .i64 f, .int .i64 t] tPiece)) tU8 Z256
  have hp := (Blk.new w tPiece #[.int .i64 i, .int .i64 f, .int .i64 t]).alloc (.cells Z256 tU8)
  obtain ⟨w2, hcopy, m2, s2, z2⟩ := run_copy_bytes (dLen := 256) (dCap := 256) (o := 0) (cur := zeros 256) hz (ho.mods0 m0) (by rw [length_zeros]; exact Nat.le_refl _)
  rw [spl_zeros hol] at z2
  simp only [World.size_alloc] at hcopy m2 s2 z2 hz
  have m02 : Mods [] w w2 := m0.trans m2 (by simp)
  have hp2 := hp.mods m2 (by simp)
  have his := span_is ⟨i, f, t⟩ (by simp only; omega) (by simp only; omega) (by simp only; omega)
  have hb2 := hbb.mods0 m02
  have hmk := mk256
  have c0 := hp2.cell 0
  have c1 := hp2.cell 1
  have c2 := hp2.cell 2
  simp at c0 c1 c2
  obtain ⟨Ao, co, rfl, hco, _⟩ := id ho
  obtain ⟨Ab, cb, rfl, hcb, _⟩ := id hbb
  simp only [Pc.val] at *
  have e1 : ((t : Int) - (f : Int)).toNat = t - f := by omega
  have lt2 := z2.lt
  clear hz hp
  go_enter Tryz.func139, Tryz.ntmps139
  go_wp2_with fail
  refine (his _).mono ?_
  rintro e w3 ⟨rfl, m3⟩
  have hp3 := hp2.mods m3 (by simp)
  have z3 := z2.mods m3 (by simp)
  have d0 := hp3.cell 0
  have d1 := hp3.cell 1
  have d2 := hp3.cell 2
  simp at d0 d1 d2
  obtain ⟨w4, hcopy2, m4, s4, z4⟩ := run_copy_bytes (dLen := t - f) (dCap := 256 - f) (o := f) z3 (hb2.mods0 m3) (by rw [full_length hol]; omega)
  rw [List.take_of_length_le (by omega)] at z4 hcopy2
  simp only [hbl] at hcopy2
  have hf6 : ¬ (256 = f) := by omega
  clear hcopy hmk c0 c1 c2
  go_wp2_with fail
  go_ret
  exact ⟨rfl, (m02.then m3).trans m4 (by intro g hg; simp at hg; subst hg; right; omega), z4⟩
end Go.Proofs.YtaiigmiiidldcaaGreatDoor

namespace Go.Proofs.YtaiigmiiidldcaaGreatDoor
open Go.RowKit Go.Maps
open Go.ChangeMaps (setBlock)

abbrev tVol : TypeId := 49

/-- A volume: names and nodes, blocks, what is open, the quota. -/
structure VolSt where
  W : Wld
  B : Bod
  D : List (Int × Hd)
  q : Int

/-- Block v is a volume; Ft, Fb, Ff: the blocks of its parts. -/
structure VolIs (w : World) (v : Nat) (S : VolSt) (t b f : Nat) (Ft Fb Ff : List Nat) : Prop where
  blk : Blk w v tVol #[.pointer (some ⟨t, 0, none⟩), .pointer (some ⟨b, 0, none⟩), .pointer (some ⟨f, 0, none⟩), .int .i64 S.q]
  tree : TreeRep w t S.W Ft
  body : BodyRep w b S.B Fb
  files : FilesRep w f S.D Ff
  tb : ∀ g ∈ Ft, g ∉ Fb
  tf : ∀ g ∈ Ft, g ∉ Ff
  bf : ∀ g ∈ Fb, g ∉ Ff
  own : v ∉ Ft ∧ v ∉ Fb ∧ v ∉ Ff

def VolRep (w : World) (v : Nat) (S : VolSt) (F : List Nat) : Prop := ∃ t b f Ft Fb Ff, VolIs w v S t b f Ft Fb Ff ∧ F = v :: (Ft ++ (Fb ++ Ff))

section
variable {w w' : World} {v : Nat} {S : VolSt} {t b f : Nat} {Ft Fb Ff : List Nat}
theorem VolIs.mods0 (h : VolIs w v S t b f Ft Fb Ff) (m : Mods [] w w') : VolIs w' v S t b f Ft Fb Ff :=
  ⟨h.blk.mods0 m, h.tree.mods0 m, h.body.mods0 m, h.files.mods0 m, h.tb, h.tf, h.bf, h.own⟩
end

set_option maxRecDepth 100000 in
set_option maxHeartbeats 1000000 in
theorem vol_Of {w : World} {t b : Nat} {W : Wld} {B : Bod} {Ft Fb : List Nat} (ht : TreeRep w t W Ft) (hb : BodyRep w b B Fb) (htb : ∀ g ∈ Ft, g ∉ Fb) (q : Int) :
    Calls Tryz.prog 51 #[.pointer (some ⟨t, 0, none⟩), .pointer (some ⟨b, 0, none⟩), .int .i64 q] w fun e w' => e = .returned (.pointer (some ⟨w.heap.size + 1, 0, none⟩)) ∧ Mods [] w w' ∧ VolIs w' (w.heap.size + 1) ⟨W, B, [], q⟩ t b w.heap.size Ft Fb [w.heap.size] := by
  have hl1 := ht.lt
  have hl2 := hb.old
  go_enter Tryz.func51, Tryz.ntmps51
  go_wp2_with fail
  go_ret
  have m0 := ((Mods.refl [] w).alloc (.cells #[.map none] tFiles)).alloc (.cells #[.pointer (some ⟨t, 0, none⟩), .pointer (some ⟨b, 0, none⟩), .pointer (some ⟨w.heap.size, 0, none⟩), .int .i64 q] tVol)
  refine ⟨by simp, m0, ⟨?_, ht.mods0 m0, hb.mods0 m0, (FilesRep.new w).mods0 ((Mods.refl [] _).alloc _), htb, ?_, ?_, ?_, ?_, ?_⟩⟩
  · have := Blk.new (w.alloc (.cells #[.map none] tFiles)) tVol #[.pointer (some ⟨t, 0, none⟩), .pointer (some ⟨b, 0, none⟩), .pointer (some ⟨w.heap.size, 0, none⟩), .int .i64 q]
    rw [World.size_alloc] at this
    exact this
  · intro g hg; have := hl1 g hg; simp; omega
  · intro g hg; have := hl2 g hg; simp; omega
  · intro hg; have := hl1 _ hg; omega
  · intro hg; have := hl2 _ hg; omega
  · simp

set_option maxRecDepth 100000 in
set_option maxHeartbeats 1000000 in
theorem vol_New (w : World) (q : Int) :
    Calls Tryz.prog 15 #[.int .i64 q] w fun e w' => ∃ v F, e = .returned (.pointer (some ⟨v, 0, none⟩)) ∧ Mods [] w w' ∧ VolRep w' v ⟨W0, ⟨[], []⟩, [], q⟩ F ∧ (∀ g ∈ F, w.heap.size ≤ g) := by
  have ht := tree_New w
  go_enter Tryz.func15, Tryz.ntmps15
  go_wp2_with fail
  refine ht.mono ?_
  rintro e w1 ⟨t, Ft, rfl, m1, hT, hFt⟩
  have hb := body_New w1
  clear ht
  go_wp2_with fail
  refine hb.mono ?_
  rintro e w2 ⟨b, Fb, rfl, m2, hB, hFb⟩
  have hl1 := hT.lt
  have ho := vol_Of (hT.mods0 m2) hB (fun g hg hg' => by have := hl1 g hg; have := hFb g hg'; omega) q
  clear hb
  go_wp2_with fail
  refine ho.mono ?_
  rintro e w3 ⟨rfl, m3, hV⟩
  go_wp2_with fail
  go_ret
  have s1 := m1.size
  have s2 := m2.size
  refine ⟨_, _, rfl, (m1.then m2).then m3, ⟨_, _, _, _, _, _, hV, rfl⟩, ?_⟩
  intro g hg
  simp only [List.mem_cons, List.mem_append, List.mem_nil_iff, or_false] at hg
  rcases hg with rfl | hg | hg | rfl
  · omega
  · exact hFt g hg
  · have := hFb g hg; omega
  · omega
end Go.Proofs.YtaiigmiiidldcaaGreatDoor

namespace Go.Proofs.YtaiigmiiidldcaaGreatDoor
open Go.RowKit Go.Maps
open Go.ChangeMaps (setBlock)

theorem FilesRep.lt' {w : World} {f : Nat} {D : List (Int × Hd)} {F : List Nat} (h : FilesRep w f D F) : ∀ g ∈ F, g < w.heap.size := by
  rcases h with ⟨h, _, rfl⟩ | ⟨m, h, hm, rfl⟩
  · simpa using h.lt
  · simpa using ⟨h.lt, hm.lt⟩

set_option maxRecDepth 100000 in
set_option maxHeartbeats 2000000 in
theorem vol_Clone {w : World} {v : Nat} {S : VolSt} {F : List Nat} (h : VolRep w v S F) :
    Calls Tryz.prog 45 #[.pointer (some ⟨v, 0, none⟩)] w fun e w' => ∃ v' F', e = .returned (.pointer (some ⟨v', 0, none⟩)) ∧ Mods [] w w' ∧ VolRep w' v' S F' ∧ (∀ g ∈ F', w.heap.size ≤ g) := by
  obtain ⟨t, b, f, Ft, Fb, Ff, h, rfl⟩ := h
  have hb := h.blk
  have c0 := hb.cell 0
  have c1 := hb.cell 1
  have c2 := hb.cell 2
  have c3 := hb.cell 3
  simp only [List.getElem?_toArray, List.getElem?_cons_zero, List.getElem?_cons_succ] at c0 c1 c2 c3
  have HT := Lib.hid (fun (w' : World) (m' : Mods [] w w') => tree_Clone (h.tree.mods0 m'))
  have HB := Lib.hid (fun (w' : World) (m' : Mods [] w w') => body_Clone (h.body.mods0 m'))
  have HF := Lib.hid (fun (w' : World) (m' : Mods [] w w') => files_Clone (h.files.mods0 m'))
  have mD := (Mods.refl [] w).drew
  clear hb h
  go_enter Tryz.func45, Tryz.ntmps45
  go_wp2_with fail
  go_region_held3 (fun w' => w'.cell? ⟨v, 0, none⟩ = some (.pointer (some ⟨t, 0, none⟩)) ∧ w'.cell? ⟨v, 1, none⟩ = some (.pointer (some ⟨b, 0, none⟩)) ∧ w'.cell? ⟨v, 2, none⟩ = some (.pointer (some ⟨f, 0, none⟩)) ∧ w'.cell? ⟨v, 3, none⟩ = some (.int .i64 S.q)) (refine ⟨?_, ?_, ?_, ?_⟩ <;> (repeat (first | with_reducible assumption | with_reducible refine keepAlloc ?_ | with_reducible refine keepDrew ?_)))
    (first
      | (go_at_call 93; refine (HT.out _ mD).mono ?_; rintro e w1 ⟨t1, F1, rfl, m1, hT1, hF1⟩; have a0 := keepMods m1 (keepDrew c0) (by simp); have a1 := keepMods m1 (keepDrew c1) (by simp); have a2 := keepMods m1 (keepDrew c2) (by simp); have a3 := keepMods m1 (keepDrew c3) (by simp); have mE := mD.then m1)
      | (go_at_call 94; refine (HB.out _ mE).mono ?_; rintro e w2 ⟨b1, F2, rfl, m2, hB1, hF2, -, -⟩; have a0 := keepMods m2 a0 (by simp); have a1 := keepMods m2 a1 (by simp); have a2 := keepMods m2 a2 (by simp); have a3 := keepMods m2 a3 (by simp); have mG := mE.then m2)
      | (go_at_call 95; refine (HF.out _ mG).mono ?_; rintro e w3 ⟨f1, F3, rfl, m3, hf1, hF3, -, -⟩; have a0 := keepMods m3 a0 (by simp); have a1 := keepMods m3 a1 (by simp); have a2 := keepMods m3 a2 (by simp); have a3 := keepMods m3 a3 (by simp); have mH := mG.then m3))
  go_wp2_with fail
  go_ret
  have s1 : w.heap.size ≤ w1.heap.size := mE.size
  have s2 := m2.size
  have s3 := m3.size
  have hF1' : ∀ g ∈ F1, w.heap.size ≤ g := hF1
  have l1 := hT1.lt
  have l2 := hB1.old
  have l3 := hf1.lt'
  have mZ := (Mods.refl [] w3).alloc (.cells #[.pointer (some ⟨t1, 0, none⟩), .pointer (some ⟨b1, 0, none⟩), .pointer (some ⟨f1, 0, none⟩), .int .i64 S.q] tVol)
  refine ⟨_, w3.heap.size :: (F1 ++ (F2 ++ F3)), rfl, mH.alloc _, ⟨t1, b1, f1, F1, F2, F3, ⟨Blk.new _ _ _, ((hT1.mods0 m2).mods0 m3).mods0 mZ, (hB1.mods0 m3).mods0 mZ, hf1.mods0 mZ, ?_, ?_, ?_, ?_, ?_, ?_⟩, rfl⟩, ?_⟩
  · intro g hg hg'; have := l1 g hg; have := hF2 g hg'; omega
  · intro g hg hg'; have := l1 g hg; have := hF3 g hg'; omega
  · intro g hg hg'; have := l2 g hg; have := hF3 g hg'; omega
  · intro hg; have := l1 _ hg; omega
  · intro hg; have := l2 _ hg; omega
  · intro hg; have := l3 _ hg; omega
  · intro g hg
    simp only [List.mem_cons, List.mem_append] at hg
    rcases hg with rfl | hg | hg | hg
    · omega
    · exact hF1' g hg
    · have := hF2 g hg; omega
    · have := hF3 g hg; omega
end Go.Proofs.YtaiigmiiidldcaaGreatDoor

namespace Go.Proofs.YtaiigmiiidldcaaGreatDoor
open Go.RowKit Go.Maps
open Go.ChangeMaps (setBlock)

theorem FilesRep.noRow {w : World} {f : Nat} {D : List (Int × Hd)} {F : List Nat} (h : FilesRep w f D F) {s : TypeId} (hs : tFiles ≠ s) : NoRow s w F := by
  rcases h with ⟨h, _, rfl⟩ | ⟨m, h, hm, rfl⟩
  · exact NoRow.of_blk h hs
  · exact (NoRow.of_blk h hs).append (NoRow.of_map hm)

theorem VolIs.lt {w : World} {v : Nat} {S : VolSt} {t b f : Nat} {Ft Fb Ff : List Nat} (h : VolIs w v S t b f Ft Fb Ff) : ∀ g ∈ v :: (Ft ++ (Fb ++ Ff)), g < w.heap.size := by
  intro g hg
  simp only [List.mem_cons, List.mem_append] at hg
  rcases hg with rfl | hg | hg | hg
  · exact h.blk.lt
  · exact h.tree.lt g hg
  · exact h.body.old g hg
  · exact h.files.lt' g hg

/-- What is open is changed. -/
theorem VolIs.setFiles {w w' : World} {v : Nat} {S : VolSt} {t b f : Nat} {Ft Fb Ff Ff' : List Nat} (h : VolIs w v S t b f Ft Fb Ff) (m : Mods Ff w w') {D' : List (Int × Hd)} (hf : FilesRep w' f D' Ff') (hw : Within w Ff Ff') :
    VolIs w' v ⟨S.W, S.B, D', S.q⟩ t b f Ft Fb Ff' where
  blk := h.blk.mods m h.own.2.2
  tree := h.tree.mods m h.tf
  body := h.body.mods m h.bf (h.files.noRow (by decide))
  files := hf
  tb := h.tb
  tf g hg hg' := by
    rcases hw g hg' with h1 | h1
    · exact h.tf g hg h1
    · have := h.tree.lt g hg; omega
  bf g hg hg' := by
    rcases hw g hg' with h1 | h1
    · exact h.bf g hg h1
    · have := h.body.old g hg; omega
  own := ⟨h.own.1, h.own.2.1, fun hg' => by
    rcases hw _ hg' with h1 | h1
    · exact h.own.2.2 h1
    · have := h.blk.lt; omega⟩

set_option maxRecDepth 100000 in
set_option maxHeartbeats 1000000 in
theorem vol_Seek {w : World} {v : Nat} {S : VolSt} {F : List Nat} (h : VolRep w v S F) (fd : Int) (hfd : okInt fd) {x : Hd} (hx : aGet S.D fd = some x) (pos : Int) (h1 : 0 ≤ pos) (h2 : pos ≤ 1099511627776) :
    Calls Tryz.prog 17 #[.pointer (some ⟨v, 0, none⟩), .int .i64 fd, .int .i64 pos] w fun e w' => e = .returned .nilIface ∧ Mods F w w' ∧ VolRep w' v ⟨S.W, S.B, aPut S.D fd ⟨x.node, pos⟩, S.q⟩ F := by
  obtain ⟨t, b, f, Ft, Fb, Ff, h, rfl⟩ := h
  have hb := h.blk
  have c2 := hb.cell 2
  simp only [List.getElem?_toArray, List.getElem?_cons_zero, List.getElem?_cons_succ] at c2
  have hm := files_Move_yes h.files fd hfd hx pos h1 h2
  have HI := Lib.hid h
  have hlt := hb.lt
  clear hb h hx
  go_enter Tryz.func17, Tryz.ntmps17
  go_wp2_with fail
  refine hm.mono ?_
  rintro e w1 ⟨rfl, m1, hF⟩
  go_wp2_with fail
  go_ret
  exact ⟨rfl, m1.mono (fun g hg => by simp [hg]), t, b, f, Ft, Fb, Ff, HI.out.setFiles m1 hF (Within.refl _ _), rfl⟩
end Go.Proofs.YtaiigmiiidldcaaGreatDoor

namespace Go.Proofs.YtaiigmiiidldcaaGreatDoor
open Go.RowKit Go.Maps
open Go.ChangeMaps (setBlock)

theorem hd_ld {w : World} {g : Nat} {a b : Int} (h : Blk w g tHandle #[.int .i64 a, .int .i64 b]) : (loadVar tHandle ⟨g, 0, none⟩).run Tryz.prog w = .ok (.agg #[.int .i64 a, .int .i64 b]) w :=
  run_loadVar_row (P := Tryz.prog) _ g tHandle 112 _ (0, 0) _ h Tryz.underlying112 rfl (by kernel_rfl)

set_option maxRecDepth 100000 in
set_option maxHeartbeats 2000000 in
theorem vol_at_yes {w : World} {v : Nat} {S : VolSt} {F : List Nat} (h : VolRep w v S F) (fd : Int) (hfd : okInt fd) {x : Hd} (hx : aGet S.D fd = some x) (hxn : okInt x.node) :
    Calls Tryz.prog 58 #[.pointer (some ⟨v, 0, none⟩), .int .i64 fd] w fun e w' => e = .returned (.tuple #[x.val, (S.W.T.get x.node).1.val, .nilIface]) ∧ Mods [] w w' := by
  obtain ⟨t, b, f, Ft, Fb, Ff, h, rfl⟩ := h
  obtain ⟨p, F1, htb, hw, hFt, hnt⟩ := id h.tree
  obtain ⟨tt, m, Fn, raw, hI, hF1⟩ := id hw
  have hb := h.blk
  have c0 := hb.cell 0
  have c2 := hb.cell 2
  have t0 := htb.cell 0
  have p0 := hI.blk.cell 0
  simp only [List.getElem?_toArray, List.getElem?_cons_zero, List.getElem?_cons_succ] at c0 c2 t0 p0
  have HGF := Lib.hid (fun (w' : World) (m' : Mods [] w w') => files_Get_yes (h.files.mods0 m') fd hfd hx)
  have HGT := Lib.hid (fun (w' : World) (m' : Mods [] w w') => table_Get (hI.tab.mods0 m') x.node hxn)
  have hlt := hb.lt
  generalize S.W.T.get x.node = nd at *
  obtain ⟨⟨y1, y2, y3, y4, y5, y6⟩, yb⟩ := nd
  obtain ⟨xn, xp⟩ := x
  simp only [Hd.val, Nd.val] at *
  have m0 := ((Mods.refl [] w).alloc (.cells #[.int .i64 0, .int .i64 0] tHandle)).alloc (.cells #[.int .i64 0, .int .i64 0, .int .i64 0, .int .i64 0, .string ⟨#[]⟩, .int .i64 0] tNd)
  have r4 := (Blk.new w tHandle #[.int .i64 0, .int .i64 0]).alloc (.cells #[.int .i64 0, .int .i64 0, .int .i64 0, .int .i64 0, .string ⟨#[]⟩, .int .i64 0] tNd)
  have r5 := Blk.new (w.alloc (.cells #[.int .i64 0, .int .i64 0] tHandle)) tNd #[.int .i64 0, .int .i64 0, .int .i64 0, .int .i64 0, .string ⟨#[]⟩, .int .i64 0]
  rw [World.size_alloc] at r5
  clear hb h hx hI htb hw
  go_enter Tryz.func58, Tryz.ntmps58
  go_wp2_with fail
  refine (HGF.out _ m0).mono ?_
  rintro e w1 ⟨rfl, m1⟩
  have mA := (m0.then m1).alloc (.cells #[.int .i64 xn, .int .i64 xp] tHandle)
  have hh := Blk.new w1 tHandle #[.int .i64 xn, .int .i64 xp]
  have a4 := (r4.mods0 m1).alloc (.cells #[.int .i64 xn, .int .i64 xp] tHandle)
  have a5 := (r5.mods0 m1).alloc (.cells #[.int .i64 xn, .int .i64 xp] tHandle)
  clear HGF
  go_upto_region 4 with fail
  go_cut [9] (fun s9 wx => ∃ g9, s9 = .pointer (some ⟨g9, 0, none⟩) ∧ Blk wx g9 tNd #[.int .i64 y1, .int .i64 y2, .int .i64 y3, .int .i64 y4, .string y5, .int .i64 y6] ∧ Mods [] (w1.alloc (.cells #[.int .i64 xn, .int .i64 xp] tHandle)) wx ∧ w.heap.size + 1 < g9)
  case first =>
    have mE := ((Mods.refl [] (w1.alloc (.cells #[.int .i64 xn, .int .i64 xp] tHandle))).drew)
    have mE2 := ((Mods.refl [] (w1.alloc (.cells #[.int .i64 xn, .int .i64 xp] tHandle))).alloc (.cells #[.int .i64 0, .int .i64 0, .int .i64 0, .int .i64 0, .string ⟨#[]⟩, .int .i64 0] tNd)).drew
    have k0 := keepMods mA c0 (by simp)
    have k1 := keepMods mA t0 (by simp)
    have k2 := keepMods mA p0 (by simp)
    have k3 := hh.cell 0
    simp only [List.getElem?_toArray, List.getElem?_cons_zero] at k3
    have jb := (Blk.new (w1.alloc (.cells #[.int .i64 xn, .int .i64 xp] tHandle)) tNd #[.int .i64 0, .int .i64 0, .int .i64 0, .int .i64 0, .string ⟨#[]⟩, .int .i64 0]).drew
    rw [World.size_alloc] at jb
    have l5 := a5.lt
    have l0 := World.block_lt_of_cell? _ _ k0
    have l1 := World.block_lt_of_cell? _ _ k1
    have l2 := World.block_lt_of_cell? _ _ k2
    simp only [World.size_alloc] at l0 l1 l2 l5
    go_region_held3 (fun w' => w'.cell? ⟨v, 0, none⟩ = some (.pointer (some ⟨t, 0, none⟩)) ∧ w'.cell? ⟨t, 0, none⟩ = some (.pointer (some ⟨p, 0, none⟩)) ∧ w'.cell? ⟨p, 0, none⟩ = some (.pointer (some ⟨tt, 0, none⟩)) ∧ w'.cell? ⟨w1.heap.size, 0, none⟩ = some (.int .i64 xn)) (refine ⟨?_, ?_, ?_, ?_⟩ <;> (repeat (first | with_reducible assumption | with_reducible refine keepAlloc ?_ | with_reducible refine keepDrew ?_ | (with_reducible refine keepStore ?_ (by simp; try omega)))))
      (first | (go_at_call 102; refine (HGT.out _ (mA.then ?_)).mono ?_; (repeat (first | exact Mods.refl _ _ | apply Mods.drew | apply Mods.alloc)); rintro e w4 ⟨rfl, m4⟩; have k0 := keepMods m4 (a := ⟨v, 0, none⟩) (by first | exact keepDrew k0 | exact keepDrew (keepAlloc k0)) (by simp); have k1 := keepMods m4 (a := ⟨t, 0, none⟩) (by first | exact keepDrew k1 | exact keepDrew (keepAlloc k1)) (by simp); have k2 := keepMods m4 (a := ⟨p, 0, none⟩) (by first | exact keepDrew k2 | exact keepDrew (keepAlloc k2)) (by simp); have k3 := keepMods m4 (a := ⟨w1.heap.size, 0, none⟩) (by first | exact keepDrew k3 | exact keepDrew (keepAlloc k3)) (by simp); first | (have jb := jb.mods m4 (by simp); have fr := jb.frozen; have z0 := jb.cell 0; have z1 := jb.cell 1; have z2 := jb.cell 2; have z3 := jb.cell 3; have z4 := jb.cell 4; have z5 := jb.cell 5; have mm := mE2.then m4; simp at z0 z1 z2 z3 z4 z5) | (have mm := mE.then m4)))
    all_goals
      go_wp2_with fail
      go_meet
    · exact ⟨_, rfl, Blk.new _ _ _, mm.alloc _, by have := mm.size; simp at this; omega⟩
    · exact ⟨_, rfl, putNd_blk jb, putNd_mods mm (.inr (by simp)), by omega⟩
  case rest =>
    obtain ⟨g9, rfl, hb9, mx, hg9⟩ := hcut
    have b4 := a4.mods0 mx
    have b5 := a5.mods0 mx
    have bh := hh.mods0 mx
    have fr4 := b4.frozen
    have fr5 := b5.frozen
    have l4 := b4.lt
    have q0 := b4.cell 0
    have q1 := b4.cell 1
    simp at q0 q1
    have z0 := b5.cell 0
    have z1 := b5.cell 1
    have z2 := b5.cell 2
    have z3 := b5.cell 3
    have z4 := b5.cell 4
    have z5 := b5.cell 5
    simp at z0 z1 z2 z3 z4 z5
    have k0 := bh.cell 0
    have k1 := bh.cell 1
    simp at k0 k1
    have n0 := hb9.cell 0
    have n1 := hb9.cell 1
    have n2 := hb9.cell 2
    have n3 := hb9.cell 3
    have n4 := hb9.cell 4
    have n5 := hb9.cell 5
    simp at n0 n1 n2 n3 n4 n5
    clear HGT
    go_wp2_with fail
    go_region
    go_wp2_with fail
    have e4 := (b4.set_ 0 (.int .i64 xn)).set_ 1 (.int .i64 xp)
    simp only [List.setIfInBounds_toArray, List.set_cons_zero, List.set_cons_succ] at e4
    have e5 := (b5.far (p := ⟨w.heap.size, 0, none⟩) (by simp) (.int .i64 xn)).far (p := ⟨w.heap.size, 1, none⟩) (by simp) (.int .i64 xp)
    have g5 := putNd_blk (n1 := y1) (n2 := y2) (n3 := y3) (n4 := y4) (n5 := y5) (n6 := y6) e5
    have mP := putNd_mods (g := w.heap.size + 1) (n1 := y1) (n2 := y2) (n3 := y3) (n4 := y4) (n5 := y5) (n6 := y6) (Mods.refl [w.heap.size + 1] ((wc.setCell ⟨w.heap.size, 0, none⟩ (.int .i64 xn)).setCell ⟨w.heap.size, 1, none⟩ (.int .i64 xp))) (.inl (by simp))
    have g4 := e4.mods mP (by simp)
    have mZ := putNd_mods (g := w.heap.size + 1) (n1 := y1) (n2 := y2) (n3 := y3) (n4 := y4) (n5 := y5) (n6 := y6) (((mA.then mx).setCell (p := ⟨w.heap.size, 0, none⟩) (.inr (Nat.le_refl _)) (.int .i64 xn)).setCell (p := ⟨w.heap.size, 1, none⟩) (.inr (Nat.le_refl _)) (.int .i64 xp)) (.inr (by simp))
    have ld4 := hd_ld g4.drew
    have ld5 := nd_ld g5.drew
    have mZ' := mZ.drew
    simp only [putNd] at ld4 ld5 mZ'
    exact bodyPost_ret (v := .tuple #[.agg #[.int .i64 xn, .int .i64 xp], .agg #[.int .i64 y1, .int .i64 y2, .int .i64 y3, .int .i64 y4, .string y5, .int .i64 y6], .nilIface]) (by simp [results, Tryz.results58, asAddr, ld4, ld5, Result.andThen]) rfl ⟨rfl, mZ'⟩
end Go.Proofs.YtaiigmiiidldcaaGreatDoor

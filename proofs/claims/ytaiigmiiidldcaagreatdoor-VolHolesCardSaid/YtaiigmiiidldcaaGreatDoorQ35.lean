/- make of bytes; ones; VolHoles: the plain law; VolHoles: the walk. -/
import Derived.Deep.OwnRows
import Derived.Laws.OwnMore
import Derived.Test.YtaiigmiiidldcaaGreatDoorQ34
set_option linter.unusedSimpArgs false
set_option linter.unusedVariables false
namespace Go.Proofs.YtaiigmiiidldcaaGreatDoor
open Go.RowKit Go.Maps
open Go.ChangeMaps (setBlock)

theorem made_zeros (n : Nat) : madeCells #[(.int .u8 0 : Value)] n = ((zeros n).map bV).toArray := by
  rw [zeros_cells]
  apply Array.ext'
  rw [toList_madeCells_one]

theorem mkN (n : Nat) (h : n ≤ 1000000) (w : World) : (Instr.makeSlice tBytes (.int .i64 (n : Int)) (.int .i64 (n : Int))).run Tryz.prog w = .ok (.slice (some ⟨w.heap.size, 0, none⟩) n n) (w.alloc (.cells ((zeros n).map bV).toArray tU8)) := by
  obtain ⟨i0, hi, hz0, hz1, hz2⟩ := info_parts info_u8
  have := run_make_row (P := Tryz.prog) tBytes tU8 i0 (.int .u8 0) Tryz.underlying32 hi hz0 hz1 rfl .i64 .i64 n (by rw [hz2]; omega) (by omega) w
  rw [made_zeros] at this
  exact this

def onesL (k n : Nat) : List UInt8 := List.replicate k 1 ++ zeros (n - k)
theorem onesL_length {k n : Nat} (h : k ≤ n) : (onesL k n).length = n := by unfold onesL; rw [List.length_append, length_zeros, List.length_replicate]; omega
theorem onesL_set {k n : Nat} (h : k < n) : (((onesL k n).map bV).toArray).setIfInBounds k (.int .u8 1) = ((onesL (k + 1) n).map bV).toArray := by
  have e1 : n - k = (n - (k + 1)) + 1 := by omega
  have e2 : onesL k n = List.replicate k 1 ++ ((0 : UInt8) :: zeros (n - (k + 1))) := by
    unfold onesL
    rw [e1]
    simp [zeros, List.replicate_succ]
  have e3 : onesL (k + 1) n = List.replicate k 1 ++ ((1 : UInt8) :: zeros (n - (k + 1))) := by
    unfold onesL
    rw [List.replicate_succ', List.append_assoc]
    rfl
  rw [e2, e3, List.setIfInBounds_toArray]
  congr 1
  rw [List.map_append, List.map_append, List.set_append_right _ _ (by simp)]
  simp [bV]

set_option maxRecDepth 100000 in
set_option maxHeartbeats 1000000 in
theorem law_ones (n : Nat) (h : n ≤ 1000000) (w : World) :
    Calls Tryz.prog 19 #[.int .i64 (n : Int)] w fun e w' => e = .returned (.slice (some ⟨w.heap.size, 0, none⟩) n n) ∧ Mods [] w w' ∧ Blk w' w.heap.size tU8 ((onesL n n).map bV).toArray := by
  have hmk := mkN n h
  have b0 := Blk.new w tU8 ((onesL 0 n).map bV).toArray
  have e0 : onesL 0 n = zeros n := by unfold onesL; simp
  rw [e0] at b0
  have E0 := Lib.hid e0
  have B0 := Lib.hid b0
  clear e0 b0
  go_enter Tryz.func19, Tryz.ntmps19
  go_wp2_with fail
  clear hmk
  go_loopw [4] (fun s4 wr => ∃ k : Nat, k ≤ n ∧ s4 = .int .i64 k ∧ Mods [] w wr ∧ Blk wr w.heap.size tU8 ((onesL k n).map bV).toArray) (fun s4 _ => n - (intOf s4).toNat)
  case atStart => exact ⟨0, Nat.zero_le _, rfl, (Mods.refl _ _).alloc _, by rw [E0.out]; exact B0.out⟩
  case round =>
    obtain ⟨k, hk, rfl, mr, hb⟩ := hrel
    by_cases hlt : k < n
    · have hc := hb.cell k
      have hf := hb.frozen k
      have hx : ((onesL k n).map bV).toArray[k]? = some (.int .u8 0) := by
        have hl := onesL_length hk
        simp only [List.getElem?_toArray, List.getElem?_map]
        unfold onesL
        rw [List.getElem?_append_right (by simp)]
        simp only [List.length_replicate, Nat.sub_self, zeros]
        rw [List.getElem?_replicate, if_pos (by omega)]
        rfl
      rw [hx] at hc
      have hs := hb.set_ k (.int .u8 1)
      rw [onesL_set hlt] at hs
      have mS := mr.setCell (p := ⟨w.heap.size, k, none⟩) (.inr (Nat.le_refl _)) (.int .u8 1)
      have HS := Lib.hid hs
      clear hx hs hb
      go_wp2_with fail
      go_roundw
      case rel => exact ⟨k + 1, by omega, by go_num, mS, HS.out⟩
      case measure => simp [intOf]; omega
    · obtain rfl : k = n := by omega
      go_wp2_with fail
      go_ret
      exact ⟨rfl, mr, hb⟩
end Go.Proofs.YtaiigmiiidldcaaGreatDoor

namespace Go.Proofs.YtaiigmiiidldcaaGreatDoor
open Go.RowKit Go.Maps

theorem empty_byte (n : Int) (i : Nat) : (⟨[], []⟩ : Bod).byte n i = 0 := by
  unfold Bod.byte Bod.blk
  simp only [aGet, Option.getD_some]
  unfold zeros
  rw [List.getElem?_replicate]
  split <;> rfl

theorem onesL_full (m : Nat) : onesL m m = List.replicate m 1 := by unfold onesL; simp [zeros]

theorem idx_len {ν : Type} {l : List (Cel × ν)} {n : Int} (h : ∀ c ∈ l.map (·.1), c.1 = n) : (idxOf l n).length = l.length := by
  unfold idxOf
  rw [List.length_map, List.filter_eq_self.2]
  intro p hp
  simpa using h p.1 (List.mem_map.2 ⟨p, hp, rfl⟩)

/-- What one write of ones at a place leaves of an empty body. -/
def holesB (a m : Nat) : Bod := layN ⟨[], []⟩ 2 (piecesN m (a : Int) (m : Int)) (onesL m m)

structure HolesB (a m : Nat) (B : Bod) : Prop where
  ok : BodOk B
  nl : NoLost B
  byte : ∀ j, B.byte 2 j = if a ≤ j ∧ j < a + m then 1 else 0
  len : B.l.length = (a + m - 1) / 256 - a / 256 + 1
  idx : (idxOf B.l 2).length = (a + m - 1) / 256 - a / 256 + 1

theorem okInt2 : okInt 2 := by constructor <;> decide

theorem holesB_ok {a m : Nat} (hm : 1 ≤ m) (ha : a + m ≤ 16384) : HolesB a m (holesB a m) := by
  have hl : (onesL m m).length = m := onesL_length (Nat.le_refl _)
  have e : holesB a m = layN ⟨[], []⟩ 2 (piecesN m (a : Int) ((onesL m m).length : Int)) (onesL m m) := by unfold holesB; rw [hl]
  have hk : (onesL m m).length ≤ m := by omega
  have hkeys := layN_count 2 m ⟨[], []⟩ a (onesL m m) hk (fun q _ => rfl)
  have hlen := layN_len 2 m ⟨[], []⟩ a (onesL m m) hk (fun q _ => rfl)
  rw [← e] at hkeys hlen
  rw [hl] at hkeys hlen
  simp only [List.length_nil, Nat.zero_add] at hlen
  rw [pieces_count m a m (Nat.le_refl _) hm] at hlen
  refine ⟨?_, ?_, fun j => ?_, hlen, ?_⟩
  · rw [e]; exact layN_ok 2 okInt2 m _ a _ bodOk_nil hk (by omega)
  · rw [e]; exact layN_noLost 2 okInt2 m _ a _ bodOk_nil noLost_nil hk (by omega)
  · rw [e, layN_byte 2 okInt2 m _ a _ bodOk_nil hk (by omega), hl, empty_byte]
    by_cases h : a ≤ j ∧ j < a + m
    · rw [if_pos h, if_pos h, onesL_full, List.getElem?_replicate, if_pos (by omega)]
      rfl
    · rw [if_neg h, if_neg h]
  · rw [idx_len (fun c hc => ?_), hlen]
    rw [hkeys] at hc
    simp only [List.map_nil, List.nil_append, List.mem_map] at hc
    obtain ⟨p, _, rfl⟩ := hc
    rfl
end Go.Proofs.YtaiigmiiidldcaaGreatDoor

namespace Go.Proofs.YtaiigmiiidldcaaGreatDoor
open Go.RowKit Go.Maps
open Go.ChangeMaps (setBlock)

theorem fS_seek {w : World} {v : Nat} {q : Int} {nm : ByteArray} {size p0 : Int} {B : Bod} {F : List Nat} (h : VolRep w v (fS q nm size p0 B) F) (pos : Int) (h1 : 0 ≤ pos) (h2 : pos ≤ 1099511627776) :
    Calls Tryz.prog 17 #[.pointer (some ⟨v, 0, none⟩), .int .i64 0, .int .i64 pos] w fun e w' => e = .returned .nilIface ∧ Mods F w w' ∧ VolRep w' v (fS q nm size pos B) F :=
  vol_Seek h 0 (by constructor <;> decide) (x := ⟨2, p0⟩) rfl pos h1 h2

theorem fS_fstat {w : World} {v : Nat} {q : Int} {nm : ByteArray} {size p0 : Int} {B : Bod} {F : List Nat} (h : VolRep w v (fS q nm size p0 B) F) (hlen : B.l.length ≤ 1000000) :
    Calls Tryz.prog 20 #[.pointer (some ⟨v, 0, none⟩), .int .i64 0] w fun e w' => e = .returned (.tuple #[.agg #[.int .i64 2, .int .i64 1, .int .i64 1, .int .i64 size, .int .i64 ((idxOf B.l 2).length : Int)], .nilIface]) ∧ Mods [] w w' := by
  have := vol_Fstat h 0 (by constructor <;> decide) (x := ⟨2, p0⟩) rfl (show okInt 2 from okInt2) hlen
  simp only [fS_get] at this
  exact this

theorem fS_count {w : World} {v : Nat} {q : Int} {nm : ByteArray} (hn : Letter2 nm) {size p0 : Int} {B : Bod} {F : List Nat} (h : VolRep w v (fS q nm size p0 B) F) (hlen : B.l.length ≤ 1000000) :
    Calls Tryz.prog 21 #[.pointer (some ⟨v, 0, none⟩)] w fun e w' => ∃ F', e = .returned (.agg #[.int .i64 2, .int .i64 1, .int .i64 (B.l.length : Int)]) ∧ Mods F w w' ∧ Within w F F' ∧ VolRep w' v (fS q nm size p0 B) F' := by
  have hb := fS_B hn (q := q) (size := size) (pos := p0) hlen
  have := vol_Count h hb.ne hb.nodes hb.ents hb.blocks
  rw [fS_len, show (fS q nm size p0 B).W.ents = 1 from hn.ents size] at this
  exact this

theorem fS_end {w : World} {v : Nat} {q : Int} {nm : ByteArray} {size p0 : Int} {B : Bod} {F : List Nat} (h : VolRep w v (fS q nm size p0 B) F) (c : Int) (hc : 0 ≤ c) (hp : size ≤ p0) :
    Calls Tryz.prog 22 #[.pointer (some ⟨v, 0, none⟩), .int .i64 0, .int .i64 c] w fun e w' => e = .returned (.tuple #[.slice none 0 0, .nilIface]) ∧ Mods [] w w' :=
  vol_Read_end h 0 (by constructor <;> decide) (x := ⟨2, p0⟩) rfl (show okInt 2 from okInt2) (n := fileN size) (by rw [fS_get]) c hc hp

theorem bytes_nil (w : World) : Bytes w (.slice none 0 0) [] := ⟨none, 0, rfl, Nat.le_refl _, fun h => absurd rfl h⟩

theorem fS_reads {B0 : Nat} {A : Nat → Addr} {L : List Nat} {w : World} (G : Glob B0 A L w) {v : Nat} {q : Int} {nm : ByteArray} {Z p : Nat} {B : Bod} {F : List Nat} (h : VolRep w v (fS q nm (Z : Int) (p : Int) B) F)
    (h1 : Z ≤ 16384) (hp : p ≤ Z) (c : Nat) (hc1 : 1 ≤ c) (hc2 : c ≤ 1024) (hok : BodOk B) (hl : NoLost B) :
    Calls Tryz.prog 22 #[.pointer (some ⟨v, 0, none⟩), .int .i64 0, .int .i64 (c : Int)] w fun e w' => ∃ vo, e = .returned (.tuple #[vo, .nilIface]) ∧ Bytes w' vo ((List.range (min c (Z - p))).map fun i => B.byte 2 (p + i)) ∧ Mods F w w' ∧ VolRep w' v (fS q nm (Z : Int) ((p + min c (Z - p) : Nat) : Int) B) F := by
  by_cases hlt : p < Z
  · refine (fS_read G h (by omega) (c : Int) (by omega) (by omega) (by omega) (M := min c (Z - p)) (by omega) (by omega) hok hl).mono ?_
    rintro e w' ⟨vo, rfl, hb, m, hV⟩
    refine ⟨vo, rfl, hb, m, ?_⟩
    rw [show ((p + min c (Z - p) : Nat) : Int) = (p : Int) + ((min c (Z - p) : Nat) : Int) from by omega]
    exact hV
  · have e0 : Z - p = 0 := by omega
    have e1 : min c 0 = 0 := by omega
    rw [e0, e1]
    refine (fS_end h (c : Int) (by omega) (by omega)).mono ?_
    rintro e w' ⟨rfl, m⟩
    exact ⟨_, rfl, bytes_nil w', m.of_nil, h.mods0 m⟩

set_option maxRecDepth 100000 in
set_option maxHeartbeats 4000000 in
theorem law_VolHoles {B0 : Nat} {A : Nat → Addr} {L : List Nat} {w : World} (G : Glob B0 A L w) (hM : MaxCell w) (hB : B0 = w.heap.size) (at_ n : Int) (hat : okInt at_) (hn : okInt n) :
    Calls Tryz.prog 3 #[.int .i64 at_, .int .i64 n] w fun e w' => e = .returned (.bool true) ∧ Mods [] w w' := by
  have hfirst := law_first G hM hB
  have hN1 := fun w => law_Number at_ 15000 hat (by decide) (by decide) w
  have hN2 := fun w => law_Number n 900 hn (by decide) (by decide) w
  obtain ⟨a0, a1⟩ := numI_lt (n := at_) (k := 15000) (by decide)
  obtain ⟨n0, n1⟩ := numI_lt (n := n) (k := 900) (by decide)
  generalize numI at_ 15000 = ai at *
  generalize numI n 900 = ni at *
  obtain ⟨a, rfl⟩ := Int.eq_ofNat_of_zero_le a0
  obtain ⟨m0, rfl⟩ := Int.eq_ofNat_of_zero_le n0
  have ha : a < 15000 := by omega
  have hm0 : m0 < 900 := by omega
  have HG := Lib.hid G
  have HM := Lib.hid hM
  have HB := Lib.hid hB
  obtain ⟨B, hBe⟩ : ∃ B, holesB a (m0 + 1) = B := ⟨_, rfl⟩
  have hH := holesB_ok (a := a) (m := m0 + 1) (by omega) (by omega)
  rw [hBe] at hH
  have HBE := Lib.hid hBe
  have HH := Lib.hid hH
  have hlen5 : B.l.length ≤ 5 := by rw [hH.len]; omega
  clear G hM hB hat hn hBe hH a0 n0
  go_enter Tryz.func3, Tryz.ntmps3
  go_wp2_with fail
  refine hfirst.mono ?_
  rintro e w1 ⟨rfl, m1⟩
  clear hfirst
  go_wp2_with fail
  refine (hN1 _).mono ?_
  rintro e w2 ⟨rfl, rfl⟩
  go_wp2_with fail
  refine (hN2 _).mono ?_
  rintro e w3 ⟨rfl, rfl⟩
  clear hN1 hN2
  have hnew := vol_New w1 100
  go_wp2_with fail
  refine hnew.mono ?_
  rintro e w2 ⟨v, F, rfl, m2, hV, hF⟩
  clear hnew
  have mA := m1.then m2
  have sz1 := m1.size
  have hF0 : ∀ g ∈ F, B0 ≤ g := fun g hg => by rw [HB.out]; have := hF g hg; omega
  have hop := vol_open0 (q := 100) (HG.out.mods0 mA) (maxCell_mods HM.out HG.out mA (by simp)) (by omega) hV hF0 letter_f
  have HOP := Lib.hid hop
  clear hop
  go_wp2_with fail
  refine HOP.out.mono ?_
  rintro e w3 ⟨rfl, F3, m3, wi3, hV3⟩
  rw [fileS_fS] at hV3
  have hW3 : ∀ g ∈ F3, w.heap.size ≤ g := fun g hg => by
    rcases wi3 g hg with h1 | h1
    · have := hF g h1; omega
    · have := mA.size; omega
  have mB : Mods [] w w3 := mA.trans m3 (fun g hg => .inr (by have := hF g hg; omega))
  have hsk := fS_seek hV3 (a : Int) (by omega) (by omega)
  have HSK := Lib.hid hsk
  clear hsk HOP
  go_wp2_with fail
  refine HSK.out.mono ?_
  rintro e w4 ⟨rfl, m4, hV4⟩
  have mC : Mods [] w w4 := mB.trans m4 (fun g hg => .inr (hW3 g hg))
  have hon := law_ones (m0 + 1) (by omega) w4
  rw [show (((m0 + 1 : Nat)) : Int) = (m0 : Int) + 1 from by omega] at hon
  clear HSK
  go_wp2_with fail
  refine hon.mono ?_
  rintro e w5 ⟨rfl, m5, hb5⟩
  have hby := bytes_blk hb5
  have hol : (onesL (m0 + 1) (m0 + 1)).length = m0 + 1 := onesL_length (Nat.le_refl _)
  have mD := mC.then m5
  have hV5 := hV4.mods0 m5
  have hBl : layN ⟨[], []⟩ 2 (piecesN (m0 + 1) (a : Int) ((m0 + 1 : Nat) : Int)) ((onesL (m0 + 1) (m0 + 1)).take (m0 + 1)) = B := by
    rw [List.take_of_length_le (by omega)]; exact HBE.out
  have hwr := fS_write (HG.out.mods0 mD) letter2_f (a := a) hV5 (fun g hg => by rw [HB.out]; exact hW3 g hg) (by omega) (by omega) hby (by intro e0; rw [e0] at hol; cases hol) (by omega) (M := m0 + 1) (by omega) (by omega) noLost_nil (by simp) (by rw [hBl]; omega) (by left; rw [hBl]; omega)
  rw [hBl, hol, show (((m0 + 1 : Nat)) : Int) = (m0 : Int) + 1 from by omega, show max (0 : Int) ((a : Int) + ((m0 : Int) + 1)) = (a : Int) + ((m0 : Int) + 1) from by omega] at hwr
  have HWR := Lib.hid hwr
  clear hwr hon hby hol hBl hb5
  go_wp2_with fail
  refine HWR.out.mono ?_
  rintro e w6 ⟨rfl, F6, m6, wi6, hV6⟩
  clear HWR
  have hW6 : ∀ g ∈ F6, w.heap.size ≤ g := fun g hg => by
    rcases wi6 g hg with h1 | h1
    · exact hW3 g h1
    · have := mD.size; omega
  have mE : Mods [] w w6 := mD.trans m6 (fun g hg => .inr (hW3 g hg))
  have hst := fS_fstat hV6 (by omega)
  rw [HH.out.idx] at hst
  have HST := Lib.hid hst
  clear hst
  go_wp2_with fail
  refine HST.out.mono ?_
  rintro e w7 ⟨rfl, m7⟩
  clear HST
  have hV7 := hV6.mods0 m7
  have mF := mE.then m7
  go_wp2_with fail
  have hblk7 := Go.heap_alloc_new w7 (Obj.cells #[Value.int IntKind.i64 2, Value.int IntKind.i64 1, Value.int IntKind.i64 1, Value.int IntKind.i64 ((a : Int) + ((m0 : Int) + 1)), Value.int IntKind.i64 (((a : Int) + ((m0 : Int) + 1) - 1) / 256 - (a : Int) / 256 + 1)] tStat)
  have mG := mF.alloc (Obj.cells #[Value.int IntKind.i64 2, Value.int IntKind.i64 1, Value.int IntKind.i64 1, Value.int IntKind.i64 ((a : Int) + ((m0 : Int) + 1)), Value.int IntKind.i64 (((a : Int) + ((m0 : Int) + 1) - 1) / 256 - (a : Int) / 256 + 1)] tStat)
  have hV7' := hV7.mods0 ((Mods.refl [] w7).alloc (Obj.cells #[Value.int IntKind.i64 2, Value.int IntKind.i64 1, Value.int IntKind.i64 1, Value.int IntKind.i64 ((a : Int) + ((m0 : Int) + 1)), Value.int IntKind.i64 (((a : Int) + ((m0 : Int) + 1) - 1) / 256 - (a : Int) / 256 + 1)] tStat))
  have hct := fS_count letter2_f hV7' (by omega)
  rw [HH.out.len] at hct
  refine hct.mono ?_
  rintro e w8 ⟨F8, rfl, m8, wi8, hV8⟩
  clear hct hblk7
  have hW8 : ∀ g ∈ F8, w.heap.size ≤ g := fun g hg => by
    rcases wi8 g hg with h1 | h1
    · exact hW6 g h1
    · have := mG.size; omega
  have mH : Mods [] w w8 := mG.trans m8 (fun g hg => .inr (hW6 g hg))
  have hf2 := count_f2
  have hsk := fS_seek hV8 0 (by omega) (by omega)
  go_wp2_with fail
  refine hsk.mono ?_
  rintro e w9 ⟨rfl, m9, hV9⟩
  clear hsk
  have mI : Mods [] w w9 := mH.trans m9 (fun g hg => .inr (hW8 g hg))
  go_wp2_with fail
  clear hf2 mA mB mC mD mE mF mG mH m1 m2 m3 m4 m5 m6 m7 m8 wi3 wi6 wi8 hV hV3 hV4 hV5 hV6 hV7 hV7' hV8 hF0 hF hW3 hW6
  have HV9 := Lib.hid hV9
  have hW9 := Lib.hid hW8
  clear hV9 hW8
  have mI' := Lib.hid mI
  clear mI m9
  go_loopw [14, 15] (fun s14 s15 wr => ∃ (r p : Nat), r ≤ 30 ∧ s15 = .int .i64 r ∧ s14 = .int .i64 p ∧ p = min (1000 * r) (a + (m0 + 1)) ∧ Mods [] w wr ∧ VolRep wr v (fS 100 ⟨#[102]⟩ ((a + (m0 + 1) : Nat) : Int) (p : Int) B) F8) (fun _ s15 _ => 30 - (intOf s15).toNat)
  case atStart => exact ⟨0, 0, by omega, rfl, rfl, by omega, mI'.out, HV9.out⟩
  case round =>
    obtain ⟨r, p, hr, rfl, rfl, hp, mr, hVr⟩ := hrel
    have HP := Lib.hid hp
    have hpZ : p ≤ a + (m0 + 1) := by omega
    by_cases hlt : r < 30
    · have hrd := fS_reads (HG.out.mods0 mr) hVr (by omega) (by omega) 1000 (by omega) (by omega) HH.out.ok HH.out.nl
      have HRD := Lib.hid hrd
      have mr' := Lib.hid mr
      clear hrd mr hVr
      go_wp2_with fail
      refine HRD.out.mono ?_
      rintro e wo ⟨vo, rfl, hb, m10, hV10⟩
      have mR := mr'.out.trans m10 (fun g hg => .inr (hW9.out g hg))
      have HVo := Lib.hid hV10
      have MR := Lib.hid mR
      clear HRD hV10 mR m10 mr' hp
      obtain ⟨M, hM⟩ : ∃ M, min 1000 (a + (m0 + 1) - p) = M := ⟨_, rfl⟩
      rw [hM] at hb HVo
      obtain ⟨A7, c7, rfl, hc7, hcl⟩ := hb
      simp only [List.length_map, List.length_range] at hc7 ⊢
      have HC := Lib.hid (show ∀ k, k < M → ∃ g o, A7 = some ⟨g, o, none⟩ ∧ wo.cell? ⟨g, o + k, none⟩ = some (.int .u8 (if a ≤ p + k then 1 else 0)) from fun k hk => by
        obtain ⟨g, o, h1, h2, h3⟩ := hcl (by intro e0; have := congrArg List.length e0; simp at this; omega)
        refine ⟨g, o, h1, ?_⟩
        have := h3 k (B.byte 2 (p + k)) (by simp [hk])
        rw [this, HH.out.byte]
        by_cases ha2 : a ≤ p + k
        · rw [if_pos ha2, if_pos ⟨ha2, by omega⟩]; rfl
        · rw [if_neg ha2, if_neg (by omega)]; rfl)
      clear hcl
      go_wp2_with fail
      go_loop [18] (fun s18 => ∃ k : Nat, k ≤ M ∧ s18 = .int .i64 k) (fun s18 => M - (intOf s18).toNat)
      case atStart => exact ⟨0, by omega, rfl⟩
      case round =>
        obtain ⟨k, hk, rfl⟩ := hrel
        by_cases hkm : k < M
        · obtain ⟨g, o, rfl, hce⟩ := HC.out k hkm
          by_cases ha2 : a ≤ p + k
          · rw [if_pos ha2] at hce
            have ha3 : (a : Int) ≤ (p : Int) + (k : Int) := by omega
            go_wp2_with fail
            go_round
            case rel => exact ⟨k + 1, by omega, by go_num⟩
            case measure => simp [intOf]; omega
          · rw [if_neg ha2] at hce
            have ha3 : ¬ (a : Int) ≤ (p : Int) + (k : Int) := by omega
            go_wp2_with fail
            go_round
            case rel => exact ⟨k + 1, by omega, by go_num⟩
            case measure => simp [intOf]; omega
        · have hkM : k = M := by omega
          subst hkM
          go_wp2_with fail
          go_roundw
          case rel => exact ⟨r + 1, p + k, by omega, by go_num, by go_num, by have := HP.out; omega, MR.out, HVo.out⟩
          case measure => simp [intOf]; omega
    · have hp2 : p = a + (m0 + 1) := by omega
      go_wp2_with fail
      go_ret
      refine ⟨?_, mr⟩
      clear hp
      show Ending.returned (.bool (((min (1000 * r) (a + (m0 + 1)) : Nat) : Int) == (a : Int) + ((m0 : Int) + 1))) = _
      have e1 : min (1000 * r) (a + (m0 + 1)) = a + (m0 + 1) := by have := HP.out; omega
      rw [e1, show (((a + (m0 + 1) : Nat)) : Int) = (a : Int) + ((m0 : Int) + 1) from by omega]
      simp
end Go.Proofs.YtaiigmiiidldcaaGreatDoor

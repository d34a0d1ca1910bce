/- The chapter's examples hold: first; Number; ones. -/
import Derived.Lib.SlBytesConst
import Derived.Test.YtaiigmiiidldcaaGreatDoorQ33
set_option linter.unusedSimpArgs false
set_option linter.unusedVariables false
namespace Go.Proofs.YtaiigmiiidldcaaGreatDoor
open Go.RowKit Go.Maps
open Go.ChangeMaps (setBlock)

theorem bytes_blk {w : World} {g : Nat} {l : List UInt8} (h : Blk w g tU8 (l.map bV).toArray) : Bytes w (.slice (some ⟨g, 0, none⟩) l.length l.length) l :=
  ⟨_, _, rfl, Nat.le_refl _, fun _ => ⟨g, 0, rfl, ⟨_, _, h⟩, fun j x hx => by rw [Nat.zero_add, h.cell]; simp [hx]⟩⟩

theorem bytes_blkf {w : World} {g : Nat} {l : List UInt8} {fr : Nat × Nat} (h : w.heap[g]? = some (.cells (l.map bV).toArray tU8 fr)) : Bytes w (.slice (some ⟨g, 0, none⟩) l.length l.length) l :=
  ⟨_, _, rfl, Nat.le_refl _, fun _ => ⟨g, 0, rfl, ⟨_, _, h⟩, fun j x hx => by rw [Nat.zero_add]; simp [World.cell?, h, hx]⟩⟩

theorem count_f0 (a b c : Int) (w : World) : (Instr.field tCount (.agg #[.int .i64 a, .int .i64 b, .int .i64 c]) 0).run Tryz.prog w = .ok (.int .i64 a) w := by kernel_rfl
theorem count_f2 (a b c : Int) (w : World) : (Instr.field tCount (.agg #[.int .i64 a, .int .i64 b, .int .i64 c]) 2).run Tryz.prog w = .ok (.int .i64 c) w := by kernel_rfl

theorem lay3 : (layN ⟨[], []⟩ 2 (piecesN 3 ((0 : Nat) : Int) ((3 : Nat) : Int)) (([97, 98, 99] : List UInt8).take 3)).l.length = 1 := by kernel_rfl

set_option maxRecDepth 100000 in
set_option maxHeartbeats 2000000 in
theorem law_first {B0 : Nat} {A : Nat → Addr} {L : List Nat} {w : World} (G : Glob B0 A L w) (hM : MaxCell w) (hB : B0 = w.heap.size) :
    Calls Tryz.prog 13 #[] w fun e w' => e = .returned (.bool true) ∧ Mods [] w w' := by
  have hnew := vol_New w 100
  have HG := Lib.hid G
  have HM := Lib.hid hM
  have HB := Lib.hid hB
  clear G hM hB
  go_enter Tryz.func13, Tryz.ntmps13
  go_wp2_with fail
  refine hnew.mono ?_
  rintro e w1 ⟨v, F, rfl, m1, hV, hF⟩
  have hF0 : ∀ g ∈ F, B0 ≤ g := fun g hg => by rw [HB.out]; exact hF g hg
  have hop := vol_open0 (q := 100) (HG.out.mods0 m1) (maxCell_mods HM.out HG.out m1 (by simp)) (by omega) hV hF0 letter_a
  have HOP := Lib.hid hop
  have hvlt := hV.vlt
  clear hop hnew
  go_wp2_with fail
  refine HOP.out.mono ?_
  rintro e w2 ⟨rfl, F2, m2, wi2, hV2⟩
  rw [fileS_fS] at hV2
  have hW2 : ∀ g ∈ F2, w.heap.size ≤ g := fun g hg => by
    rcases wi2 g hg with h1 | h1
    · exact hF g h1
    · have := m1.size; omega
  have mA : Mods [] w w2 := m1.trans m2 (fun g hg => .inr (hF g hg))
  have mB := mA.alloc (.cells #[.int .u8 97, .int .u8 98, .int .u8 99] tU8 (3, 4))
  have hby := bytes_blkf (w := w2.alloc (.cells #[.int .u8 97, .int .u8 98, .int .u8 99] tU8 (3, 4))) (l := [97, 98, 99]) (Go.heap_alloc_new w2 _)
  have hwr := fS_write (HG.out.mods0 mB) letter2_a (a := 0) (hV2.mods0 ((Mods.refl [] w2).alloc _)) (fun g hg => by rw [HB.out]; exact hW2 g hg) (by omega) (by omega) hby (by simp) (by decide) (M := 3) rfl (by omega) noLost_nil (by simp) (by rw [lay3]; omega) (by left; rw [lay3]; decide)
  have HWR := Lib.hid hwr
  have hcv : (convert tBytes tBytes (.slice (some ⟨w2.heap.size, 0, none⟩) 3 3)).run Tryz.prog (w2.alloc (.cells #[.int .u8 97, .int .u8 98, .int .u8 99] tU8)) = .ok (.slice (some ⟨w2.heap.size, 0, none⟩) 3 3) (w2.alloc (.cells #[.int .u8 97, .int .u8 98, .int .u8 99] tU8 (3, 4))) := Lib.run_convert_bytes_const w2 tBytes tU8 _ 3 3 Tryz.underlying32 Tryz.underlying5
  clear hwr HOP hby
  go_wp2_with fail
  refine HWR.out.mono ?_
  rintro e w3 ⟨rfl, F3, m3, wi3, hV3⟩
  have hW3 : ∀ g ∈ F3, w.heap.size ≤ g := fun g hg => by
    rcases wi3 g hg with h1 | h1
    · exact hW2 g h1
    · have := mB.size; omega
  have mC : Mods [] w w3 := mB.trans m3 (fun g hg => .inr (hW2 g hg))
  have hrd := vol_Read_end hV3 0 (by constructor <;> decide) (x := ⟨2, 3⟩) rfl (by constructor <;> decide) (n := fileN 3) (by rw [fS_get]; rfl) 5 (by omega) (by decide)
  have HRD := Lib.hid hrd
  clear hrd HWR
  go_wp2_with fail
  refine HRD.out.mono ?_
  rintro e w4 ⟨rfl, m4⟩
  have hV4 := hV3.mods0 m4
  have hct := vol_Count hV4 (fS_B letter2_a (by rw [lay3]; omega)).ne (fS_B letter2_a (by rw [lay3]; omega)).nodes (fS_B letter2_a (by rw [lay3]; omega)).ents (fS_B letter2_a (by rw [lay3]; omega)).blocks
  rw [fS_len] at hct
  have HCT := Lib.hid hct
  clear hct HRD
  go_wp2_with fail
  refine HCT.out.mono ?_
  rintro e w5 ⟨F5, rfl, m5, wi5, hV5⟩
  clear HCT
  have hf0 := count_f0
  go_wp2_with fail
  go_ret
  exact ⟨rfl, (mC.then m4).trans m5 (fun g hg => .inr (hW3 g hg))⟩

/-- A number below another one. -/
def numI (n k : Int) : Int := if n.tmod k < 0 then n.tmod k + k else n.tmod k

theorem numI_lt {n k : Int} (hk : 0 < k) : 0 ≤ numI n k ∧ numI n k < k := by
  have h1 := Int.tmod_lt_of_pos n hk
  have h2 : -k < n.tmod k := by
    have h3 := Int.natAbs_tmod n k
    have h4 : (n.tmod k).natAbs < k.natAbs := by rw [h3]; exact Nat.mod_lt _ (by omega)
    omega
  unfold numI
  split <;> omega

set_option maxHeartbeats 400000 in
theorem law_Number (n k : Int) (hn : okInt n) (hk : 0 < k) (hk2 : k ≤ 1000000) (w : World) :
    Calls Tryz.prog 14 #[.int .i64 n, .int .i64 k] w fun e w' => e = .returned (.int .i64 (numI n k)) ∧ w = w' := by
  obtain ⟨h1, h2⟩ := hn
  have hk0 : (k == 0) = false := by simp; omega
  have hb1 := Int.tmod_lt_of_pos n hk
  have hb2 := (numI_lt (n := n) hk)
  unfold numI at *
  by_cases h : n.tmod k < 0
  · rw [if_pos h] at hb2 ⊢
    go_enter Tryz.func14, Tryz.ntmps14
    go_wp2_with fail
    go_ret
    exact ⟨rfl, rfl⟩
  · rw [if_neg h] at hb2 ⊢
    go_enter Tryz.func14, Tryz.ntmps14
    go_wp2_with fail
    go_ret
    exact ⟨rfl, rfl⟩
end Go.Proofs.YtaiigmiiidldcaaGreatDoor

/- Package path: Parse and Split. -/
import Derived.Lib.SplitLaws
import Derived.Test.YtaiigmiiidldcaaGreatDoorQ08
set_option linter.unusedSimpArgs false
set_option linter.unusedVariables false
namespace Go.Proofs.YtaiigmiiidldcaaGreatDoor
open Go.RowKit Go.Maps
open Go.ChangeMaps (setBlock)

abbrev tPath : TypeId := 203
abbrev tStrs : TypeId := 62

/-- A path. -/
structure Pth where
  parts : List ByteArray
  slash : Bool

def slashB : ByteArray := ⟨#[47]⟩
def dotB : ByteArray := ⟨#[46]⟩
def dotsB : ByteArray := ⟨#[46, 46]⟩

/-- What lies between slashes. -/
def segs (s : ByteArray) : List ByteArray := Lib.splitB slashB 0 (Lib.countB s slashB) s

theorem segs_length (s : ByteArray) : (segs s).length = Lib.countB s slashB + 1 := Lib.splitB_all slashB (by decide) 0 _ s rfl

/-- The parts; none: one is too long. -/
def partsOf : List ByteArray → List ByteArray → Option (List ByteArray)
  | [], acc => some acc
  | x :: r, acc => if x = ByteArray.empty ∨ x = dotB then partsOf r acc else if 24 < x.size then none else partsOf r (acc ++ [x])

def lastB (s : ByteArray) : UInt8 := s.data.toList.getLastD 0

/-- What Parse gives: the error's code, the path. -/
def parse (s : ByteArray) : Nat × Pth :=
  if s = ByteArray.empty then (109, ⟨[], false⟩)
  else if 256 < s.size then (115, ⟨[], false⟩)
  else if s.data.toList.headD 0 ≠ 47 ∨ 0 ∈ s.data.toList then (114, ⟨[], false⟩)
  else match partsOf (segs s) [] with
    | none => (115, ⟨[], false⟩)
    | some l => (0, ⟨l, decide (l ≠ []) && decide (lastB s = 47)⟩)

theorem zero_path (w : World) : True := trivial

theorem info_str : (Tryz.prog.info? tStr).map (fun i => (i.zero, i.size, i.bytes)) = some (some (.string ByteArray.empty), 1, 16) := by kernel_rfl

set_option maxRecDepth 100000 in
set_option maxHeartbeats 1000000 in
theorem parse_empty {B0 : Nat} {A : Nat → Addr} {L : List Nat} {w : World} (G : Glob B0 A L w) :
    Calls Tryz.prog 131 #[.string ByteArray.empty] w fun e w' => e = .returned (.tuple #[.agg #[.slice none 0 0, .bool false], errV eT A 109]) ∧ Mods [] w w' := by
  rw [errV_pos eT A (c := 109) (by decide)]
  have g1 : w.cell? ⟨0, 0, none⟩ = _ := G.cell 109 (G.core _ (by decide))
  have g2 := G.lt 0 (by decide)
  clear G
  go_enter Tryz.func131, Tryz.ntmps131
  go_wp2_with fail
  go_region
  go_wp2_with fail
  refine bodyPost_ret (v := .tuple #[.agg #[.slice none 0 0, .bool false], .iface eT (.pointer (some (A 109)))]) (by simp [results, Tryz.results131, go_sem]) rfl ⟨rfl, ?_⟩
  exact ((Mods.refl _ _).alloc _).drew

set_option maxRecDepth 100000 in
set_option maxHeartbeats 1000000 in
theorem parse_long {B0 : Nat} {A : Nat → Addr} {L : List Nat} {w : World} (G : Glob B0 A L w) (s : ByteArray) (hs : 256 < s.size) :
    Calls Tryz.prog 131 #[.string s] w fun e w' => e = .returned (.tuple #[.agg #[.slice none 0 0, .bool false], errV eT A 115]) ∧ Mods [] w w' := by
  rw [errV_pos eT A (c := 115) (by decide)]
  have g1 : w.cell? ⟨12, 0, none⟩ = _ := G.cell 115 (G.core _ (by decide))
  have g2 := G.lt 12 (by decide)
  have e1 := isEmpty_of_ne (t := s) (by rintro rfl; simp at hs)
  clear G
  go_enter Tryz.func131, Tryz.ntmps131
  go_wp2_with fail
  go_region
  go_wp2_with fail
  refine bodyPost_ret (v := .tuple #[.agg #[.slice none 0 0, .bool false], .iface eT (.pointer (some (A 115)))]) (by simp [results, Tryz.results131, go_sem]) rfl ⟨rfl, ?_⟩
  exact ((Mods.refl _ _).alloc _).drew

theorem head_get {s : ByteArray} (h : 0 < s.size) : s[0] = s.data.toList.headD 0 := by
  obtain ⟨⟨l⟩⟩ := s
  cases l with
  | nil => exact absurd h (by decide)
  | cons a l => rfl

set_option maxRecDepth 100000 in
set_option maxHeartbeats 1000000 in
theorem parse_noslash {B0 : Nat} {A : Nat → Addr} {L : List Nat} {w : World} (G : Glob B0 A L w) (s : ByteArray) (hne : s ≠ ByteArray.empty) (hs : s.size ≤ 256) (hh : s.data.toList.headD 0 ≠ 47) :
    Calls Tryz.prog 131 #[.string s] w fun e w' => e = .returned (.tuple #[.agg #[.slice none 0 0, .bool false], errV eT A 114]) ∧ Mods [] w w' := by
  rw [errV_pos eT A (c := 114) (by decide)]
  have g1 : w.cell? ⟨3, 0, none⟩ = _ := G.cell 114 (G.core _ (by decide))
  have g2 := G.lt 3 (by decide)
  have e1 := isEmpty_of_ne hne
  have hpos : 0 < s.size := by
    rcases Nat.eq_zero_or_pos s.size with h | h
    · exact absurd (ByteArray.ext (by apply Array.eq_empty_of_size_eq_zero; exact h)) hne
    · exact h
  have e2 : (((s[0]).toNat : Int) != 47) = true := by
    rw [head_get hpos, bne_iff_ne]
    intro e
    exact hh (by apply UInt8.toNat_inj.1; show _ = 47; omega)
  clear G hne hh
  go_enter Tryz.func131, Tryz.ntmps131
  go_wp2_with fail
  go_region
  go_wp2_with fail
  refine bodyPost_ret (v := .tuple #[.agg #[.slice none 0 0, .bool false], .iface eT (.pointer (some (A 114)))]) (by simp [results, Tryz.results131, go_sem]) rfl ⟨rfl, ?_⟩
  exact ((Mods.refl _ _).alloc _).drew

set_option maxRecDepth 100000 in
set_option maxHeartbeats 1000000 in
theorem parse_nul {B0 : Nat} {A : Nat → Addr} {L : List Nat} {w : World} (G : Glob B0 A L w) (s : ByteArray) (hne : s ≠ ByteArray.empty) (hs : s.size ≤ 256) (hh : s.data.toList.headD 0 = 47) (h0 : 0 ∈ s.data.toList) :
    Calls Tryz.prog 131 #[.string s] w fun e w' => e = .returned (.tuple #[.agg #[.slice none 0 0, .bool false], errV eT A 114]) ∧ Mods [] w w' := by
  rw [errV_pos eT A (c := 114) (by decide)]
  have g1 : w.cell? ⟨3, 0, none⟩ = _ := G.cell 114 (G.core _ (by decide))
  have g2 := G.lt 3 (by decide)
  have e1 := isEmpty_of_ne hne
  have hpos : 0 < s.size := by
    rcases Nat.eq_zero_or_pos s.size with h | h
    · exact absurd (ByteArray.ext (by apply Array.eq_empty_of_size_eq_zero; exact h)) hne
    · exact h
  have e2 : (((s[0]).toNat : Int) != 47) = false := by
    rw [head_get hpos, hh]
    rfl
  have hc := contains_yes s 0 h0
  clear G hne hh h0
  go_enter Tryz.func131, Tryz.ntmps131
  go_wp2_with fail
  refine (hc _).mono ?_
  rintro e w' ⟨rfl, rfl⟩
  go_wp2_with fail
  go_region
  go_wp2_with fail
  refine bodyPost_ret (v := .tuple #[.agg #[.slice none 0 0, .bool false], .iface eT (.pointer (some (A 114)))]) (by simp [results, Tryz.results131, go_sem]) rfl ⟨rfl, ?_⟩
  exact ((Mods.refl _ _).alloc _).drew

theorem split_slash {w : World} {m : Int} (s : ByteArray) (hs : s.size ≤ 256) (hm : w.cell? ⟨25, 0, none⟩ = some (.int .i64 m)) :
    Calls Tryz.prog 204 #[.string s, .string ⟨#[47]⟩] w fun e w' => e = .returned (.slice (some ⟨w.heap.size, 0, none⟩) (segs s).length (segs s).length) ∧ w.alloc (.cells ((segs s).map Value.string).toArray tStr) = w' :=
  (Tryz.strings_Split s slashB m w (by omega) hm (by decide)).mono fun e w' ⟨h1, h2⟩ => ⟨by rw [h1, segs_length], by rw [h2]; rfl⟩

end Go.Proofs.YtaiigmiiidldcaaGreatDoor

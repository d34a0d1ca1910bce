/- Two errors held against each other. -/
import Derived.LaidEql
import Derived.Test.YtaiigmiiidldcaaGreatDoorQ02
set_option linter.unusedSimpArgs false
set_option linter.unusedVariables false
namespace Go.Proofs.YtaiigmiiidldcaaGreatDoor
open Go.RowKit

abbrev tError : TypeId := 27
theorem info_eT : ∃ i, Tryz.prog.info? eT = some i ∧ i.comparable = true := by
  have h : (Tryz.prog.info? eT).map (·.comparable) = some true := by kernel_rfl
  cases hi : Tryz.prog.info? eT with
  | none => rw [hi] at h; cases h
  | some i => rw [hi] at h; exact ⟨i, rfl, by simpa using h⟩
theorem info_eS : ∃ j, Tryz.prog.info? 400 = some j ∧ j.size ≠ 0 := by
  have h : (Tryz.prog.info? 400).map (·.size) = some 1 := by kernel_rfl
  cases hi : Tryz.prog.info? 400 with
  | none => rw [hi] at h; cases h
  | some i => rw [hi] at h; exact ⟨i, rfl, by simp at h; omega⟩

theorem err_eq (a : Addr) (w : World) : (binOp .eql tError (.iface eT (.pointer (some a))) (.iface eT (.pointer (some a)))).run Tryz.prog w = .ok (.bool true) w := by
  obtain ⟨i, hi, hc⟩ := info_eT
  obtain ⟨j, hj, _⟩ := info_eS
  exact run_eql_iface_ptr_same (P := Tryz.prog) w a Tryz.underlying27 Tryz.underlying384 hi hc hj

theorem err_sameAddr {B0 : Nat} {A : Nat → Addr} {L : List Nat} {w : World} (G : Glob B0 A L w) {c d : Nat} (h : A c ≠ A d) : (sameAddr (A c) (A d)).run Tryz.prog w = .ok false w := by
  obtain ⟨e1, n1, p1, p2, p3⟩ := G.shp c
  obtain ⟨e2, n2, q1, q2, q3⟩ := G.shp d
  have f1 := G.fr c
  have f2 := G.fr d
  by_cases hbl : (A c).block = (A d).block
  · simp [sameAddr, hbl, h]
  · simp [sameAddr, hbl, f1, f2, noView, viewAt, p1, q1, mayBeOne, stringish, p3, q3]

theorem err_equalIn {B0 : Nat} {A : Nat → Addr} {L : List Nat} {w : World} (G : Glob B0 A L w) (k : Nat) {c d : Nat} (h : A c ≠ A d) :
    (Op.equalIn (k + 2) tError (.iface eT (.pointer (some (A c)))) (.iface eT (.pointer (some (A d))))).run Tryz.prog w = .ok false w := by
  obtain ⟨i, hi, hcm⟩ := info_eT
  obtain ⟨j, hj, hsz⟩ := info_eS
  have hs := err_sameAddr G h
  simp [Op.equalIn, run_underlying Tryz.underlying27, run_underlying Tryz.underlying384, typeInfo, hi, hcm, sizeOf, hj, hsz, hs]

theorem err_ne {B0 : Nat} {A : Nat → Addr} {L : List Nat} {w : World} (G : Glob B0 A L w) {c d : Nat} (hc : c ∈ L) (hd : d ∈ L) (h : c ≠ d) :
    (binOp .eql tError (.iface eT (.pointer (some (A c)))) (.iface eT (.pointer (some (A d))))).run Tryz.prog w = .ok (.bool false) w := by
  have hs := err_equalIn G 9998 (c := c) (d := d) (fun e => h (G.inj c hc d hd e))
  simp only [binOp]
  simp [Op.equal, Op.maxDepth, hs]
end Go.Proofs.YtaiigmiiidldcaaGreatDoor

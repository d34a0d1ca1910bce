/- Blocks and bytes: what is laid is read as it was laid last. Plain lists. -/
import Derived.Test.YtaiigmiiidldcaaGreatDoorQ19
set_option linter.unusedSimpArgs false
set_option linter.unusedVariables false
namespace Go.Proofs.YtaiigmiiidldcaaGreatDoor

/-- What a block reads as; none: it is lost. -/
def Bod.blk (B : Bod) (c : Cel) : Option (List UInt8) := match aGet B.l c with
  | none => some (zeros 256)
  | some r => r

structure BodOk (B : Bod) : Prop where
  len : ∀ p ∈ B.l, ∀ l, p.2 = some l → l.length = 256
  nodup : (B.l.map (·.1)).Nodup
  ok : ∀ p ∈ B.l, okCel p.1

theorem BodyRep.ok {w : World} {b : Nat} {B : Bod} {F : List Nat} (h : BodyRep w b B F) : BodOk B := by
  obtain ⟨ml, md, raw, b1, b2, b3, b4, b5, b6, rfl⟩ := h
  have hk : B.l.map (·.1) = raw.map (·.1) := by rw [b4, List.map_map]; rfl
  refine ⟨fun p hp l e => ?_, by rw [hk]; exact b2.nodup, fun p hp => ?_⟩
  · rw [b4] at hp
    obtain ⟨r, hr, rfl⟩ := List.mem_map.1 hp
    have := b5 r hr
    simp only [rawOf] at e
    rw [e] at this
    exact this.1
  · have : p.1 ∈ raw.map (·.1) := by rw [← hk]; exact List.mem_map.2 ⟨p, hp, rfl⟩
    obtain ⟨r, hr, e⟩ := List.mem_map.1 this
    rw [← e]
    exact b2.oks r hr

theorem BodOk.blk {B : Bod} (h : BodOk B) {c : Cel} {l : List UInt8} (e : B.blk c = some l) : l.length = 256 := by
  unfold Bod.blk at e
  cases hg : aGet B.l c with
  | none => rw [hg] at e; cases e; exact length_zeros 256
  | some r => rw [hg] at e; exact h.len _ (aGet_mem hg) l e

def Bod.byte (B : Bod) (n : Int) (i : Nat) : UInt8 := (((B.blk (n, ((i / 256 : Nat) : Int))).getD [])[i % 256]?).getD 0

theorem spl_get {α : Type} (L : List α) (o : Nat) (cs : List α) (h : o + cs.length ≤ L.length) (j : Nat) : (spl L o cs)[j]? = if o ≤ j ∧ j < o + cs.length then cs[j - o]? else L[j]? := by
  unfold spl
  by_cases h1 : j < o
  · rw [List.getElem?_append_left (by simp; omega), List.getElem?_take, if_pos h1, if_neg (by omega)]
  · rw [List.getElem?_append_right (by simp; omega)]
    simp only [List.length_take, Nat.min_eq_left (show o ≤ L.length by omega)]
    by_cases h2 : j - o < cs.length
    · rw [List.getElem?_append_left h2, if_pos (by omega)]
    · rw [List.getElem?_append_right (by omega), List.getElem?_drop, if_neg (by omega)]
      congr 1; omega

theorem spl_length {α : Type} (L : List α) (o : Nat) (cs : List α) (h : o + cs.length ≤ L.length) : (spl L o cs).length = L.length := by
  unfold spl
  simp only [List.length_append, List.length_take, List.length_drop]
  omega

theorem full_id {l : List UInt8} (h : l.length = 256) : full l = l := by
  unfold full
  rw [h]
  simp [zeros]

theorem full_get (l : List UInt8) (j : Nat) : ((full l)[j]?).getD 0 = (l[j]?).getD 0 := by
  unfold full zeros
  by_cases h : j < l.length
  · rw [List.getElem?_append_left h]
  · rw [List.getElem?_append_right (by omega), List.getElem?_replicate, List.getElem?_eq_none (by omega)]
    split <;> rfl

/-- Bytes laid into a block. -/
def Bod.put (B : Bod) (c : Cel) (o : Nat) (cs : List UInt8) : Bod := B.set c (spl (full ((B.blk c).getD [])) o cs)

theorem Bod.put_blk {B : Bod} (h : BodOk B) (c : Cel) (o : Nat) (cs : List UInt8) (ho : o + cs.length ≤ 256) (c' : Cel) :
    (B.put c o cs).blk c' = if c' = c then some (spl (full ((B.blk c).getD [])) o cs) else B.blk c' := by
  have hl : (full ((B.blk c).getD [])).length = 256 := by
    cases e : B.blk c with
    | none => exact full_length (by simp)
    | some l => exact full_length (by simp [h.blk e])
  unfold Bod.put Bod.set Bod.blk
  simp only
  rw [aGet_aPut]
  by_cases e : c' = c
  · rw [if_pos e, if_pos e]
    simp only
    rw [full_id (by rw [spl_length _ _ _ (by rw [← hl] at ho; unfold Bod.blk at ho; exact ho)]; unfold Bod.blk at hl; exact hl)]
  · rw [if_neg e, if_neg e]

theorem Bod.put_ok {B : Bod} (h : BodOk B) (c : Cel) (hc : okCel c) (o : Nat) (cs : List UInt8) (ho : o + cs.length ≤ 256) : BodOk (B.put c o cs) := by
  have hl : (full ((B.blk c).getD [])).length = 256 := by
    cases e : B.blk c with
    | none => exact full_length (by simp)
    | some l => exact full_length (by simp [h.blk e])
  unfold Bod.put Bod.set
  refine ⟨fun p hp l e => ?_, aPut_nodup h.nodup, fun p hp => ?_⟩
  · rcases aPut_mem hp with hp | rfl
    · exact h.len p hp l e
    · cases e
      exact full_length (by rw [spl_length _ _ _ (by omega)]; omega)
  · rcases aPut_mem hp with hp | rfl
    · exact h.ok p hp
    · exact hc

theorem Bod.put_byte {B : Bod} (h : BodOk B) (n : Int) (q o : Nat) (cs : List UInt8) (ho : o + cs.length ≤ 256) (i : Nat) :
    (B.put (n, (q : Int)) o cs).byte n i = if i / 256 = q ∧ o ≤ i % 256 ∧ i % 256 < o + cs.length then (cs[i % 256 - o]?).getD 0 else B.byte n i := by
  have hl : (full ((B.blk (n, (q : Int))).getD [])).length = 256 := by
    cases e : B.blk (n, (q : Int)) with
    | none => exact full_length (by simp)
    | some l => exact full_length (by simp [h.blk e])
  unfold Bod.byte
  rw [Bod.put_blk h _ _ _ ho]
  by_cases e : i / 256 = q
  · subst e
    rw [if_pos rfl]
    simp only [Option.getD_some]
    rw [spl_get _ _ _ (by omega)]
    by_cases h2 : o ≤ i % 256 ∧ i % 256 < o + cs.length
    · rw [if_pos h2, if_pos ⟨trivial, h2⟩]
    · rw [if_neg h2, if_neg (by simpa using h2), full_get]
  · rw [if_neg (by simp only [Prod.mk.injEq, not_and]; intro _; omega), if_neg (by simp [e])]

/-- Another file's bytes. -/
theorem Bod.put_byte_ne {B : Bod} (h : BodOk B) {n n' : Int} (hn : n' ≠ n) (q o : Nat) (cs : List UInt8) (ho : o + cs.length ≤ 256) (i : Nat) : (B.put (n, (q : Int)) o cs).byte n' i = B.byte n' i := by
  unfold Bod.byte
  rw [Bod.put_blk h _ _ _ ho, if_neg (by simp [hn])]

/-! ### pieces -/
/-- Bytes laid, block by block. -/
def layN : Bod → Int → List Pc → List UInt8 → Bod
  | B, _, [], _ => B
  | B, n, p :: ps, b => layN (B.put (n, p.index) p.from_.toNat (b.take (p.to_ - p.from_).toNat)) n ps (b.drop (p.to_ - p.from_).toNat)

def stepN (a n : Nat) : Nat := min n (256 - a % 256)

theorem piecesN_succ (k a n : Nat) (hn : n ≠ 0) : piecesN (k + 1) (a : Int) (n : Int) = ⟨((a / 256 : Nat) : Int), ((a % 256 : Nat) : Int), ((a % 256 + stepN a n : Nat) : Int)⟩ :: piecesN k ((a + stepN a n : Nat) : Int) ((n - stepN a n : Nat) : Int) := by
  rw [piecesN, if_neg (by omega)]
  have hs : stepOf (a : Int) (n : Int) = ((stepN a n : Nat) : Int) := by unfold stepOf stepN; omega
  rw [hs]
  have : stepN a n ≤ n := by unfold stepN; omega
  congr 2
  omega

theorem piecesN_zero (k : Nat) (a : Int) : piecesN k a 0 = [] := by cases k <;> simp [piecesN]

theorem layN_succ (B : Bod) (n : Int) (k a : Nat) (b : List UInt8) (hb : b ≠ []) :
    layN B n (piecesN (k + 1) (a : Int) (b.length : Int)) b = layN (B.put (n, ((a / 256 : Nat) : Int)) (a % 256) (b.take (stepN a b.length))) n (piecesN k ((a + stepN a b.length : Nat) : Int) ((b.drop (stepN a b.length)).length : Int)) (b.drop (stepN a b.length)) := by
  rw [piecesN_succ k a b.length (by simpa using hb), layN]
  simp only [Int.toNat_natCast, List.length_drop]
  have : (((a % 256 + stepN a b.length : Nat) : Int) - ((a % 256 : Nat) : Int)).toNat = stepN a b.length := by omega
  rw [this]

theorem okCel_nat {n : Int} (hn : okInt n) {q : Nat} (hq : q ≤ 4294967296) : okCel (n, (q : Int)) := ⟨hn, by constructor <;> simp only <;> omega⟩

theorem layN_ok (n : Int) (hn : okInt n) : ∀ (k : Nat) (B : Bod) (a : Nat) (b : List UInt8), BodOk B → b.length ≤ k → a + b.length ≤ 1099511627776 → BodOk (layN B n (piecesN k (a : Int) (b.length : Int)) b) := by
  intro k
  induction k with
  | zero =>
    intro B a b h hk _
    obtain rfl : b = [] := List.eq_nil_of_length_eq_zero (by omega)
    simpa [piecesN, layN] using h
  | succ k ih =>
    intro B a b h hk ha
    by_cases hb : b = []
    · subst hb
      simpa [piecesN, layN] using h
    · have hp : 0 < b.length := List.length_pos_iff.2 hb
      rw [layN_succ B n k a b hb]
      refine ih _ _ _ (Bod.put_ok h _ (okCel_nat hn (by omega)) _ _ ?_) ?_ ?_
      · simp only [List.length_take]; unfold stepN; omega
      · simp only [List.length_drop]; unfold stepN; omega
      · simp only [List.length_drop]; unfold stepN; omega

theorem layN_byte (n : Int) (hn : okInt n) : ∀ (k : Nat) (B : Bod) (a : Nat) (b : List UInt8), BodOk B → b.length ≤ k → a + b.length ≤ 1099511627776 → ∀ i, (layN B n (piecesN k (a : Int) (b.length : Int)) b).byte n i = if a ≤ i ∧ i < a + b.length then (b[i - a]?).getD 0 else B.byte n i := by
  intro k
  induction k with
  | zero =>
    intro B a b h hk _ i
    obtain rfl : b = [] := List.eq_nil_of_length_eq_zero (by omega)
    simp only [piecesN, layN]
    rw [if_neg (by simp)]
  | succ k ih =>
    intro B a b h hk ha i
    by_cases hb : b = []
    · subst hb
      simp only [List.length_nil, Int.ofNat_eq_natCast, Int.natCast_zero]
      rw [piecesN_zero, layN, if_neg (by omega)]
    · have hp : 0 < b.length := List.length_pos_iff.2 hb
      have hs1 : stepN a b.length ≤ b.length := by unfold stepN; omega
      have hs2 : a % 256 + stepN a b.length ≤ 256 := by unfold stepN; omega
      have hs3 : 0 < stepN a b.length := by unfold stepN; omega
      have ht : (b.take (stepN a b.length)).length = stepN a b.length := by simp only [List.length_take]; omega
      rw [layN_succ B n k a b hb, ih _ _ _ (Bod.put_ok h _ (okCel_nat hn (by omega)) _ _ (by rw [ht]; exact hs2)) (by simp only [List.length_drop]; omega) (by simp only [List.length_drop]; omega),
        Bod.put_byte h n (a / 256) (a % 256) _ (by rw [ht]; exact hs2), ht]
      simp only [List.length_drop, List.getElem?_drop, List.getElem?_take]
      generalize stepN a b.length = s at *
      by_cases h1 : a + s ≤ i ∧ i < a + s + (b.length - s)
      · rw [if_pos h1, if_pos (by omega)]
        congr 2; omega
      · rw [if_neg h1]
        by_cases h2 : i / 256 = a / 256 ∧ a % 256 ≤ i % 256 ∧ i % 256 < a % 256 + s
        · rw [if_pos h2, if_pos (by omega), if_pos (by omega)]
          congr 2; omega
        · rw [if_neg h2, if_neg (by omega)]

theorem layN_byte_ne {n n' : Int} (hn : okInt n) (hne : n' ≠ n) : ∀ (k : Nat) (B : Bod) (a : Nat) (b : List UInt8), BodOk B → b.length ≤ k → a + b.length ≤ 1099511627776 → ∀ i, (layN B n (piecesN k (a : Int) (b.length : Int)) b).byte n' i = B.byte n' i := by
  intro k
  induction k with
  | zero => intro B a b h hk _ i; rfl
  | succ k ih =>
    intro B a b h hk ha i
    by_cases hb : b = []
    · subst hb
      simp only [List.length_nil, Int.ofNat_eq_natCast, Int.natCast_zero]
      rw [piecesN_zero, layN]
    · have hp : 0 < b.length := List.length_pos_iff.2 hb
      have hs1 : stepN a b.length ≤ b.length := by unfold stepN; omega
      have hs2 : a % 256 + stepN a b.length ≤ 256 := by unfold stepN; omega
      have hs3 : 0 < stepN a b.length := by unfold stepN; omega
      have ht : (b.take (stepN a b.length)).length = stepN a b.length := by simp only [List.length_take]; omega
      rw [layN_succ B n k a b hb, ih _ _ _ (Bod.put_ok h _ (okCel_nat hn (by omega)) _ _ (by rw [ht]; exact hs2)) (by simp only [List.length_drop]; omega) (by simp only [List.length_drop]; omega),
        Bod.put_byte_ne h hne _ _ _ (by rw [ht]; exact hs2)]
end Go.Proofs.YtaiigmiiidldcaaGreatDoor

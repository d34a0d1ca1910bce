/- Cells as a map's keys; bytes in memory; Package body: files' blocks in memory, and its calls; Package body: Get, Set, Lose, Del, Clone; Package body: Set, Lose, Del, Clone; copying bytes. -/
import Derived.DeepKeys4
import Derived.Deep.AppendLies
import Derived.Test.YtaiigmiiidldcaaGreatDoorQ06
set_option linter.unusedSimpArgs false
set_option linter.unusedVariables false
namespace Go.Proofs.YtaiigmiiidldcaaGreatDoor
open Go.RowKit Go.Maps
open Go.ChangeMaps (setBlock)

abbrev tCell : TypeId := 52
abbrev tU8 : TypeId := 5
abbrev tBytes : TypeId := 32
abbrev tMapBytes : TypeId := 133
abbrev tMapInt : TypeId := 134

abbrev Cel := Int × Int
def celV (c : Cel) : Value := .agg #[.int .i64 c.1, .int .i64 c.2]
def okCel (c : Cel) : Prop := okInt c.1 ∧ okInt c.2

theorem laidOut : laidOutB Tryz.prog = true := by kernel_rfl
theorem row_cell : tCell < Tryz.prog.types.size := of_decide_eq_true (by kernel_rfl)
theorem wide_cell : (match Tryz.prog.underlying tCell with | some (.array _ _) | some (.struct _) => true | _ => false) = true := by rw [Tryz.underlying52]
theorem keyT_cell : Tryz.prog.keyType tCell = true := by kernel_rfl
theorem cells_cell : Tryz.prog.cellsOf tCell = 2 := by kernel_rfl
theorem cells_int : Tryz.prog.cellsOf 3 = 1 := by kernel_rfl

theorem wf_ok {n : Int} (h : okInt n) : (Lit.int .i64 n).wf = true := by have := h.1; have := h.2; exact WalkArith.wf_i64 (by omega)

theorem keyOf_cell {c : Cel} (h : okCel c) : keyOf Tryz.prog tCell (celV c) = some (.string (keyBytes [.int .i64 c.1, .int .i64 c.2])) := by
  obtain ⟨m, hm⟩ := Nat.exists_eq_succ_of_ne_zero (Nat.ne_of_gt (Nat.lt_of_le_of_lt (Nat.zero_le _) row_cell))
  have w1 := wf_ok h.1
  have w2 := wf_ok h.2
  unfold keyOf celV
  simp only [Tryz.underlying52]
  rw [if_pos (by simp [keyT_cell, Value.formed, Tryz.underlying52, cells_cell]), hm]
  unfold Program.keyLits
  simp only [Tryz.underlying52, Value.cells]
  rw [if_pos (by refine ⟨by rw [cells_cell]; rfl, ?_⟩; simp)]
  simp [cells_int, Program.keyLits, Tryz.underlying3, w1, w2]

set_option maxRecDepth 100000 in
theorem celEnc : KeyEnc Tryz.prog tCell celV okCel where
  keyed := Keyed.of_law (deep_law_laid laidOut (m := 2) (by omega) row_cell (by kernel_rfl) wide_cell)
  inj a b h := by simpa [celV, Prod.ext_iff] using h
  of a h := ⟨_, keyOf_cell h⟩

/-! ### bytes -/
def bV (x : UInt8) : Value := .int .u8 (x.toNat : Int)

/-- The slice v reads as the bytes l. -/
def Bytes (w : World) (v : Value) (l : List UInt8) : Prop :=
  ∃ A c, v = .slice A l.length c ∧ l.length ≤ c ∧ (l ≠ [] → ∃ g o, A = some ⟨g, o, none⟩ ∧ (∃ cs fr, w.heap[g]? = some (.cells cs tU8 fr)) ∧ ∀ j x, l[j]? = some x → w.cell? ⟨g, o + j, none⟩ = some (bV x))

/-- No block of F is a row of t. -/
def NoRow (t : TypeId) (w : World) (F : List Nat) : Prop := ∀ g ∈ F, ∀ cs fr, w.heap[g]? ≠ some (.cells cs t fr)
abbrev NoBytes (w : World) (F : List Nat) : Prop := NoRow tU8 w F

section
variable {w w' : World} {v : Value} {l : List UInt8} {F : List Nat}
theorem Bytes.mods (h : Bytes w v l) (m : Mods F w w') (hF : NoBytes w F) : Bytes w' v l := by
  obtain ⟨A, c, h1, h2, h3⟩ := h
  refine ⟨A, c, h1, h2, fun hl => ?_⟩
  obtain ⟨g, o, e, ⟨cs, fr, hb⟩, hc⟩ := h3 hl
  have hg : g ∉ F := fun hf => hF g hf cs fr hb
  have hlt := lt_of_heap hb
  refine ⟨g, o, e, ⟨cs, fr, m.at hb hg⟩, fun j x hx => ?_⟩
  rw [← hc j x hx]
  exact World.cell?_of_block (a := ⟨g, o + j, none⟩) (m.block g hlt hg)
theorem Bytes.mods0 (h : Bytes w v l) (m : Mods [] w w') : Bytes w' v l := h.mods m (by intro g hg; cases hg)
theorem NoRow.mods {t : TypeId} {G : List Nat} (h : NoRow t w F) (m : Mods G w w') (hd : ∀ g ∈ F, g ∉ G) (hlt : ∀ g ∈ F, g < w.heap.size) : NoRow t w' F := fun g hg cs fr => by
  rw [m.block g (hlt g hg) (hd g hg)]
  exact h g hg cs fr
theorem NoRow.append {t : TypeId} {G : List Nat} (h : NoRow t w F) (k : NoRow t w G) : NoRow t w (F ++ G) := fun g hg => by
  rcases List.mem_append.1 hg with h1 | h1
  · exact h g h1
  · exact k g h1
theorem NoRow.of_blk {s : TypeId} {g : Nat} {t : TypeId} {cs : Array Value} (h : Blk w g t cs) (ht : t ≠ s) : NoRow s w [g] := by
  intro g' hg cs' fr e
  obtain rfl := List.mem_singleton.1 hg
  unfold Blk at h
  rw [h] at e
  cases e
  exact ht rfl
theorem NoRow.of_map {s : TypeId} {κ ν : Type} {r : Nat} {ek : κ → Value} {ev : ν → Value} {ok : κ → Prop} {l : List (κ × ν)} (h : MapRep w r ek ev ok l) : NoRow s w [r] := by
  intro g' hg cs' fr e
  obtain rfl := List.mem_singleton.1 hg
  obtain ⟨_, _, hb, _⟩ := h.ex
  rw [hb] at e
  cases e
theorem NoRow.nil (t : TypeId) (w : World) : NoRow t w [] := fun g hg => by cases hg

abbrev tStr : TypeId := 9
/-- The slice v reads as the strings l. -/
def Strs (w : World) (v : Value) (l : List ByteArray) : Prop :=
  ∃ A c, v = .slice A l.length c ∧ l.length ≤ c ∧ (l ≠ [] → ∃ g o, A = some ⟨g, o, none⟩ ∧ (∃ cs fr, w.heap[g]? = some (.cells cs tStr fr)) ∧ ∀ j x, l[j]? = some x → w.cell? ⟨g, o + j, none⟩ = some (.string x))

theorem Strs.mods {l : List ByteArray} (h : Strs w v l) (m : Mods F w w') (hF : NoRow tStr w F) : Strs w' v l := by
  obtain ⟨A, c, h1, h2, h3⟩ := h
  refine ⟨A, c, h1, h2, fun hl => ?_⟩
  obtain ⟨g, o, e, ⟨cs, fr, hb⟩, hc⟩ := h3 hl
  have hg : g ∉ F := fun hf => hF g hf cs fr hb
  have hlt := lt_of_heap hb
  refine ⟨g, o, e, ⟨cs, fr, m.at hb hg⟩, fun j x hx => ?_⟩
  rw [← hc j x hx]
  exact World.cell?_of_block (a := ⟨g, o + j, none⟩) (m.block g hlt hg)
theorem Strs.mods0 {l : List ByteArray} (h : Strs w v l) (m : Mods [] w w') : Strs w' v l := h.mods m (by intro g hg; cases hg)
theorem Strs.of_own {base : Nat} {l : List ByteArray} (h : w.ownsRow base tStr 1 v l.length (l.map strV)) : Strs w v l := by
  rcases h.2 with ⟨rfl, h0⟩ | ⟨g, cap, cur, rfl, _, hh, h1, h2⟩
  · have : l = [] := by cases l with
      | nil => rfl
      | cons a b => simp at h0
    subst this
    exact ⟨none, 0, rfl, by simp, fun h => absurd rfl h⟩
  · refine ⟨some ⟨g, 0, none⟩, cap, rfl, h1, fun _ => ⟨g, 0, rfl, ⟨_, _, hh⟩, fun j x hx => ?_⟩⟩
    have := h.cellAt j (by have := (List.getElem?_eq_some_iff.1 hx).1; omega)
    rw [Nat.zero_add, this]
    simp [hx, strV]

/-- What a file's block holds: none: it is lost. -/
def DataRep (w : World) (v : Value) : Option (List UInt8) → Prop
  | none => v = .slice none 0 0
  | some l => l.length = 256 ∧ ∃ g, v = .slice (some ⟨g, 0, none⟩) 256 256 ∧ Blk w g tU8 (l.map bV).toArray

theorem DataRep.mods {b : Option (List UInt8)} (h : DataRep w v b) (m : Mods F w w') (hF : NoBytes w F) : DataRep w' v b := by
  cases b with
  | none => exact h
  | some l =>
    obtain ⟨h1, g, h2, h3⟩ := h
    exact ⟨h1, g, h2, h3.mods m (fun hf => hF g hf _ _ h3)⟩

theorem DataRep.bytes {l : List UInt8} (h : DataRep w v (some l)) : Bytes w v l := by
  obtain ⟨h1, g, h2, h3⟩ := h
  refine ⟨some ⟨g, 0, none⟩, 256, by rw [h1]; exact h2, by omega, fun _ => ⟨g, 0, rfl, ⟨_, _, h3⟩, fun j x hx => ?_⟩⟩
  rw [Nat.zero_add, h3.cell]
  simp [hx]

/-- A row of the call's own, read as bytes. -/
theorem Bytes.of_own {base : Nat} (h : w.ownsRow base tU8 1 v l.length (l.map bV)) : Bytes w v l := by
  rcases h.2 with ⟨rfl, h0⟩ | ⟨g, cap, cur, rfl, _, hh, h1, h2⟩
  · have : l = [] := by cases l with
      | nil => rfl
      | cons a b => simp at h0
    subst this
    exact ⟨none, 0, rfl, by simp, fun h => absurd rfl h⟩
  · refine ⟨some ⟨g, 0, none⟩, cap, rfl, h1, fun _ => ⟨g, 0, rfl, ⟨_, _, hh⟩, fun j x hx => ?_⟩⟩
    have := h.cellAt j (by have := (List.getElem?_eq_some_iff.1 hx).1; omega)
    rw [Nat.zero_add, this]
    simp [hx]
end
end Go.Proofs.YtaiigmiiidldcaaGreatDoor

namespace Go.Proofs.YtaiigmiiidldcaaGreatDoor
open Go.RowKit Go.Maps
open Go.ChangeMaps (setBlock)

abbrev tBody : TypeId := 136

theorem ownsRow_base {w : World} {base base' : Nat} {e : TypeId} {size n : Nat} {v : Value} {xs : List Value} (h : w.ownsRow base e size v n xs) (hb : base' ≤ base) : w.ownsRow base' e size v n xs := by
  obtain ⟨h1, h2⟩ := h
  refine ⟨h1, ?_⟩
  rcases h2 with h2 | ⟨g, cap, cur, hv, hg, r⟩
  · exact .inl h2
  · exact .inr ⟨g, cap, cur, hv, Nat.le_trans hb hg, r⟩

theorem info_u8 : (Tryz.prog.info? tU8).map (fun i => (i.zero, i.size, i.bytes)) = some (some (.int .u8 0), 1, 1) := by kernel_rfl

set_option maxRecDepth 100000 in
set_option maxHeartbeats 400000 in
theorem clone_bytes {w : World} {v : Value} {l : List UInt8} (h : Bytes w v l) (hl : l ≠ []) (hlen : l.length ≤ 1048576) :
    Calls Tryz.prog 136 #[v] w fun e w' => ∃ v', e = .returned v' ∧ Bytes w' v' l ∧ Mods [] w w' ∧ w'.ownsRow w.heap.size tU8 1 v' l.length (l.map bV) := by
  obtain ⟨A, c, rfl, hc1, h3⟩ := h
  obtain ⟨g, o, rfl, ⟨cs, fr, hb⟩, hc⟩ := h3 hl
  have hlt := lt_of_heap hb
  obtain ⟨i0, hi, hz0, hz1, hz2⟩ := info_parts info_u8
  have hq := fun w => Lib.run_eql_slice_nil (P := Tryz.prog) w tBytes tU8 (some ⟨g, o, none⟩) l.length c 0 0 Tryz.underlying32
  have hcc : ∀ X, ∀ j u, (l.map bV)[j]? = some u → (w.alloc X).cell? ((⟨g, o, none⟩ : Addr).add j) = some u := by
    intro X j u hu
    rw [Addr.add_lit, World.cell?_alloc_lt _ _ _ hlt]
    rw [List.getElem?_map] at hu
    cases hx : l[j]? with
    | none => simp [hx] at hu
    | some x => simp [hx] at hu; rw [← hu]; exact hc j x hx
  have hpos : 0 < l.length := List.length_pos_iff.2 hl
  have HCC := Lib.hid hcc
  clear hc hb h3 hcc
  go_enter Tryz.func136, Tryz.ntmps136
  go_wp2_with (at_builtin; refine wpList_append_grows _ rfl (Operand.tmp 5) (Operand.tmp 6) 32 rfl tU8 i0 (.int .u8 0) 1 1 Tryz.underlying32 hi hz0 hz1 hz2 rfl ?c0 (some ⟨w.heap.size, 0, none⟩) 0 0 [] rfl ?c1 ?c2 ?c3 ⟨g, o, none⟩ l.length c (l.map bV) ?c4 ?c5 ?c6 ?c7 ?c8 ?c9 ?c10 ?_; rotate_right; intro v' w1 hown hgr)
  case c0 => decide
  case c2 => rfl
  case c3 => intro _ _ j u h; simp at h
  case c4 => rfl
  case c5 => simp
  case c6 => exact HCC.out _
  case c7 =>
    intro u hu
    obtain ⟨x, _, rfl⟩ := List.mem_map.1 hu
    rfl
  case c8 => omega
  case c9 => unfold maxLen; omega
  case c10 => omega
  go_wp2_with fail
  go_ret
  simp only [World.size_alloc, Nat.zero_add, List.nil_append] at hown
  have hm : Mods [] w w1 := ((Mods.refl [] w).alloc _).grown hgr (by simp)
  have hown' : w1.ownsRow w.heap.size tU8 1 v' l.length (l.map bV) := ownsRow_base hown (by omega)
  exact ⟨v', rfl, Bytes.of_own hown', hm, hown'⟩

/-! ### the body -/
/-- Files' blocks (none: lost), and which are dirty. -/
structure Bod where
  l : List (Cel × Option (List UInt8))
  dirty : List (Cel × Int)

abbrev Raw := Value × Option (List UInt8)
def rawV (r : Raw) : Value := r.1
def rawOf (p : Cel × Raw) : Cel × Option (List UInt8) := (p.1, p.2.2)

/-- Block b is a body. -/
def BodyRep (w : World) (b : Nat) (B : Bod) (F : List Nat) : Prop :=
  ∃ (ml md : Nat) (raw : List (Cel × Raw)), Blk w b tBody #[.map (some ml), .map (some md)] ∧ MapRep w ml celV rawV okCel raw ∧ MapRep w md celV intV okCel B.dirty ∧
    B.l = raw.map rawOf ∧ (∀ p ∈ raw, DataRep w p.2.1 p.2.2) ∧ ml ≠ md ∧ F = [b, ml, md]

theorem aGet_map {κ ν μ : Type} [DecidableEq κ] (f : ν → μ) (l : List (κ × ν)) (k : κ) : aGet (l.map fun p => (p.1, f p.2)) k = (aGet l k).map f := by
  induction l with
  | nil => rfl
  | cons x l ih =>
    obtain ⟨a, u⟩ := x
    simp only [List.map_cons, aGet]
    split
    · rfl
    · exact ih
theorem aPut_map {κ ν μ : Type} [DecidableEq κ] (f : ν → μ) (l : List (κ × ν)) (k : κ) (v : ν) : (aPut l k v).map (fun p => (p.1, f p.2)) = aPut (l.map fun p => (p.1, f p.2)) k (f v) := by
  induction l with
  | nil => rfl
  | cons x l ih =>
    obtain ⟨a, u⟩ := x
    simp only [List.map_cons, aPut]
    split
    · rfl
    · simp only [List.map_cons, ih]
theorem aDel_map {κ ν μ : Type} [DecidableEq κ] (f : ν → μ) (l : List (κ × ν)) (k : κ) : (aDel l k).map (fun p => (p.1, f p.2)) = aDel (l.map fun p => (p.1, f p.2)) k := by
  induction l with
  | nil => rfl
  | cons x l ih =>
    obtain ⟨a, u⟩ := x
    simp only [List.map_cons, aDel]
    split
    · rfl
    · simp only [List.map_cons, ih]

section
variable {w w' : World} {b : Nat} {B : Bod} {F : List Nat}
theorem BodyRep.noBytes (h : BodyRep w b B F) : NoBytes w F := by
  obtain ⟨ml, md, raw, h1, h2, h3, h4, h5, h6, rfl⟩ := h
  exact (NoRow.of_blk h1 (by decide)).append ((NoRow.of_map h2).append (NoRow.of_map h3))
theorem BodyRep.old (h : BodyRep w b B F) : ∀ g ∈ F, g < w.heap.size := by
  obtain ⟨ml, md, raw, h1, h2, h3, h4, h5, h6, rfl⟩ := h
  have := h1.lt; have := h2.lt; have := h3.lt
  intro g hg; simp at hg; omega
theorem BodyRep.nodup (h : BodyRep w b B F) : F.Nodup := by
  obtain ⟨ml, md, raw, h1, h2, h3, h4, h5, h6, rfl⟩ := h
  have n1 := h2.ne_blk h1
  have n2 := h3.ne_blk h1
  simp [n1, n2, h6]
theorem BodyRep.mods {G : List Nat} (h : BodyRep w b B F) (m : Mods G w w') (hd : ∀ g ∈ F, g ∉ G) (hG : NoBytes w G) : BodyRep w' b B F := by
  obtain ⟨ml, md, raw, h1, h2, h3, h4, h5, h6, rfl⟩ := h
  exact ⟨ml, md, raw, h1.mods m (hd b (by simp)), h2.mods m (hd ml (by simp)), h3.mods m (hd md (by simp)), h4, fun p hp => (h5 p hp).mods m hG, h6, rfl⟩
theorem BodyRep.mods0 (h : BodyRep w b B F) (m : Mods [] w w') : BodyRep w' b B F := h.mods m (by simp) (by intro g hg; cases hg)
end

theorem zero_bytes (w : World) : (zeroValue tBytes).run Tryz.prog w = .ok (.slice none 0 0) w := by kernel_rfl

set_option maxHeartbeats 400000 in
theorem body_New (w : World) :
    Calls Tryz.prog 53 #[] w fun e w' => ∃ b F, e = .returned (.pointer (some ⟨b, 0, none⟩)) ∧ Mods [] w w' ∧ BodyRep w' b ⟨[], []⟩ F ∧ (∀ g ∈ F, w.heap.size ≤ g) := by
  have hmm := @run_makeMap Tryz.prog
  go_enter Tryz.func53, Tryz.ntmps53
  go_wp2_with fail
  go_ret
  refine ⟨w.heap.size + 1 + 1, [w.heap.size + 1 + 1, w.heap.size, w.heap.size + 1], by simp, (((Mods.refl _ _).alloc _).alloc _).alloc _, ⟨w.heap.size, w.heap.size + 1, [], ?_, ?_, ?_, rfl, by simp, by omega, rfl⟩, ?_⟩
  · have := Blk.new ((w.alloc (.map #[] 0)).alloc (.map #[] 0)) tBody #[.map (some w.heap.size), .map (some (w.heap.size + 1))]
    simpa using this
  · exact ((MapRep.new w celV rawV okCel).alloc _).alloc _
  · have := (MapRep.new (w.alloc (.map #[] 0)) celV intV okCel).alloc (.cells #[.map (some w.heap.size), .map (some (w.heap.size + 1))] tBody)
    simpa using this
  · simp; omega

set_option maxRecDepth 100000 in
set_option maxHeartbeats 400000 in
theorem body_Has {w : World} {b : Nat} {B : Bod} {F : List Nat} (h : BodyRep w b B F) (c : Cel) (hc : okCel c) :
    Calls Tryz.prog 69 #[.pointer (some ⟨b, 0, none⟩), celV c] w fun e w' => e = .returned (.bool (aGet B.l c).isSome) ∧ Mods [] w w' := by
  obtain ⟨ml, md, raw, h1, h2, h3, h4, h5, h6, rfl⟩ := h
  have hl := fun o => ((h2.alloc o).drew).run_lookup celEnc Tryz.underlying133 (zero_bytes _) hc true
  rw [show (aGet B.l c).isSome = (aGet raw c).isSome from by rw [h4, show raw.map rawOf = raw.map (fun p => (p.1, (fun r : Raw => r.2) p.2)) from rfl, aGet_map]; cases aGet raw c <;> rfl]
  generalize aGet raw c = r at *
  have c0 := h1.cell 0
  simp at c0
  have hlt := h1.lt
  clear h1 h2 h3 h4 h5 h6
  obtain ⟨c1, c2⟩ := c
  simp only [celV] at *
  cases r with
  | none =>
    simp only [if_true] at hl
    go_enter Tryz.func69, Tryz.ntmps69
    go_wp2_with fail
    go_region
    go_wp2_with fail
    go_ret
    exact ⟨rfl, ((Mods.refl _ _).alloc _).drew⟩
  | some r =>
    simp only [if_true] at hl
    go_enter Tryz.func69, Tryz.ntmps69
    go_wp2_with fail
    go_region
    go_wp2_with fail
    go_ret
    exact ⟨rfl, ((Mods.refl _ _).alloc _).drew⟩
end Go.Proofs.YtaiigmiiidldcaaGreatDoor

namespace Go.Proofs.YtaiigmiiidldcaaGreatDoor
open Go.RowKit Go.Maps
open Go.ChangeMaps (setBlock)

def zeros (n : Nat) : List UInt8 := List.replicate n 0

theorem raw_get {B : Bod} {raw : List (Cel × Raw)} (h4 : B.l = raw.map rawOf) (c : Cel) : aGet B.l c = (aGet raw c).map (·.2) := by
  rw [h4, show raw.map rawOf = raw.map (fun p => (p.1, (fun r : Raw => r.2) p.2)) from rfl, aGet_map]
theorem raw_put {B : Bod} {raw : List (Cel × Raw)} (h4 : B.l = raw.map rawOf) (c : Cel) (v : Value) (x : Option (List UInt8)) : aPut B.l c x = (aPut raw c (v, x)).map rawOf := by
  rw [h4, show raw.map rawOf = raw.map (fun p => (p.1, (fun r : Raw => r.2) p.2)) from rfl, show (aPut raw c (v, x)).map rawOf = (aPut raw c (v, x)).map (fun p => (p.1, (fun r : Raw => r.2) p.2)) from rfl, aPut_map]
theorem raw_del {B : Bod} {raw : List (Cel × Raw)} (h4 : B.l = raw.map rawOf) (c : Cel) : aDel B.l c = (aDel raw c).map rawOf := by
  rw [h4, show raw.map rawOf = raw.map (fun p => (p.1, (fun r : Raw => r.2) p.2)) from rfl, show (aDel raw c).map rawOf = (aDel raw c).map (fun p => (p.1, (fun r : Raw => r.2) p.2)) from rfl, aDel_map]

theorem zeros_cells (n : Nat) : ((zeros n).map bV) = List.replicate n (.int .u8 0) := by
  unfold zeros
  rw [List.map_replicate]
  rfl

/-- A new block's cells. -/
def Z256 : Array Value := ((zeros 256).map bV).toArray

theorem mk256 (w : World) : (Instr.makeSlice tBytes (.int .i64 256) (.int .i64 256)).run Tryz.prog w = .ok (.slice (some ⟨w.heap.size, 0, none⟩) 256 256) (w.alloc (.cells Z256 tU8)) := by kernel_rfl

theorem zeros_bytes {w : World} {g : Nat} (h : Blk w g tU8 Z256) : Bytes w (.slice (some ⟨g, 0, none⟩) 256 256) (zeros 256) :=
  DataRep.bytes ⟨by unfold zeros; rw [List.length_replicate], g, rfl, h⟩

set_option maxRecDepth 100000 in
set_option maxHeartbeats 1000000 in
/-- Get of what is not there: zeros. -/
theorem body_Get_none {w : World} {b : Nat} {B : Bod} {F : List Nat} (h : BodyRep w b B F) (c : Cel) (hc : okCel c) (hx : aGet B.l c = none) :
    Calls Tryz.prog 60 #[.pointer (some ⟨b, 0, none⟩), celV c] w fun e w' => ∃ v, e = .returned (.tuple #[v, .nilIface]) ∧ Mods [] w w' ∧ Bytes w' v (zeros 256) := by
  obtain ⟨ml, md, raw, h1, h2, h3, h4, h5, h6, rfl⟩ := h
  have hr : aGet raw c = none := by
    have := raw_get h4 c
    rw [hx] at this
    cases hq : aGet raw c with
    | none => rfl
    | some r => rw [hq] at this; cases this
  have hl := fun o => ((h2.alloc o).drew).run_lookup celEnc Tryz.underlying133 (zero_bytes _) hc true
  rw [hr] at hl
  have c0 := h1.cell 0
  simp at c0
  have hlt := h1.lt
  clear h1 h2 h3 h4 h5 h6 hx hr
  obtain ⟨c1, c2⟩ := c
  simp only [celV, if_true] at *
  have hmk := mk256
  go_enter Tryz.func60, Tryz.ntmps60
  go_wp2_with fail
  go_region
  go_wp2_with fail
  go_ret2
  refine ⟨_, rfl, (((Mods.refl _ _).alloc _).alloc _).drew, ?_⟩
  have := (Blk.new (w.alloc (.cells #[.int .i64 c1, .int .i64 c2] tCell)) tU8 Z256).drew
  simp only [World.size_alloc] at this
  exact zeros_bytes this

set_option maxRecDepth 100000 in
set_option maxHeartbeats 1000000 in
/-- Get of what is lost. -/
theorem body_Get_lost {B0 : Nat} {A : Nat → Addr} {L : List Nat} {w : World} (G : Glob B0 A L w) {b : Nat} {B : Bod} {F : List Nat} (h : BodyRep w b B F) (c : Cel) (hc : okCel c) (hx : aGet B.l c = some none) :
    Calls Tryz.prog 60 #[.pointer (some ⟨b, 0, none⟩), celV c] w fun e w' => e = .returned (.tuple #[.slice none 0 0, errV eT A 107]) ∧ Mods [] w w' := by
  obtain ⟨ml, md, raw, h1, h2, h3, h4, h5, h6, rfl⟩ := h
  obtain ⟨r, hr, hr2⟩ : ∃ r, aGet raw c = some r ∧ r.2 = none := by
    have := raw_get h4 c
    rw [hx] at this
    cases hq : aGet raw c with
    | none => rw [hq] at this; cases this
    | some r => rw [hq] at this; exact ⟨r, rfl, (Option.some.inj this).symm⟩
  have hd : r.1 = .slice none 0 0 := by
    have := h5 _ (aGet_mem hr)
    simp only [hr2] at this
    exact this
  have hl := fun o => ((h2.alloc o).drew).run_lookup celEnc Tryz.underlying133 (zero_bytes _) hc true
  rw [hr] at hl
  simp only [rawV, hd] at hl
  rw [errV_pos eT A (c := 107) (by decide)]
  have g1 : w.cell? ⟨5, 0, none⟩ = _ := G.cell 107 (G.core _ (by decide))
  have g2 := G.lt 5 (by decide)
  have c0 := h1.cell 0
  simp at c0
  have hlt := h1.lt
  clear h1 h2 h3 h4 h5 h6 hx hr hr2 hd G
  obtain ⟨c1, c2⟩ := c
  simp only [celV, if_true] at *
  go_enter Tryz.func60, Tryz.ntmps60
  go_wp2_with fail
  go_region
  go_wp2_with fail
  go_region
  go_wp2_with fail
  go_ret2
  exact ⟨rfl, ((Mods.refl _ _).alloc _).drew.drew⟩

set_option maxRecDepth 100000 in
set_option maxHeartbeats 1000000 in
/-- Get of what is there. -/
theorem body_Get_some {w : World} {b : Nat} {B : Bod} {F : List Nat} (h : BodyRep w b B F) (c : Cel) (hc : okCel c) {x : List UInt8} (hx : aGet B.l c = some (some x)) :
    Calls Tryz.prog 60 #[.pointer (some ⟨b, 0, none⟩), celV c] w fun e w' => ∃ v, e = .returned (.tuple #[v, .nilIface]) ∧ Mods [] w w' ∧ Bytes w' v x ∧ x.length = 256 := by
  obtain ⟨ml, md, raw, h1, h2, h3, h4, h5, h6, rfl⟩ := h
  obtain ⟨r, hr, hr2⟩ : ∃ r, aGet raw c = some r ∧ r.2 = some x := by
    have := raw_get h4 c
    rw [hx] at this
    cases hq : aGet raw c with
    | none => rw [hq] at this; cases this
    | some r => rw [hq] at this; exact ⟨r, rfl, (Option.some.inj this).symm⟩
  have hd : DataRep w r.1 (some x) := by
    have := h5 _ (aGet_mem hr)
    simp only [hr2] at this
    exact this
  have hby := hd.bytes
  obtain ⟨h256, g, hg, hblk⟩ := hd
  have hl := fun o => ((h2.alloc o).drew).run_lookup celEnc Tryz.underlying133 (zero_bytes _) hc true
  rw [hr] at hl
  rw [hg] at hby
  simp only [rawV, hg] at hl
  have hcl := fun w' (m : Mods [] w w') => clone_bytes (hby.mods0 m) (by intro e; rw [e] at h256; cases h256) (by omega)
  have c0 := h1.cell 0
  simp at c0
  have hlt := h1.lt
  clear h1 h2 h3 h4 h5 h6 hx hr hr2 hblk hg
  obtain ⟨c1, c2⟩ := c
  simp only [celV, if_true] at *
  go_enter Tryz.func60, Tryz.ntmps60
  go_wp2_with fail
  go_region
  go_wp2_with fail
  refine (hcl _ (((Mods.refl _ _).alloc _).drew)).mono ?_
  rintro e w1 ⟨v', rfl, q1, q2, q3⟩
  clear hcl
  go_wp2_with fail
  go_ret2
  exact ⟨_, rfl, (((Mods.refl _ _).alloc _).drew).then q2, q1, h256⟩
end Go.Proofs.YtaiigmiiidldcaaGreatDoor

namespace Go.Proofs.YtaiigmiiidldcaaGreatDoor
open Go.RowKit Go.Maps
open Go.ChangeMaps (setBlock)

theorem setRow_mods (w : World) (g : Nat) (cs : Array Value) : Mods [g] w (w.setRow g cs) :=
  ⟨rfl, rfl, rfl, by simp [World.setRow], fun k hk hn => by
    have : g ≠ k := fun e => hn (by simp [e])
    simp [World.setRow, Array.getElem?_modify, this]⟩

theorem setRow_blk {w : World} {g : Nat} {t : TypeId} {cur cs : Array Value} (h : Blk w g t cur) : Blk (w.setRow g cs) g t cs := by
  unfold Blk at h ⊢
  simp [World.setRow, Array.getElem?_modify, h]

/-- L with cs laid into it from o on. -/
def spl {α : Type} (L : List α) (o : Nat) (cs : List α) : List α := L.take o ++ (cs ++ L.drop (o + cs.length))

theorem size_u8 : (Tryz.prog.info? tU8).map (·.size) = some 1 := by kernel_rfl

set_option maxRecDepth 100000 in
/-- copy(d, s). -/
theorem run_copy_bytes {w : World} {g o dLen dCap : Nat} {cur : List UInt8} (hb : Blk w g tU8 (cur.map bV).toArray) {v : Value} {src : List UInt8} (hs : Bytes w v src) (hfit : o + dLen ≤ cur.length) :
    ∃ w2, (∀ ty, (Builtin.copy_ #[tBytes, tBytes] ty #[.slice (some ⟨g, o, none⟩) dLen dCap, v]).run Tryz.prog w = .ok (.int .i64 ((src.take dLen).length : Nat)) w2) ∧ Mods [g] w w2 ∧ w2.heap.size = w.heap.size ∧
      Blk w2 g tU8 ((spl cur o (src.take dLen)).map bV).toArray := by
  obtain ⟨A, c, rfl, hc1, h3⟩ := hs
  by_cases h0 : src = []
  · subst h0
    refine ⟨w, fun ty => ?_, Mods.refl _ _, rfl, ?_⟩
    · have := run_copy_none (P := Tryz.prog) w tBytes tBytes ty tU8 (some ⟨g, o, none⟩) A dLen dCap 0 c Tryz.underlying32 size_u8 (by simp)
      simpa [goInt] using this
    · simpa [spl] using hb
  · obtain ⟨ga, oa, rfl, _, hc⟩ := h3 h0
    have hmin : ((src.take dLen).map bV).length = Nat.min src.length dLen := by simp [Nat.min_comm]
    refine ⟨w.setRow g ((spl cur o (src.take dLen)).map bV).toArray, fun ty => ?_, setRow_mods _ _ _, by simp, setRow_blk hb⟩
    have := run_copy_row (P := Tryz.prog) w tBytes tBytes ty tU8 g o dLen dCap ⟨ga, oa, none⟩ src.length c _ tU8 ((src.take dLen).map bV) Tryz.underlying32 size_u8 hb hmin (fun j u hu => by
      rw [Addr.add_lit]
      rw [List.getElem?_map] at hu
      cases hx : (src.take dLen)[j]? with
      | none => simp [hx] at hu
      | some x =>
        simp [hx] at hu
        rw [← hu]
        refine hc j x ?_
        rw [List.getElem?_take] at hx
        split at hx
        · exact hx
        · cases hx) (by simp; omega) (by intro u hu; obtain ⟨x, _, rfl⟩ := List.mem_map.1 hu; rfl)
    rw [this]
    simp only [goInt, List.length_map]
    congr 2
    simp only [spl, List.map_append, List.map_take, List.map_drop, List.length_map, List.append_assoc]

theorem length_zeros (n : Nat) : (zeros n).length = n := by unfold zeros; rw [List.length_replicate]

/-- A block's bytes, 0s behind. -/
def full (l : List UInt8) : List UInt8 := l ++ zeros (256 - l.length)

theorem spl_zeros {l : List UInt8} (h : l.length ≤ 256) : spl (zeros 256) 0 (l.take 256) = full l := by
  unfold spl full zeros
  rw [List.take_of_length_le h, List.take_zero, List.nil_append, Nat.zero_add, List.drop_replicate]

/-- What Set leaves. -/
def Bod.set (B : Bod) (c : Cel) (l : List UInt8) : Bod := ⟨aPut B.l c (some (full l)), aPut B.dirty c 1⟩

set_option maxRecDepth 100000 in
set_option maxHeartbeats 2000000 in
theorem body_Set {w : World} {b : Nat} {B : Bod} {F : List Nat} (h : BodyRep w b B F) (c : Cel) (h1 : 1 ≤ c.1) (h2 : c.1 ≤ 16777215) (h3 : 0 ≤ c.2) (h4 : c.2 < 64) {v : Value} {l : List UInt8} (hv : Bytes w v l) (hl : l.length ≤ 256) :
    Calls Tryz.prog 74 #[.pointer (some ⟨b, 0, none⟩), celV c, v] w fun e w' => e = .returned .nilIface ∧ Mods F w w' ∧ BodyRep w' b (B.set c l) F := by
  have hoc : okCel c := ⟨⟨by omega, by omega⟩, ⟨by omega, by omega⟩⟩
  have hF := h.old
  have hnb := h.noBytes
  obtain ⟨ml, md, raw, b1, b2, b3, b4, b5, b6, rfl⟩ := h
  obtain ⟨c1, c2⟩ := c
  obtain ⟨A, cp, rfl, hcp, hv3⟩ := hv
  have hv' : Bytes w (.slice A l.length cp) l := ⟨A, cp, rfl, hcp, hv3⟩
  have m0 : Mods [] w ((w.alloc (.cells #[.int .i64 c1, .int .i64 c2] tCell)).alloc (.cells Z256 tU8)) := ((Mods.refl _ _).alloc _).alloc _
  have hz := Blk.new (w.alloc (.cells #[.int .i64 c1, .int .i64 c2] tCell)) tU8 Z256
  obtain ⟨w2, hcopy, m2, s2, z2⟩ := run_copy_bytes (dLen := 256) (dCap := 256) (o := 0) (cur := zeros 256) hz (hv'.mods0 m0) (by rw [length_zeros]; exact Nat.le_refl _)
  rw [spl_zeros hl] at z2
  simp only [World.size_alloc] at hcopy m2 s2 z2 hz
  have lt0 := b1.lt
  have lt1 := b2.lt
  have lt2 := b3.lt
  have m02 : Mods [] w w2 := m0.trans m2 (by simp <;> omega)
  have n1 := b2.ne_blk b1
  have n2 := b3.ne_blk b1
  have y1 := b1.mods m02 (by simp)
  have y2 := (((Blk.new w tCell #[.int .i64 c1, .int .i64 c2]).alloc (.cells Z256 tU8)).mods m2 (by simp))
  obtain ⟨w3, hu3, m3, s3, hm3⟩ := (b2.mods m02.drew (by simp)).update celEnc Tryz.underlying133 hoc ((.slice (some ⟨w.heap.size + 1, 0, none⟩) 256 256, some (full l)) : Raw)
  have x1 := y1.drew.mods m3 (by simpa using n1)
  have x2 := y2.drew.mods m3 (by simp <;> omega)
  have x3 := z2.drew.mods m3 (by simp <;> omega)
  have xd := (b3.mods m02.drew (by simp)).mods m3 (by simpa using Ne.symm b6)
  obtain ⟨w4, hu4, m4, s4, hm4⟩ := xd.drew.update celEnc Tryz.underlying134 hoc (1 : Int)
  simp only [celV, rawV, intV] at hu3 hu4
  have HU3 := Lib.hid hu3
  have HU4 := Lib.hid hu4
  have hlen : (l.length : Int) ≤ 256 := by omega
  have c0 := b1.cell 0
  have hmk := mk256
  clear hu3 hu4 hv' hz
  simp only [celV] at *
  go_enter Tryz.func74, Tryz.ntmps74
  go_wp2_with fail
  clear c0 hmk
  have k0 := y1.cell 0
  have k1 := y1.cell 1
  simp at k0 k1
  have d0 := y2.cell 0
  have d1 := y2.cell 1
  simp at d0 d1
  have hu3 := HU3.out
  clear s2 s3 s4
  go_region
  clear hu3 k0 k1 d0 d1
  have k0 := x1.cell 0
  have k1 := x1.cell 1
  simp at k0 k1
  have d0 := x2.cell 0
  have d1 := x2.cell 1
  simp at d0 d1
  have hu4 := HU4.out
  go_wp2_with fail
  go_region
  clear hu4
  go_wp2_with fail
  go_ret
  have mF : Mods [b, ml, md] w w4 := ((m02.drew.of_nil.seq (Within.refl _ _) (m3.mono (by simp))).drew.seq (Within.refl _ _) (m4.mono (by simp)))
  have nb3 : NoBytes w3.drew [md] := NoRow.of_map xd.drew
  refine ⟨rfl, mF, ml, md, aPut raw (c1, c2) (.slice (some ⟨w.heap.size + 1, 0, none⟩) 256 256, some (full l)), x1.drew.mods m4 (by simpa using n2), hm3.drew.mods m4 (by simpa using b6), hm4, ?_, ?_, b6, rfl⟩
  · exact raw_put b4 _ _ _
  · intro p hp
    rcases aPut_mem hp with h' | rfl
    · exact (b5 p h').mods mF hnb
    · refine ⟨?_, w.heap.size + 1, rfl, x3.drew.mods m4 (by simp <;> omega)⟩
      unfold full; rw [List.length_append, length_zeros]; omega

/-- What Lose leaves. -/
def Bod.lose (B : Bod) (c : Cel) : Bod := ⟨aPut B.l c none, aDel B.dirty c⟩

set_option maxRecDepth 100000 in
set_option maxHeartbeats 2000000 in
theorem body_Lose {w : World} {b : Nat} {B : Bod} {F : List Nat} (h : BodyRep w b B F) (c : Cel) (hc : okCel c) (hin : (aGet B.l c).isSome = true) :
    Calls Tryz.prog 24 #[.pointer (some ⟨b, 0, none⟩), celV c] w fun e w' => e = .returned (.bool true) ∧ Mods F w w' ∧ BodyRep w' b (B.lose c) F := by
  have hhas := body_Has (h.mods0 ((Mods.refl _ _).alloc (.cells #[.int .i64 c.1, .int .i64 c.2] tCell))) c hc
  rw [hin] at hhas
  have hF := h.old
  have hnb := h.noBytes
  obtain ⟨ml, md, raw, b1, b2, b3, b4, b5, b6, rfl⟩ := h
  obtain ⟨c1, c2⟩ := c
  have lt0 := b1.lt
  have lt1 := b2.lt
  have lt2 := b3.lt
  have n1 := b2.ne_blk b1
  have n2 := b3.ne_blk b1
  simp only [celV] at *
  go_enter Tryz.func24, Tryz.ntmps24
  go_wp2_with fail
  refine hhas.mono ?_
  rintro e w2 ⟨rfl, m2⟩
  have m02 : Mods [] w w2 := ((Mods.refl _ _).alloc _).then m2
  have y1 := b1.mods m02 (by simp)
  have y2 := (Blk.new w tCell #[.int .i64 c1, .int .i64 c2]).mods m2 (by simp)
  obtain ⟨w3, hu3, m3, s3, hm3⟩ := (b2.mods m02.drew (by simp)).update celEnc Tryz.underlying133 hc ((.slice none 0 0, none) : Raw)
  have x1 := y1.drew.mods m3 (by simpa using n1)
  have x2 := y2.drew.mods m3 (by simp <;> omega)
  have xd := (b3.mods m02.drew (by simp)).mods m3 (by simpa using Ne.symm b6)
  obtain ⟨w4, hd4, m4, s4, hm4⟩ := xd.drew.delete celEnc Tryz.underlying134 hc
  simp only [celV, rawV] at hu3 hd4
  have HU3 := Lib.hid hu3
  have HU4 := Lib.hid hd4
  have k0 := y1.cell 0
  have k1 := y1.cell 1
  simp at k0 k1
  have d0 := y2.cell 0
  have d1 := y2.cell 1
  simp at d0 d1
  clear hu3 hd4 s3 s4 hhas
  go_wp2_with fail
  have hu3 := HU3.out
  go_region
  clear hu3 k0 k1 d0 d1
  have k0 := x1.cell 0
  have k1 := x1.cell 1
  simp at k0 k1
  have d0 := x2.cell 0
  have d1 := x2.cell 1
  simp at d0 d1
  have hu4 := HU4.out
  go_wp2_with fail
  go_region
  clear hu4
  go_wp2_with fail
  go_ret
  have mF : Mods [b, ml, md] w w4 := ((m02.drew.of_nil.seq (Within.refl _ _) (m3.mono (by simp))).drew.seq (Within.refl _ _) (m4.mono (by simp)))
  refine ⟨rfl, mF, ml, md, aPut raw (c1, c2) (.slice none 0 0, none), x1.drew.mods m4 (by simpa using n2), hm3.drew.mods m4 (by simpa using b6), hm4, ?_, ?_, b6, rfl⟩
  · exact raw_put b4 _ _ _
  · intro p hp
    rcases aPut_mem hp with h' | rfl
    · exact (b5 p h').mods mF hnb
    · rfl

/-- What Del leaves. -/
def Bod.del (B : Bod) (c : Cel) : Bod := ⟨aDel B.l c, aPut B.dirty c 1⟩

set_option maxRecDepth 100000 in
set_option maxHeartbeats 2000000 in
theorem body_Del {w : World} {b : Nat} {B : Bod} {F : List Nat} (h : BodyRep w b B F) (c : Cel) (hc : okCel c) (hin : (aGet B.l c).isSome = true) :
    Calls Tryz.prog 77 #[.pointer (some ⟨b, 0, none⟩), celV c] w fun e w' => e = .returned (.bool true) ∧ Mods F w w' ∧ BodyRep w' b (B.del c) F := by
  have hhas := body_Has (h.mods0 ((Mods.refl _ _).alloc (.cells #[.int .i64 c.1, .int .i64 c.2] tCell))) c hc
  rw [hin] at hhas
  have hF := h.old
  have hnb := h.noBytes
  obtain ⟨ml, md, raw, b1, b2, b3, b4, b5, b6, rfl⟩ := h
  obtain ⟨c1, c2⟩ := c
  have lt0 := b1.lt
  have lt1 := b2.lt
  have lt2 := b3.lt
  have n1 := b2.ne_blk b1
  have n2 := b3.ne_blk b1
  simp only [celV] at *
  go_enter Tryz.func77, Tryz.ntmps77
  go_wp2_with fail
  refine hhas.mono ?_
  rintro e w2 ⟨rfl, m2⟩
  have m02 : Mods [] w w2 := ((Mods.refl _ _).alloc _).then m2
  have y1 := b1.mods m02 (by simp)
  have y2 := (Blk.new w tCell #[.int .i64 c1, .int .i64 c2]).mods m2 (by simp)
  obtain ⟨w3, hu3, m3, s3, hm3⟩ := (b2.mods m02.drew (by simp)).delete celEnc Tryz.underlying133 hc
  have x1 := y1.drew.mods m3 (by simpa using n1)
  have x2 := y2.drew.mods m3 (by simp <;> omega)
  have xd := (b3.mods m02.drew (by simp)).mods m3 (by simpa using Ne.symm b6)
  obtain ⟨w4, hd4, m4, s4, hm4⟩ := xd.drew.update celEnc Tryz.underlying134 hc (1 : Int)
  simp only [celV, intV] at hu3 hd4
  have HU3 := Lib.hid hu3
  have HU4 := Lib.hid hd4
  have k0 := y1.cell 0
  have k1 := y1.cell 1
  simp at k0 k1
  have d0 := y2.cell 0
  have d1 := y2.cell 1
  simp at d0 d1
  clear hu3 hd4 s3 s4 hhas
  go_wp2_with fail
  have hu3 := HU3.out
  go_region
  clear hu3 k0 k1 d0 d1
  have k0 := x1.cell 0
  have k1 := x1.cell 1
  simp at k0 k1
  have d0 := x2.cell 0
  have d1 := x2.cell 1
  simp at d0 d1
  have hu4 := HU4.out
  go_wp2_with fail
  go_region
  clear hu4
  go_wp2_with fail
  go_ret
  have mF : Mods [b, ml, md] w w4 := ((m02.drew.of_nil.seq (Within.refl _ _) (m3.mono (by simp))).drew.seq (Within.refl _ _) (m4.mono (by simp)))
  refine ⟨rfl, mF, ml, md, aDel raw (c1, c2), x1.drew.mods m4 (by simpa using n2), hm3.drew.mods m4 (by simpa using b6), hm4, ?_, ?_, b6, rfl⟩
  · exact raw_del b4 _
  · intro p hp
    exact (b5 p (aDel_mem hp)).mods mF hnb
end Go.Proofs.YtaiigmiiidldcaaGreatDoor

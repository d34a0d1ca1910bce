/- Package node: a table in memory, and its calls. -/
import Derived.Deep.QuietTactic
import Derived.BigQuiet
import Derived.Test.YtaiigmiiidldcaaGreatDoorQ02
set_option linter.unusedSimpArgs false
set_option linter.unusedVariables false
namespace Go.Proofs.YtaiigmiiidldcaaGreatDoor
open Go.RowKit Go.Maps
open Go.ChangeMaps (setBlock)

abbrev tNd : TypeId := 106
abbrev tTable : TypeId := 218
abbrev tMapNd : TypeId := 216

theorem intEnc : KeyEnc Tryz.prog 3 intV okInt where
  keyed := Maps.int_keyed Tryz.underlying3
  inj a b h := by simpa [intV] using h
  of a h := ⟨_, Maps.keyOf_int_mk Tryz.underlying3 (by have := h.1; have := h.2; exact WalkArith.wf_i64 (by omega))⟩

theorem zero_Nd (w : World) : (zeroValue tNd).run Tryz.prog w = .ok Nd.zero.val w := by kernel_rfl

/-- The nodes by their numbers, and the greatest number that ever was. -/
structure Tbl where
  l : List (Int × Nd)
  last : Int

/-- Block t is a table. -/
def TableRep (w : World) (t : Nat) (T : Tbl) (F : List Nat) : Prop :=
  (Blk w t tTable #[.map none, .int .i64 T.last] ∧ T.l = [] ∧ F = [t]) ∨
  ∃ m, Blk w t tTable #[.map (some m), .int .i64 T.last] ∧ MapRep w m intV Nd.val okInt T.l ∧ F = [t, m]

section
variable {w w' : World} {t : Nat} {T : Tbl} {F : List Nat}
theorem TableRep.mods {G : List Nat} (h : TableRep w t T F) (m : Mods G w w') (hd : ∀ g ∈ F, g ∉ G) : TableRep w' t T F := by
  rcases h with ⟨h, h0, rfl⟩ | ⟨mm, h, hm, rfl⟩
  · exact .inl ⟨h.mods m (hd t (by simp)), h0, rfl⟩
  · exact .inr ⟨mm, h.mods m (hd t (by simp)), hm.mods m (hd mm (by simp)), rfl⟩
theorem TableRep.mods0 (h : TableRep w t T F) (m : Mods [] w w') : TableRep w' t T F := h.mods m (by simp)
end

/-- What Get gives. -/
def Tbl.get (T : Tbl) (i : Int) : Nd × Bool := match aGet T.l i with
  | some n => (n, true)
  | none => (Nd.zero, false)

theorem map_lookup_nd {w : World} {t : Nat} {T : Tbl} {F : List Nat} (h : TableRep w t T F) {i : Int} (hi : okInt i) :
    ∃ mv, Blk w t tTable #[mv, .int .i64 T.last] ∧ (∀ w', Mods [] w w' → (Instr.lookup tMapNd mv (.int .i64 i) true).run Tryz.prog w' = .ok (.tuple #[(T.get i).1.val, .bool (T.get i).2]) w') ∧
      (∀ w', Mods [] w w' → ∀ ty, (Builtin.len_ #[tMapNd] ty #[mv]).run Tryz.prog w' = .ok (.int .i64 T.l.length) w') := by
  rcases h with ⟨h, h0, -⟩ | ⟨mm, h, hm, -⟩
  · refine ⟨_, h, fun w' m => ?_, fun w' m ty => ?_⟩
    · have e := run_lookup_nil (w := w') intEnc Tryz.underlying216 (zero_Nd w') hi true
      simpa [Tbl.get, h0, aGet, intV] using e
    · rw [h0]; simp [Builtin.len_, run_underlying Tryz.underlying216, Result.andThen, goInt]
  · refine ⟨_, h, fun w' m => ?_, fun w' m ty => ?_⟩
    · have e := (hm.mods m (by simp)).run_lookup intEnc Tryz.underlying216 (zero_Nd w') hi true
      rw [show (Value.int .i64 i) = intV i from rfl, e]
      unfold Tbl.get
      cases aGet T.l i <;> rfl
    · exact (hm.mods m (by simp)).run_len Tryz.underlying216

set_option maxHeartbeats 400000 in
theorem table_Get {w : World} {t : Nat} {T : Tbl} {F : List Nat} (h : TableRep w t T F) (i : Int) (hi : okInt i) :
    Calls Tryz.prog 102 #[.pointer (some ⟨t, 0, none⟩), .int .i64 i] w fun e w' => e = .returned (.tuple #[(T.get i).1.val, .bool (T.get i).2]) ∧ Mods [] w w' := by
  obtain ⟨mv, hb, hl, -⟩ := map_lookup_nd h hi
  have hl1 := fun o => hl (w.alloc o) ((Mods.refl _ _).alloc o)
  have c0 := hb.cell 0
  have hlt := hb.lt
  simp at c0
  generalize T.get i = r at *
  obtain ⟨n, b⟩ := r
  obtain ⟨n1, n2, n3, n4, n5, n6⟩ := n
  simp only [Nd.val] at *
  clear hl hb h hi
  go_enter Tryz.func102, Tryz.ntmps102
  go_wp2_with fail
  refine bodyPost_ret (v := .tuple #[.agg #[.int .i64 n1, .int .i64 n2, .int .i64 n3, .int .i64 n4, .string n5, .int .i64 n6], .bool b]) (by simp [results, Tryz.results102, go_sem]) rfl ⟨rfl, ?_⟩
  exact ((Mods.refl _ _).alloc _).alloc _

set_option maxHeartbeats 400000 in
theorem table_Len {w : World} {t : Nat} {T : Tbl} {F : List Nat} (h : TableRep w t T F) :
    Calls Tryz.prog 66 #[.pointer (some ⟨t, 0, none⟩)] w fun e w' => e = .returned (.int .i64 T.l.length) ∧ w = w' := by
  obtain ⟨mv, hb, -, hl⟩ := map_lookup_nd h (i := 0) (by constructor <;> decide)
  have hl1 := hl w (Mods.refl _ _)
  have c0 := hb.cell 0
  simp at c0
  clear hl hb h
  go_enter Tryz.func66, Tryz.ntmps66
  go_wp2_with fail
  go_ret
  exact ⟨rfl, rfl⟩

/-- What Put leaves. -/
def Tbl.put (T : Tbl) (n : Nd) : Tbl := ⟨aPut T.l n.id n, if T.last < n.id then n.id else T.last⟩

theorem NdOk.okid {n : Nd} (h : NdOk n) : okInt n.id := by constructor <;> have := h.id1 <;> have := h.id2 <;> omega

set_option maxRecDepth 100000 in
set_option maxHeartbeats 1000000 in
/-- Put, where there is room, into a table that has a map. -/
theorem table_Put_some {w : World} {t m : Nat} {T : Tbl} (hb : Blk w t tTable #[.map (some m), .int .i64 T.last]) (hm : MapRep w m intV Nd.val okInt T.l) {n : Nd} (hn : NdOk n) (hroom : (T.get n.id).2 = true ∨ T.l.length < 512) (h0 : T.l ≠ []) :
    Calls Tryz.prog 78 #[.pointer (some ⟨t, 0, none⟩), n.val] w fun e w' => e = .returned .nilIface ∧ Mods [t, m] w w' ∧ TableRep w' t (T.put n) [t, m] := by
  have hget : ∃ r b, T.get n.id = (r, b) := ⟨_, _, rfl⟩
  obtain ⟨r, b, hr⟩ := hget
  have hF : TableRep w t T [t, m] := .inr ⟨m, hb, hm, rfl⟩
  obtain ⟨mv, hb', hl, hlen⟩ := map_lookup_nd hF hn.okid
  have hv := node_Valid hn
  have hid1 := hn.id1
  have hid2 := hn.id2
  obtain rfl : mv = .map (some m) := by unfold Blk at hb hb'; rw [hb] at hb'; cases hb'; rfl
  have hlt := hb.lt
  have hne : t ≠ m := hm.ne_blk hb
  obtain ⟨i, k, l, s, tg, p⟩ := n
  obtain ⟨r1, r2, r3, r4, r5, r6⟩ := r
  simp only [Nd.val, hr] at *
  go_enter Tryz.func78, Tryz.ntmps78
  go_wp2_with fail
  refine (hv _).mono ?_
  rintro e w1 ⟨rfl, m1⟩
  have mw : Mods [] w w1 := ((Mods.refl [] w).alloc _).then m1
  have x1 := hb.mods mw (by simp)
  have x2 := (Blk.new w tNd #[.int .i64 i, .int .i64 k, .int .i64 l, .int .i64 s, .string tg, .int .i64 p]).mods m1 (by simp)
  have c0 := x1.cell 0
  have c1 := x1.cell 1
  have d0 := x2.cell 0
  have d1 := x2.cell 1
  have d2 := x2.cell 2
  have d3 := x2.cell 3
  have d4 := x2.cell 4
  have d5 := x2.cell 5
  have fr := x1.frozen
  simp at c0 c1 d0 d1 d2 d3 d4 d5
  have lt1 := x1.lt
  have lt2 := x2.lt
  have hl1 := hl w1.drew mw.drew
  have hl2 := fun o => hl (w1.alloc o).drew (mw.alloc o).drew
  have hln := fun o ty => hlen (w1.alloc o).drew (mw.alloc o).drew ty
  have hz : 0 < T.l.length := by
    cases hq : T.l with
    | nil => exact absurd hq h0
    | cons a b => simp
  obtain ⟨w3, hu, m3, s3, hm3⟩ := (hm.mods (w' := (w1.alloc (.cells #[.int .i64 r1, .int .i64 r2, .int .i64 r3, .int .i64 r4, .string r5, .int .i64 r6] tNd)).drew.drew) (mw.alloc _).drew.drew (by simp)).update intEnc Tryz.underlying216 (k := i) (by constructor <;> omega) (⟨i, k, l, s, tg, p⟩ : Nd)
  simp only [intV, Nd.val] at hu
  have HU := Lib.hid hu
  have HS := Lib.hid s3
  clear hu s3
  clear hl hlen hb' hF hv x1 x2 h0
  have hroom2 : b = false → T.l.length < 512 := by intro h; subst h; simpa using hroom
  clear hroom
  cases b
  · have hroom3 := hroom2 rfl
    clear hroom2
    go_wp2_with fail
    go_region
    go_wp2_with fail
    have hu := HU.out
    go_region
    clear hu
    have y1 := ((hb.mods mw (by simp)).alloc (.cells #[.int .i64 r1, .int .i64 r2, .int .i64 r3, .int .i64 r4, .string r5, .int .i64 r6] tNd)).drew.drew.mods m3 (by simpa using hne)
    have y2 := ((((Blk.new w tNd #[.int .i64 i, .int .i64 k, .int .i64 l, .int .i64 s, .string tg, .int .i64 p]).mods m1 (by simp)).alloc (.cells #[.int .i64 r1, .int .i64 r2, .int .i64 r3, .int .i64 r4, .string r5, .int .i64 r6] tNd)).drew.drew)
    have hne2 := MapRep.ne_blk (hm.mods ((mw.alloc (.cells #[.int .i64 r1, .int .i64 r2, .int .i64 r3, .int .i64 r4, .string r5, .int .i64 r6] tNd)).drew.drew) (by simp)) y2
    have y2 := y2.mods m3 (by simpa using hne2)
    have c0 := y1.cell 0
    have c1 := y1.cell 1
    simp at c0 c1
    have d0 := y2.cell 0
    simp at d0
    have fr := y1.frozen
    clear y2
    go_wp2_with fail
    go_region
    all_goals go_wp2_with fail
    all_goals go_ret
    all_goals refine ⟨rfl, ((((mw.alloc _).drew.drew.of_nil (G := [t, m])).seq (Within.refl _ _) (m3.mono (by simp))).drew.setCell (by simp) _), .inr ⟨m, ?_, hm3.drew.setCell hne _, rfl⟩⟩
    all_goals
      show Blk _ t tTable #[.map (some m), .int .i64 (if T.last < i then i else T.last)]
      split
      · have hx := (y1.set_ 1 (.int .i64 i)).drew
        first
          | exact hx
          | (exfalso; omega)
      · have hx := (y1.set_ 1 (.int .i64 T.last)).drew
        first
          | exact hx
          | (obtain rfl : i = T.last := by omega
             exact hx)
  · clear hroom2
    go_wp2_with fail
    go_region
    go_wp2_with fail
    have hu := HU.out
    go_region
    clear hu
    have y1 := ((hb.mods mw (by simp)).alloc (.cells #[.int .i64 r1, .int .i64 r2, .int .i64 r3, .int .i64 r4, .string r5, .int .i64 r6] tNd)).drew.drew.mods m3 (by simpa using hne)
    have y2 := ((((Blk.new w tNd #[.int .i64 i, .int .i64 k, .int .i64 l, .int .i64 s, .string tg, .int .i64 p]).mods m1 (by simp)).alloc (.cells #[.int .i64 r1, .int .i64 r2, .int .i64 r3, .int .i64 r4, .string r5, .int .i64 r6] tNd)).drew.drew)
    have hne2 := MapRep.ne_blk (hm.mods ((mw.alloc (.cells #[.int .i64 r1, .int .i64 r2, .int .i64 r3, .int .i64 r4, .string r5, .int .i64 r6] tNd)).drew.drew) (by simp)) y2
    have y2 := y2.mods m3 (by simpa using hne2)
    have c0 := y1.cell 0
    have c1 := y1.cell 1
    simp at c0 c1
    have d0 := y2.cell 0
    simp at d0
    have fr := y1.frozen
    clear y2
    go_wp2_with fail
    go_region
    all_goals go_wp2_with fail
    all_goals go_ret
    all_goals refine ⟨rfl, ((((mw.alloc _).drew.drew.of_nil (G := [t, m])).seq (Within.refl _ _) (m3.mono (by simp))).drew.setCell (by simp) _), .inr ⟨m, ?_, hm3.drew.setCell hne _, rfl⟩⟩
    all_goals
      show Blk _ t tTable #[.map (some m), .int .i64 (if T.last < i then i else T.last)]
      split
      · have hx := (y1.set_ 1 (.int .i64 i)).drew
        first
          | exact hx
          | (exfalso; omega)
      · have hx := (y1.set_ 1 (.int .i64 T.last)).drew
        first
          | exact hx
          | (obtain rfl : i = T.last := by omega
             exact hx)

set_option maxRecDepth 100000 in
set_option maxHeartbeats 1000000 in
/-- Put into a table that has no map. -/
theorem table_Put_nil {w : World} {t : Nat} {last : Int} (hb : Blk w t tTable #[.map none, .int .i64 last]) {n : Nd} (hn : NdOk n) :
    Calls Tryz.prog 78 #[.pointer (some ⟨t, 0, none⟩), n.val] w fun e w' => e = .returned .nilIface ∧ Mods [t] w w' ∧ ∃ m, TableRep w' t (Tbl.put ⟨[], last⟩ n) [t, m] ∧ w.heap.size ≤ m := by
  have hv := node_Valid hn
  have hid1 := hn.id1
  have hid2 := hn.id2
  have hlt := hb.lt
  obtain ⟨i, k, l, s, tg, p⟩ := n
  simp only [Nd.val] at *
  go_enter Tryz.func78, Tryz.ntmps78
  go_wp2_with fail
  refine (hv _).mono ?_
  rintro e w1 ⟨rfl, m1⟩
  have mw : Mods [] w w1 := ((Mods.refl [] w).alloc _).then m1
  have x1 := hb.mods mw (by simp)
  have x2 := (Blk.new w tNd #[.int .i64 i, .int .i64 k, .int .i64 l, .int .i64 s, .string tg, .int .i64 p]).mods m1 (by simp)
  have c0 := x1.cell 0
  have c1 := x1.cell 1
  simp at c0 c1
  have d0 := x2.cell 0
  have d1 := x2.cell 1
  have d2 := x2.cell 2
  have d3 := x2.cell 3
  have d4 := x2.cell 4
  have d5 := x2.cell 5
  simp at d0 d1 d2 d3 d4 d5
  have fr := x1.frozen
  have lt1 := x1.lt
  have lt2 := x2.lt
  have hl1 : ∀ w, (Instr.lookup tMapNd (.map none) (.int .i64 i) true).run Tryz.prog w = .ok (.tuple #[.agg #[.int .i64 0, .int .i64 0, .int .i64 0, .int .i64 0, .string ByteArray.empty, .int .i64 0], .bool false]) w := fun w => by
    have e := run_lookup_nil (w := w) intEnc Tryz.underlying216 (zero_Nd w) (k := i) (by constructor <;> omega) true
    simpa [intV, Nd.val, Nd.zero] using e
  have hmm := @run_makeMap Tryz.prog
  clear hv
  go_wp2_with fail
  go_region
  go_wp2_with fail
  have q0 : Mods [t] w (((w1.setCell ⟨t, 0, none⟩ (.map (some (w1.heap.size + 1)))).alloc (.cells #[.int .i64 0, .int .i64 0, .int .i64 0, .int .i64 0, .string ByteArray.empty, .int .i64 0] tNd)).alloc (.map #[] 0)).drew :=
    (((mw.of_nil.setCell (by simp) _).alloc _).alloc _).drew
  have y1 := (((x1.set_ 0 (.map (some (w1.heap.size + 1)))).alloc (.cells #[.int .i64 0, .int .i64 0, .int .i64 0, .int .i64 0, .string ByteArray.empty, .int .i64 0] tNd)).alloc (.map #[] 0)).drew
  have y2 := (((x2.far (p := ⟨t, 0, none⟩) (by simp; omega) (.map (some (w1.heap.size + 1)))).alloc (.cells #[.int .i64 0, .int .i64 0, .int .i64 0, .int .i64 0, .string ByteArray.empty, .int .i64 0] tNd)).alloc (.map #[] 0)).drew
  have ym : MapRep (((w1.setCell ⟨t, 0, none⟩ (.map (some (w1.heap.size + 1)))).alloc (.cells #[.int .i64 0, .int .i64 0, .int .i64 0, .int .i64 0, .string ByteArray.empty, .int .i64 0] tNd)).alloc (.map #[] 0)).drew (w1.heap.size + 1) intV Nd.val okInt [] := by
    have := (MapRep.new ((w1.setCell ⟨t, 0, none⟩ (.map (some (w1.heap.size + 1)))).alloc (.cells #[.int .i64 0, .int .i64 0, .int .i64 0, .int .i64 0, .string ByteArray.empty, .int .i64 0] tNd)) intV Nd.val okInt).drew
    simpa using this
  have hmge : w.heap.size ≤ w1.heap.size + 1 := by have := mw.size; omega
  generalize (((w1.setCell ⟨t, 0, none⟩ (.map (some (w1.heap.size + 1)))).alloc (.cells #[.int .i64 0, .int .i64 0, .int .i64 0, .int .i64 0, .string ByteArray.empty, .int .i64 0] tNd)).alloc (.map #[] 0)).drew = w2 at q0 y1 y2 ym ⊢
  have hnt : t ≠ w1.heap.size + 1 := by omega
  have hnb := ym.ne_blk y2
  generalize w1.heap.size + 1 = m at *
  clear c0 c1 d0 d1 d2 d3 d4 d5 fr
  obtain ⟨w3, hu, m3, s3, hm3⟩ := ym.drew.update intEnc Tryz.underlying216 (k := i) (by constructor <;> omega) (⟨i, k, l, s, tg, p⟩ : Nd)
  simp only [intV, Nd.val] at hu
  have z1 := y1.drew.mods m3 (by simpa using hnt)
  have z2 := y2.drew.mods m3 (by simpa using hnb)
  simp only [List.setIfInBounds_toArray, List.set_cons_zero] at y1 z1
  have c0 := y1.cell 0
  have c1 := y1.cell 1
  simp at c0 c1
  have d0 := y2.cell 0
  have d1 := y2.cell 1
  have d2 := y2.cell 2
  have d3 := y2.cell 3
  have d4 := y2.cell 4
  have d5 := y2.cell 5
  simp at d0 d1 d2 d3 d4 d5
  have fr := y1.frozen
  clear s3
  go_region
  clear hu c0 c1 d0 d1 d2 d3 d4 d5 fr
  have c0 := z1.cell 0
  have c1 := z1.cell 1
  simp at c0 c1
  have d0 := z2.cell 0
  simp at d0
  have fr := z1.frozen
  go_wp2_with fail
  go_region
  all_goals go_wp2_with fail
  all_goals go_ret
  all_goals refine ⟨rfl, (((q0.drew).trans m3 (by simpa using Or.inr hmge)).drew.setCell (by simp) _), m, .inr ⟨m, ?_, hm3.drew.setCell hnt _, rfl⟩, hmge⟩
  all_goals
    show Blk _ t tTable #[.map (some m), .int .i64 (if last < i then i else last)]
    split
    · have hx := (z1.set_ 1 (.int .i64 i)).drew
      first
        | exact hx
        | (exfalso; omega)
    · have hx := (z1.set_ 1 (.int .i64 last)).drew
      first
        | exact hx
        | (obtain rfl : i = last := by omega
           exact hx)
end Go.Proofs.YtaiigmiiidldcaaGreatDoor

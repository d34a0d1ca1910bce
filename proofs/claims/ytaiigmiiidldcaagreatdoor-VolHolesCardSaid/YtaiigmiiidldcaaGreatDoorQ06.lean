/- Package dir, and what is open (package open): objects of one map; Names: what may be one; package name's calls; a directory's Add and Del; Package open: what is open, in memory, and its calls; Package quota, and package span's numbers. -/
import Derived.Test.YtaiigmiiidldcaaGreatDoorQ04
import Derived.Test.YtaiigmiiidldcaaGreatDoorQ05
set_option linter.unusedSimpArgs false
set_option linter.unusedVariables false
namespace Go.Proofs.YtaiigmiiidldcaaGreatDoor
open Go.RowKit Go.Maps
open Go.ChangeMaps (setBlock)

abbrev tEnt : TypeId := 74
abbrev tDir : TypeId := 254
abbrev tMapEnt : TypeId := 252

theorem strEnc : KeyEnc Tryz.prog 9 strV okStr where
  keyed := Maps.string_keyed Tryz.underlying9
  inj a b h := by simpa [strV] using h
  of a h := ⟨_, WideMaps.keyOf_string_mk Tryz.underlying9 (by unfold okStr at h; unfold maxLen; omega)⟩

theorem zero_Ent (w : World) : (zeroValue tEnt).run Tryz.prog w = .ok Ent.zero.val w := by kernel_rfl

/-- Block d is a directory. -/
def DirRep (w : World) (d : Nat) (D : List (ByteArray × Ent)) (F : List Nat) : Prop :=
  (Blk w d tDir #[.map none] ∧ D = [] ∧ F = [d]) ∨
  ∃ m, Blk w d tDir #[.map (some m)] ∧ MapRep w m strV Ent.val okStr D ∧ F = [d, m]

def dGet (D : List (ByteArray × Ent)) (s : ByteArray) : Ent × Bool := match aGet D s with
  | some e => (e, true)
  | none => (Ent.zero, false)

section
variable {w w' : World} {d : Nat} {D : List (ByteArray × Ent)} {F : List Nat}
theorem DirRep.mods {G : List Nat} (h : DirRep w d D F) (m : Mods G w w') (hd : ∀ g ∈ F, g ∉ G) : DirRep w' d D F := by
  rcases h with ⟨h, h0, rfl⟩ | ⟨mm, h, hm, rfl⟩
  · exact .inl ⟨h.mods m (hd d (by simp)), h0, rfl⟩
  · exact .inr ⟨mm, h.mods m (hd d (by simp)), hm.mods m (hd mm (by simp)), rfl⟩
theorem DirRep.mods0 (h : DirRep w d D F) (m : Mods [] w w') : DirRep w' d D F := h.mods m (by simp)
theorem DirRep.new (w : World) : DirRep (w.alloc (.cells #[.map none] tDir)) w.heap.size [] [w.heap.size] := .inl ⟨Blk.new w _ _, rfl, rfl⟩
end

theorem map_lookup_ent {w : World} {d : Nat} {D : List (ByteArray × Ent)} {F : List Nat} (h : DirRep w d D F) {s : ByteArray} (hs : okStr s) :
    ∃ mv, Blk w d tDir #[mv] ∧ (∀ w', Mods [] w w' → (Instr.lookup tMapEnt mv (.string s) true).run Tryz.prog w' = .ok (.tuple #[(dGet D s).1.val, .bool (dGet D s).2]) w') ∧
      (∀ w', Mods [] w w' → ∀ ty, (Builtin.len_ #[tMapEnt] ty #[mv]).run Tryz.prog w' = .ok (.int .i64 D.length) w') := by
  rcases h with ⟨h, h0, -⟩ | ⟨mm, h, hm, -⟩
  · refine ⟨_, h, fun w' m => ?_, fun w' m ty => ?_⟩
    · have e := run_lookup_nil (w := w') strEnc Tryz.underlying252 (zero_Ent w') hs true
      simpa [dGet, h0, aGet, strV] using e
    · rw [h0]; simp [Builtin.len_, run_underlying Tryz.underlying252, Result.andThen, goInt]
  · refine ⟨_, h, fun w' m => ?_, fun w' m ty => ?_⟩
    · have e := (hm.mods m (by simp)).run_lookup strEnc Tryz.underlying252 (zero_Ent w') hs true
      rw [show (Value.string s) = strV s from rfl, e]
      unfold dGet
      cases aGet D s <;> rfl
    · exact (hm.mods m (by simp)).run_len Tryz.underlying252

set_option maxHeartbeats 400000 in
theorem dir_Get {w : World} {d : Nat} {D : List (ByteArray × Ent)} {F : List Nat} (h : DirRep w d D F) (s : ByteArray) (hs : okStr s) :
    Calls Tryz.prog 261 #[.pointer (some ⟨d, 0, none⟩), .string s] w fun e w' => e = .returned (.tuple #[(dGet D s).1.val, .bool (dGet D s).2]) ∧ Mods [] w w' := by
  obtain ⟨mv, hb, hl, -⟩ := map_lookup_ent h hs
  have hl1 := fun o => hl (w.alloc o) ((Mods.refl _ _).alloc o)
  have c0 := hb.cell 0
  simp at c0
  have hlt := hb.lt
  generalize dGet D s = r at *
  obtain ⟨n, b⟩ := r
  obtain ⟨n1, n2, n3⟩ := n
  simp only [Ent.val] at *
  clear hl hb h hs
  go_enter Tryz.func261, Tryz.ntmps261
  go_wp2_with fail
  refine bodyPost_ret (v := .tuple #[.agg #[.string n1, .int .i64 n2, .int .i64 n3], .bool b]) (by simp [results, Tryz.results261, go_sem]) rfl ⟨rfl, ?_⟩
  exact ((Mods.refl _ _).alloc _).alloc _

set_option maxHeartbeats 400000 in
theorem dir_Len {w : World} {d : Nat} {D : List (ByteArray × Ent)} {F : List Nat} (h : DirRep w d D F) :
    Calls Tryz.prog 140 #[.pointer (some ⟨d, 0, none⟩)] w fun e w' => e = .returned (.int .i64 D.length) ∧ w = w' := by
  obtain ⟨mv, hb, -, hl⟩ := map_lookup_ent h (s := ByteArray.empty) (by unfold okStr; decide)
  have hl1 := hl w (Mods.refl _ _)
  have c0 := hb.cell 0
  simp at c0
  clear hl hb h
  go_enter Tryz.func140, Tryz.ntmps140
  go_wp2_with fail
  go_ret
  exact ⟨rfl, rfl⟩

set_option maxHeartbeats 400000 in
theorem dir_Clone {w : World} {d : Nat} {D : List (ByteArray × Ent)} {F : List Nat} (h : DirRep w d D F) :
    Calls Tryz.prog 237 #[.pointer (some ⟨d, 0, none⟩)] w fun e w' => ∃ d' F', e = .returned (.pointer (some ⟨d', 0, none⟩)) ∧ Mods [] w w' ∧ DirRep w' d' D F' ∧ (∀ g ∈ F', w.heap.size ≤ g) ∧ F'.Nodup ∧ d' ∈ F' := by
  rcases h with ⟨hb, rfl, rfl⟩ | ⟨m, hb, hm, rfl⟩
  · have c0 := hb.cell 0
    simp at c0
    clear hb
    go_enter Tryz.func237, Tryz.ntmps237
    go_wp2_with (go_at_call 287; refine (clone_ent_nil _).mono ?_; rintro e w' ⟨rfl, rfl⟩)
    go_ret
    exact ⟨w.heap.size, [w.heap.size], rfl, (Mods.refl _ _).alloc _, DirRep.new w, by simp, by simp, by simp⟩
  · obtain ⟨es, clock, hb', hm'⟩ := hm.cloned
    have hcl := clone_ent m es clock w hb'
    have c0 := hb.cell 0
    simp at c0
    have hlt := hb.lt
    clear hb hb' hm
    go_enter Tryz.func237, Tryz.ntmps237
    go_wp2_with (go_at_call 287; refine hcl.mono ?_; rintro e w' ⟨rfl, rfl⟩)
    go_ret
    refine ⟨w.heap.size + 1, [w.heap.size + 1, w.heap.size], by simp, ((Mods.refl _ _).alloc _).alloc _, .inr ⟨w.heap.size, ?_, hm'.alloc _, rfl⟩, by simp, by simp, by simp⟩
    have := Blk.new (w.alloc (.map es clock)) tDir #[.map (some w.heap.size)]
    simpa using this
end Go.Proofs.YtaiigmiiidldcaaGreatDoor

namespace Go.Proofs.YtaiigmiiidldcaaGreatDoor
open Go.RowKit Go.Maps
open Go.ChangeMaps (setBlock)

theorem indexByte_none {l : List UInt8} {c : UInt8} (h : c ∉ l) : Lib.indexByte l c = -1 := by
  induction l with
  | nil => rfl
  | cons b l ih =>
    have h1 : ¬ (b == c) = true := by intro e; exact h (by rw [beq_iff_eq.1 e]; simp)
    have h2 := ih (fun hm => h (List.mem_cons_of_mem _ hm))
    unfold Lib.indexByte
    rw [if_neg h1, h2]
    rfl

theorem indexByte_some {l : List UInt8} {c : UInt8} (h : c ∈ l) : 0 ≤ Lib.indexByte l c := by
  induction l with
  | nil => cases h
  | cons b l ih =>
    unfold Lib.indexByte
    by_cases h1 : (b == c) = true
    · rw [if_pos h1]; decide
    · rw [if_neg h1]
      have hm : c ∈ l := by
        rcases List.mem_cons.1 h with rfl | h2
        · simp at h1
        · exact h2
      have := ih hm
      have h3 : ¬ (Lib.indexByte l c == -1) = true := by intro e; have := beq_iff_eq.1 e; omega
      rw [if_neg h3]
      omega

/-- What may be a name. -/
structure NameOk (s : ByteArray) : Prop where
  ne : s ≠ ByteArray.empty
  len : s.size ≤ 24
  slash : (47 : UInt8) ∉ s.data.toList
  nul : (0 : UInt8) ∉ s.data.toList
  dot : s ≠ ⟨#[46]⟩
  dots : s ≠ ⟨#[46, 46]⟩

theorem NameOk.str {s : ByteArray} (h : NameOk s) : okStr s := by have := h.len; unfold okStr; omega

theorem toList_ne {s t : ByteArray} (h : s ≠ t) : s.toList ≠ t.toList := by
  rw [ByteArray.toList_eq, ByteArray.toList_eq]
  intro e
  exact h (ByteArray.ext (by rw [← Array.toList_inj]; exact e))

theorem toList_mk (l : List UInt8) : (⟨⟨l⟩⟩ : ByteArray).toList = l := by rw [ByteArray.toList_eq]

theorem bne_of_ne {s t : ByteArray} (h : s ≠ t) : (s.toList == t.toList) = false := by
  rw [beq_eq_false_iff_ne]; exact toList_ne h

theorem isEmpty_of_ne {t : ByteArray} (h5 : t ≠ ByteArray.empty) : t.toList.isEmpty = false := by
  rw [ByteArray.toList_eq]
  cases h : t.data.toList with
  | nil => exact absurd (by apply ByteArray.ext; simpa using h) h5
  | cons a b => rfl

theorem contains_no (s : ByteArray) (c : UInt8) (h : c ∉ s.data.toList) (w : World) :
    Calls Tryz.prog 203 #[.string s, .string ⟨#[c]⟩] w fun e w' => e = .returned (.bool false) ∧ w = w' :=
  (Tryz.strings_Contains_one s c w).mono fun e w' ⟨h1, h2⟩ => ⟨by rw [h1, indexByte_none h]; rfl, h2.symm⟩

theorem contains_yes (s : ByteArray) (c : UInt8) (h : c ∈ s.data.toList) (w : World) :
    Calls Tryz.prog 203 #[.string s, .string ⟨#[c]⟩] w fun e w' => e = .returned (.bool true) ∧ w = w' :=
  (Tryz.strings_Contains_one s c w).mono fun e w' ⟨h1, h2⟩ => ⟨by rw [h1, decide_eq_true (indexByte_some h)], h2.symm⟩

set_option maxHeartbeats 400000 in
theorem name_Valid {s : ByteArray} (h : NameOk s) (w : World) :
    Calls Tryz.prog 277 #[.string s] w fun e w' => e = .returned .nilIface ∧ w = w' := by
  have e1 := isEmpty_of_ne h.ne
  have hlen := h.len
  have k1 := contains_no s 47 h.slash
  have k2 := contains_no s 0 h.nul
  clear h
  go_enter Tryz.func277, Tryz.ntmps277
  go_wp2_with fail
  refine (k1 _).mono ?_
  rintro e w' ⟨rfl, rfl⟩
  go_wp2_with fail
  refine (k2 _).mono ?_
  rintro e w' ⟨rfl, rfl⟩
  go_wp2_with fail
  go_ret
  exact ⟨rfl, rfl⟩

set_option maxHeartbeats 400000 in
theorem name_Special {s : ByteArray} (h : NameOk s) (w : World) :
    Calls Tryz.prog 278 #[.string s] w fun e w' => e = .returned (.bool false) ∧ w = w' := by
  have e1 : (s.toList == [46]) = false := by
    have := bne_of_ne h.dot
    rwa [show (⟨#[46]⟩ : ByteArray).toList = [46] from toList_mk [46]] at this
  have e2 : (s.toList == [46, 46]) = false := by
    have := bne_of_ne h.dots
    rwa [show (⟨#[46, 46]⟩ : ByteArray).toList = [46, 46] from toList_mk [46, 46]] at this
  have f1 : ¬ s.toList = [46] := by intro e; rw [e] at e1; simp at e1
  clear h
  go_enter Tryz.func278, Tryz.ntmps278
  go_wp2_with fail
  go_ret
  exact ⟨rfl, rfl⟩

set_option maxHeartbeats 400000 in
theorem dir_may {e : Ent} (h1 : 1 ≤ e.node) (h2 : e.node ≤ 16777215) (h3 : 1 ≤ e.kind) (h4 : e.kind ≤ 3) (w : World) :
    Calls Tryz.prog 279 #[e.val] w fun e w' => e = .returned (.bool true) ∧ Mods [] w w' := by
  obtain ⟨n, i, k⟩ := e
  simp only [Ent.val] at *
  go_enter Tryz.func279, Tryz.ntmps279
  go_wp2_with fail
  go_ret
  exact ⟨rfl, (Mods.refl _ _).alloc _⟩

/-- What may be an entry. -/
structure EntOk (e : Ent) : Prop where
  name : NameOk e.name
  n1 : 1 ≤ e.node
  n2 : e.node ≤ 16777215
  k1 : 1 ≤ e.kind
  k2 : e.kind ≤ 3

set_option maxRecDepth 100000 in
set_option maxHeartbeats 1000000 in
/-- Add of a name that is not there, into a directory that has entries. -/
theorem dir_Add_some {w : World} {d m : Nat} {D : List (ByteArray × Ent)} (hb : Blk w d tDir #[.map (some m)]) (hm : MapRep w m strV Ent.val okStr D) {x : Ent} (hx : EntOk x) (hno : aGet D x.name = none) (h0 : D ≠ []) :
    Calls Tryz.prog 227 #[.pointer (some ⟨d, 0, none⟩), x.val] w fun e w' => e = .returned .nilIface ∧ Mods [d, m] w w' ∧ DirRep w' d (aPut D x.name x) [d, m] := by
  have hF : DirRep w d D [d, m] := .inr ⟨m, hb, hm, rfl⟩
  obtain ⟨mv, hb', hl, hlen⟩ := map_lookup_ent hF hx.name.str
  obtain rfl : mv = .map (some m) := by unfold Blk at hb hb'; rw [hb] at hb'; cases hb'; rfl
  have hr : dGet D x.name = (Ent.zero, false) := by unfold dGet; rw [hno]
  rw [hr] at hl
  have hv := fun w => name_Valid hx.name w
  have hsp := fun w => name_Special hx.name w
  have hmay := fun w => dir_may hx.n1 hx.n2 hx.k1 hx.k2 w
  have hstr := hx.name.str
  have hlt := hb.lt
  have hne : d ≠ m := hm.ne_blk hb
  have hz : 0 < D.length := by
    cases hq : D with
    | nil => exact absurd hq h0
    | cons a b => simp
  obtain ⟨nm, i, k⟩ := x
  simp only [Ent.val, Ent.zero] at *
  go_enter Tryz.func227, Tryz.ntmps227
  go_wp2_with fail
  refine (hv _).mono ?_
  rintro e w1 ⟨rfl, rfl⟩
  go_wp2_with fail
  refine (hsp _).mono ?_
  rintro e w1 ⟨rfl, rfl⟩
  go_wp2_with fail
  refine (hmay _).mono ?_
  rintro e w1 ⟨rfl, m1⟩
  have mw : Mods [] w w1 := ((Mods.refl [] w).alloc _).then m1
  have x1 := hb.mods mw (by simp)
  have x2 := (Blk.new w tEnt #[.string nm, .int .i64 i, .int .i64 k]).mods m1 (by simp)
  have c0 := x1.cell 0
  simp at c0
  have d0 := x2.cell 0
  have d1 := x2.cell 1
  have d2 := x2.cell 2
  simp at d0 d1 d2
  have fr := x1.frozen
  have lt1 := x1.lt
  have lt2 := x2.lt
  have hl1 := hl w1.drew mw.drew
  have hl2 := fun o => hl (w1.alloc o).drew (mw.alloc o).drew
  have hln := fun o ty => hlen (w1.alloc o).drew (mw.alloc o).drew ty
  obtain ⟨w3, hu, m3, s3, hm3⟩ := (hm.mods (w' := (w1.alloc (.cells #[.string ByteArray.empty, .int .i64 0, .int .i64 0] tEnt)).drew.drew) (mw.alloc _).drew.drew (by simp)).update strEnc Tryz.underlying252 (k := nm) hstr (⟨nm, i, k⟩ : Ent)
  simp only [strV, Ent.val] at hu
  have HU := Lib.hid hu
  clear hl hlen hb' hF hv hsp hmay s3 h0 hu hr hno
  go_wp2_with fail
  go_region
  go_wp2_with fail
  have hu := HU.out
  go_region
  clear hu
  go_wp2_with fail
  go_ret
  refine ⟨rfl, ((mw.alloc _).drew.drew.of_nil (G := [d, m])).seq (Within.refl _ _) (m3.mono (by simp)), .inr ⟨m, ?_, hm3, rfl⟩⟩
  exact ((x1.alloc (.cells #[.string ByteArray.empty, .int .i64 0, .int .i64 0] tEnt)).drew.drew.mods m3 (by simpa using hne))

set_option maxRecDepth 100000 in
set_option maxHeartbeats 1000000 in
/-- Add into a directory without entries: it has a map of its own then. -/
theorem dir_Add_none {w : World} {d : Nat} {F : List Nat} (h : DirRep w d [] F) {x : Ent} (hx : EntOk x) :
    Calls Tryz.prog 227 #[.pointer (some ⟨d, 0, none⟩), x.val] w fun e w' => e = .returned .nilIface ∧ Mods [d] w w' ∧ ∃ m, w.heap.size ≤ m ∧ DirRep w' d [(x.name, x)] [d, m] := by
  obtain ⟨mv, hb, hl, hlen⟩ := map_lookup_ent h hx.name.str
  have hr : dGet [] x.name = (Ent.zero, false) := rfl
  rw [hr] at hl
  have hv := fun w => name_Valid hx.name w
  have hsp := fun w => name_Special hx.name w
  have hmay := fun w => dir_may hx.n1 hx.n2 hx.k1 hx.k2 w
  have hstr := hx.name.str
  have hlt := hb.lt
  obtain ⟨nm, i, k⟩ := x
  simp only [Ent.val, Ent.zero, List.length_nil, Int.natCast_zero] at *
  go_enter Tryz.func227, Tryz.ntmps227
  go_wp2_with fail
  refine (hv _).mono ?_
  rintro e w1 ⟨rfl, rfl⟩
  go_wp2_with fail
  refine (hsp _).mono ?_
  rintro e w1 ⟨rfl, rfl⟩
  go_wp2_with fail
  refine (hmay _).mono ?_
  rintro e w1 ⟨rfl, m1⟩
  have mw : Mods [] w w1 := ((Mods.refl [] w).alloc _).then m1
  have x1 := hb.mods mw (by simp)
  have x2 := (Blk.new w tEnt #[.string nm, .int .i64 i, .int .i64 k]).mods m1 (by simp)
  have c0 := x1.cell 0
  simp at c0
  have d0 := x2.cell 0
  have d1 := x2.cell 1
  have d2 := x2.cell 2
  simp at d0 d1 d2
  have fr := x1.frozen
  have lt1 := x1.lt
  have lt2 := x2.lt
  have hl1 := hl w1.drew mw.drew
  have hl2 := fun o => hl (w1.alloc o).drew (mw.alloc o).drew
  have hln := fun o ty => hlen (w1.alloc o).drew (mw.alloc o).drew ty
  have hmm := @run_makeMap Tryz.prog
  clear hl hlen hv hsp hmay hr h
  go_wp2_with fail
  go_region
  go_wp2_with fail
  have q0 : Mods [d] w (((w1.setCell ⟨d, 0, none⟩ (.map (some (w1.heap.size + 1)))).alloc (.cells #[.string ByteArray.empty, .int .i64 0, .int .i64 0] tEnt)).alloc (.map #[] 0)).drew :=
    (((mw.of_nil.setCell (by simp) _).alloc _).alloc _).drew
  have y1 := (((x1.set_ 0 (.map (some (w1.heap.size + 1)))).alloc (.cells #[.string ByteArray.empty, .int .i64 0, .int .i64 0] tEnt)).alloc (.map #[] 0)).drew
  have y2 := (((x2.far (p := ⟨d, 0, none⟩) (by simp; omega) (.map (some (w1.heap.size + 1)))).alloc (.cells #[.string ByteArray.empty, .int .i64 0, .int .i64 0] tEnt)).alloc (.map #[] 0)).drew
  have ym : MapRep (((w1.setCell ⟨d, 0, none⟩ (.map (some (w1.heap.size + 1)))).alloc (.cells #[.string ByteArray.empty, .int .i64 0, .int .i64 0] tEnt)).alloc (.map #[] 0)).drew (w1.heap.size + 1) strV Ent.val okStr [] := by
    have := (MapRep.new ((w1.setCell ⟨d, 0, none⟩ (.map (some (w1.heap.size + 1)))).alloc (.cells #[.string ByteArray.empty, .int .i64 0, .int .i64 0] tEnt)) strV Ent.val okStr).drew
    simpa using this
  have hmge : w.heap.size ≤ w1.heap.size + 1 := by have := mw.size; omega
  generalize (((w1.setCell ⟨d, 0, none⟩ (.map (some (w1.heap.size + 1)))).alloc (.cells #[.string ByteArray.empty, .int .i64 0, .int .i64 0] tEnt)).alloc (.map #[] 0)).drew = w2 at q0 y1 y2 ym ⊢
  have hnt : d ≠ w1.heap.size + 1 := by omega
  generalize w1.heap.size + 1 = m at *
  clear c0 d0 d1 d2 fr hl1 hl2 hln
  obtain ⟨w3, hu, m3, s3, hm3⟩ := ym.drew.update strEnc Tryz.underlying252 (k := nm) hstr (⟨nm, i, k⟩ : Ent)
  simp only [strV, Ent.val] at hu
  have z1 := y1.drew.mods m3 (by simpa using hnt)
  simp only [List.setIfInBounds_toArray, List.set_cons_zero] at y1 z1
  have c0 := y1.cell 0
  simp at c0
  have d0 := y2.cell 0
  have d1 := y2.cell 1
  have d2 := y2.cell 2
  simp at d0 d1 d2
  clear s3
  go_region
  clear hu
  go_wp2_with fail
  go_ret
  exact ⟨rfl, q0.drew.trans m3 (by simpa using Or.inr hmge), m, hmge, .inr ⟨m, z1, hm3, rfl⟩⟩

/-- Add of a name that is not there. -/
theorem dir_Add {w : World} {d : Nat} {D : List (ByteArray × Ent)} {F : List Nat} (h : DirRep w d D F) {x : Ent} (hx : EntOk x) (hno : aGet D x.name = none) :
    Calls Tryz.prog 227 #[.pointer (some ⟨d, 0, none⟩), x.val] w fun e w' => e = .returned .nilIface ∧ Mods F w w' ∧ ∃ F', Within w F F' ∧ DirRep w' d (aPut D x.name x) F' ∧ F'.Nodup := by
  by_cases h0 : D = []
  · subst h0
    have hd : d ∈ F := by rcases h with ⟨_, _, rfl⟩ | ⟨_, _, _, rfl⟩ <;> simp
    refine (dir_Add_none h hx).mono fun e w' ⟨h1, h2, m, h3, h4⟩ => ⟨h1, h2.mono (by simpa using hd), [d, m], ?_, h4, ?_⟩
    · intro g hg
      simp at hg
      rcases hg with rfl | rfl
      · exact .inl hd
      · exact .inr h3
    · have hlt : d < w.heap.size := by rcases h with ⟨hb, _, _⟩ | ⟨_, hb, _⟩ <;> exact hb.lt
      simp; omega
  · rcases h with ⟨_, h1, _⟩ | ⟨m, hb, hm, rfl⟩
    · exact absurd h1 h0
    · have hne : d ≠ m := hm.ne_blk hb
      exact (dir_Add_some hb hm hx hno h0).mono fun e w' ⟨h1, h2, h3⟩ => ⟨h1, h2, [d, m], Within.refl _ _, h3, by simpa using hne⟩

set_option maxRecDepth 100000 in
set_option maxHeartbeats 1000000 in
theorem dir_Del {w : World} {d : Nat} {D : List (ByteArray × Ent)} {F : List Nat} (h : DirRep w d D F) (s : ByteArray) (hs : okStr s) :
    Calls Tryz.prog 228 #[.pointer (some ⟨d, 0, none⟩), .string s] w fun e w' => (∃ v, e = .returned v) ∧ Mods F w w' ∧ DirRep w' d (aDel D s) F := by
  obtain ⟨mv, hb, hl, hlen⟩ := map_lookup_ent h hs
  have hl1 := fun o => hl (w.alloc o) ((Mods.refl _ _).alloc o)
  have c0 := hb.cell 0
  simp at c0
  have hlt := hb.lt
  generalize dGet D s = r at *
  obtain ⟨⟨r1, r2, r3⟩, b⟩ := r
  simp only [Ent.val] at *
  have hdel : ∃ w3, (∀ kt ty, (Builtin.delete_ #[tMapEnt, kt] ty #[mv, .string s]).run Tryz.prog ((w.alloc (.cells #[.string ⟨#[]⟩, .int .i64 0, .int .i64 0] tEnt)).alloc (.cells #[.string r1, .int .i64 r2, .int .i64 r3] tEnt)) = .ok (.tuple #[]) w3) ∧ Mods F ((w.alloc (.cells #[.string ⟨#[]⟩, .int .i64 0, .int .i64 0] tEnt)).alloc (.cells #[.string r1, .int .i64 r2, .int .i64 r3] tEnt)) w3 ∧ DirRep w3 d (aDel D s) F ∧ (∀ g, w.heap.size ≤ g → g ∉ F) := by
    rcases h with ⟨h, rfl, rfl⟩ | ⟨mm, h, hm, rfl⟩
    · obtain rfl : mv = .map none := by unfold Blk at hb h; rw [hb] at h; cases h; rfl
      refine ⟨_, fun kt ty => run_delete_nil' strEnc Tryz.underlying252 hs, Mods.refl _ _, .inl ⟨(h.alloc _).alloc _, rfl, rfl⟩, ?_⟩
      intro g hg; simp; omega
    · obtain rfl : mv = .map (some mm) := by unfold Blk at hb h; rw [hb] at h; cases h; rfl
      obtain ⟨w3, h1, h2, h3, h4⟩ := ((hm.alloc (.cells #[.string ⟨#[]⟩, .int .i64 0, .int .i64 0] tEnt)).alloc (.cells #[.string r1, .int .i64 r2, .int .i64 r3] tEnt)).delete strEnc Tryz.underlying252 hs
      have hne : d ≠ mm := hm.ne_blk h
      refine ⟨w3, h1, h2.mono (by simp), .inr ⟨mm, ((h.alloc _).alloc _).mods h2 (by simpa using hne), h4, rfl⟩, ?_⟩
      have := hm.lt
      intro g hg; simp; omega
  obtain ⟨w3, hd1, hd2, hd3, hd4⟩ := hdel
  have y1 := (((Blk.new w tEnt #[.string ⟨#[]⟩, .int .i64 0, .int .i64 0]).alloc (.cells #[.string r1, .int .i64 r2, .int .i64 r3] tEnt))).mods hd2 (hd4 _ (Nat.le_refl _))
  have y2 := (Blk.new (w.alloc (.cells #[.string ⟨#[]⟩, .int .i64 0, .int .i64 0] tEnt)) tEnt #[.string r1, .int .i64 r2, .int .i64 r3]).mods hd2 (hd4 _ (by simp))
  rw [World.size_alloc] at y2
  have a0 := y1.cell 0
  have a1 := y1.cell 1
  have a2 := y1.cell 2
  simp at a0 a1 a2
  have b0 := y2.cell 0
  have b1 := y2.cell 1
  have b2 := y2.cell 2
  simp at b0 b1 b2
  have fr1 := y1.frozen
  clear hl hb h hs hlen y2
  go_enter Tryz.func228, Tryz.ntmps228
  go_wp2_with fail
  have q1 := ((y1.set_ 0 (.string r1)).set_ 1 (.int .i64 r2)).set_ 2 (.int .i64 r3)
  simp only [List.setIfInBounds_toArray, List.set_cons_zero, List.set_cons_succ] at q1
  have ld := run_loadVar_row (P := Tryz.prog) _ w.heap.size tEnt 74 _ (0, 0) _ q1 Tryz.underlying74 rfl (by kernel_rfl)
  have hn0 := hd4 w.heap.size (Nat.le_refl _)
  refine bodyPost_ret (v := .tuple #[.agg #[.string r1, .int .i64 r2, .int .i64 r3], .bool b]) (by simp [results, Tryz.results228, asAddr, ld]) rfl ⟨⟨_, rfl⟩, ?_, ?_⟩
  · exact (((((((Mods.refl F w).alloc _).alloc _).trans hd2 (fun g hg => .inl hg)).setCell (.inr (Nat.le_refl _)) _).setCell (.inr (Nat.le_refl _)) _).setCell (.inr (Nat.le_refl _)) _)
  · refine hd3.mods (G := [w.heap.size]) ((((Mods.refl _ w3).setCell (by simp) _).setCell (by simp) _).setCell (by simp) _) (fun g hg h => ?_)
    simp at h
    subst h
    exact hn0 hg
end Go.Proofs.YtaiigmiiidldcaaGreatDoor

namespace Go.Proofs.YtaiigmiiidldcaaGreatDoor
open Go.RowKit Go.Maps
open Go.ChangeMaps (setBlock)

abbrev tHandle : TypeId := 112
abbrev tFiles : TypeId := 200
abbrev tMapHandle : TypeId := 198

structure Hd where
  node : Int
  pos : Int

def Hd.val (h : Hd) : Value := .agg #[.int .i64 h.node, .int .i64 h.pos]
def Hd.zero : Hd := ⟨0, 0⟩

theorem zero_Hd (w : World) : (zeroValue tHandle).run Tryz.prog w = .ok Hd.zero.val w := by kernel_rfl

/-- Block f is what is open. -/
def FilesRep (w : World) (f : Nat) (D : List (Int × Hd)) (F : List Nat) : Prop :=
  (Blk w f tFiles #[.map none] ∧ D = [] ∧ F = [f]) ∨
  ∃ m, Blk w f tFiles #[.map (some m)] ∧ MapRep w m intV Hd.val okInt D ∧ F = [f, m]

def fGet (D : List (Int × Hd)) (i : Int) : Hd × Bool := match aGet D i with
  | some e => (e, true)
  | none => (Hd.zero, false)

section
variable {w w' : World} {f : Nat} {D : List (Int × Hd)} {F : List Nat}
theorem FilesRep.mods {G : List Nat} (h : FilesRep w f D F) (m : Mods G w w') (hd : ∀ g ∈ F, g ∉ G) : FilesRep w' f D F := by
  rcases h with ⟨h, h0, rfl⟩ | ⟨mm, h, hm, rfl⟩
  · exact .inl ⟨h.mods m (hd f (by simp)), h0, rfl⟩
  · exact .inr ⟨mm, h.mods m (hd f (by simp)), hm.mods m (hd mm (by simp)), rfl⟩
theorem FilesRep.mods0 (h : FilesRep w f D F) (m : Mods [] w w') : FilesRep w' f D F := h.mods m (by simp)
theorem FilesRep.new (w : World) : FilesRep (w.alloc (.cells #[.map none] tFiles)) w.heap.size [] [w.heap.size] := .inl ⟨Blk.new w _ _, rfl, rfl⟩
theorem FilesRep.old (h : FilesRep w f D F) : ∀ g ∈ F, g < w.heap.size := by
  rcases h with ⟨h, h0, rfl⟩ | ⟨mm, h, hm, rfl⟩
  · have := h.lt; simpa using this
  · have := h.lt; have := hm.lt; intro g hg; simp at hg; omega
end

theorem map_lookup_hd {w : World} {f : Nat} {D : List (Int × Hd)} {F : List Nat} (h : FilesRep w f D F) {s : Int} (hs : okInt s) :
    ∃ mv, Blk w f tFiles #[mv] ∧ (∀ w', Mods [] w w' → (Instr.lookup tMapHandle mv (.int .i64 s) true).run Tryz.prog w' = .ok (.tuple #[(fGet D s).1.val, .bool (fGet D s).2]) w') ∧
      (∀ w', Mods [] w w' → ∀ ty, (Builtin.len_ #[tMapHandle] ty #[mv]).run Tryz.prog w' = .ok (.int .i64 D.length) w') := by
  rcases h with ⟨h, h0, -⟩ | ⟨mm, h, hm, -⟩
  · refine ⟨_, h, fun w' m => ?_, fun w' m ty => ?_⟩
    · have e := run_lookup_nil (w := w') intEnc Tryz.underlying198 (zero_Hd w') hs true
      simpa [fGet, h0, aGet, intV] using e
    · rw [h0]; simp [Builtin.len_, run_underlying Tryz.underlying198, Result.andThen, goInt]
  · refine ⟨_, h, fun w' m => ?_, fun w' m ty => ?_⟩
    · have e := (hm.mods m (by simp)).run_lookup intEnc Tryz.underlying198 (zero_Hd w') hs true
      rw [show (Value.int .i64 s) = intV s from rfl, e]
      unfold fGet
      cases aGet D s <;> rfl
    · exact (hm.mods m (by simp)).run_len Tryz.underlying198

set_option maxRecDepth 100000 in
set_option maxHeartbeats 400000 in
theorem files_Get_yes {w : World} {f : Nat} {D : List (Int × Hd)} {F : List Nat} (h : FilesRep w f D F) (fd : Int) (hfd : okInt fd) {x : Hd} (hx : aGet D fd = some x) :
    Calls Tryz.prog 107 #[.pointer (some ⟨f, 0, none⟩), .int .i64 fd] w fun e w' => e = .returned (.tuple #[x.val, .nilIface]) ∧ Mods [] w w' := by
  obtain ⟨mv, hb, hl, -⟩ := map_lookup_hd h hfd
  have hl1 := fun o => hl (w.alloc o) ((Mods.refl _ _).alloc o)
  have c0 := hb.cell 0
  simp at c0
  have hlt := hb.lt
  have hr : fGet D fd = (x, true) := by unfold fGet; rw [hx]
  rw [hr] at hl1
  obtain ⟨n, p⟩ := x
  simp only [Hd.val] at *
  clear hl hb h hfd hr hx
  go_enter Tryz.func107, Tryz.ntmps107
  go_wp2_with fail
  refine bodyPost_ret (v := .tuple #[.agg #[.int .i64 n, .int .i64 p], .nilIface]) (by simp [results, Tryz.results107, go_sem]) rfl ⟨rfl, ?_⟩
  exact ((Mods.refl _ _).alloc _).alloc _

set_option maxRecDepth 100000 in
set_option maxHeartbeats 400000 in
theorem files_Get_no {B0 : Nat} {A : Nat → Addr} {L : List Nat} {w : World} (G : Glob B0 A L w) {f : Nat} {D : List (Int × Hd)} {F : List Nat} (h : FilesRep w f D F) (fd : Int) (hfd : okInt fd) (hx : aGet D fd = none) :
    Calls Tryz.prog 107 #[.pointer (some ⟨f, 0, none⟩), .int .i64 fd] w fun e w' => e = .returned (.tuple #[Hd.zero.val, errV eT A 121]) ∧ Mods [] w w' := by
  obtain ⟨mv, hb, hl, -⟩ := map_lookup_hd h hfd
  have hl1 := fun o => hl (w.alloc o) ((Mods.refl _ _).alloc o)
  have c0 := hb.cell 0
  simp at c0
  have hlt := hb.lt
  have hr : fGet D fd = (Hd.zero, false) := by unfold fGet; rw [hx]
  rw [hr] at hl1
  have g1 : w.cell? ⟨11, 0, none⟩ = _ := G.cell 121 (G.core _ (by decide))
  have g2 := G.lt 11 (by decide)
  simp only [Hd.val, Hd.zero] at *
  rw [errV_pos eT A (c := 121) (by decide)]
  clear hl hb h hfd hr hx G
  go_enter Tryz.func107, Tryz.ntmps107
  go_wp2_with fail
  go_region
  go_wp2_with fail
  refine bodyPost_ret (v := .tuple #[.agg #[.int .i64 0, .int .i64 0], .iface eT (.pointer (some (A 121)))]) (by simp [results, Tryz.results107, go_sem]) rfl ⟨rfl, ?_⟩
  exact (((Mods.refl _ _).alloc _).alloc _).drew

set_option maxRecDepth 100000 in
set_option maxHeartbeats 1000000 in
theorem files_Move_yes {w : World} {f : Nat} {D : List (Int × Hd)} {F : List Nat} (h : FilesRep w f D F) (fd : Int) (hfd : okInt fd) {x : Hd} (hx : aGet D fd = some x) (pos : Int) (h1 : 0 ≤ pos) (h2 : pos ≤ 1099511627776) :
    Calls Tryz.prog 57 #[.pointer (some ⟨f, 0, none⟩), .int .i64 fd, .int .i64 pos] w fun e w' => e = .returned .nilIface ∧ Mods F w w' ∧ FilesRep w' f (aPut D fd ⟨x.node, pos⟩) F := by
  have hg := files_Get_yes h fd hfd hx
  rcases h with ⟨_, rfl, _⟩ | ⟨m, hb, hm, rfl⟩
  · cases hx
  have hlt := hb.lt
  have hne : f ≠ m := hm.ne_blk hb
  obtain ⟨n, p⟩ := x
  simp only [Hd.val] at *
  go_enter Tryz.func57, Tryz.ntmps57
  go_wp2_with fail
  refine hg.mono ?_
  rintro e w1 ⟨rfl, m1⟩
  have x1 := hb.mods m1 (by simp)
  have c0 := x1.cell 0
  simp at c0
  have lt1 := x1.lt
  have lt2 := m1.size
  obtain ⟨w3, hu, m3, s3, hm3⟩ := (hm.mods (w' := (w1.alloc (.cells #[.int .i64 n, .int .i64 pos] tHandle)).drew) ((m1.alloc _).drew) (by simp)).update intEnc Tryz.underlying198 (k := fd) hfd (⟨n, pos⟩ : Hd)
  simp only [intV, Hd.val] at hu
  have HU := Lib.hid hu
  clear hu s3 hg
  go_wp2_with fail
  have hu := HU.out
  go_region
  clear hu
  go_wp2_with fail
  go_ret
  refine ⟨rfl, ((m1.alloc _).drew.of_nil (G := [f, m])).seq (Within.refl _ _) (m3.mono (by simp)), .inr ⟨m, ?_, hm3, rfl⟩⟩
  exact ((x1.alloc (.cells #[.int .i64 n, .int .i64 pos] tHandle)).drew.mods m3 (by simpa using hne))

set_option maxRecDepth 100000 in
set_option maxHeartbeats 1000000 in
theorem files_Move_no {B0 : Nat} {A : Nat → Addr} {L : List Nat} {w : World} (G : Glob B0 A L w) {f : Nat} {D : List (Int × Hd)} {F : List Nat} (h : FilesRep w f D F) (fd : Int) (hfd : okInt fd) (hx : aGet D fd = none) (pos : Int) :
    Calls Tryz.prog 57 #[.pointer (some ⟨f, 0, none⟩), .int .i64 fd, .int .i64 pos] w fun e w' => e = .returned (errV eT A 121) ∧ Mods [] w w' := by
  have hg := files_Get_no G h fd hfd hx
  rw [errV_pos eT A (c := 121) (by decide)] at *
  simp only [Hd.val, Hd.zero] at *
  go_enter Tryz.func57, Tryz.ntmps57
  go_wp2_with fail
  refine hg.mono ?_
  rintro e w1 ⟨rfl, m1⟩
  clear hg G h hx
  go_wp2_with fail
  go_ret
  exact ⟨rfl, m1.alloc _⟩

set_option maxRecDepth 100000 in
set_option maxHeartbeats 1000000 in
theorem files_Move_bad {B0 : Nat} {A : Nat → Addr} {L : List Nat} {w : World} (G : Glob B0 A L w) {f : Nat} {D : List (Int × Hd)} {F : List Nat} (h : FilesRep w f D F) (fd : Int) (hfd : okInt fd) {x : Hd} (hx : aGet D fd = some x) (pos : Int) (hp : pos < 0 ∨ 1099511627776 < pos) :
    Calls Tryz.prog 57 #[.pointer (some ⟨f, 0, none⟩), .int .i64 fd, .int .i64 pos] w fun e w' => e = .returned (errV eT A 114) ∧ Mods [] w w' := by
  have hg := files_Get_yes h fd hfd hx
  rw [errV_pos eT A (c := 114) (by decide)]
  obtain ⟨n, p⟩ := x
  simp only [Hd.val] at *
  rcases hp with hp | hp
  all_goals
    go_enter Tryz.func57, Tryz.ntmps57
    go_wp2_with fail
    refine hg.mono ?_
    rintro e w1 ⟨rfl, m1⟩
    have G1 := G.mods0 m1
    have g1 : w1.cell? ⟨3, 0, none⟩ = _ := G1.cell 114 (G1.core _ (by decide))
    have g2 := G1.lt 3 (by decide)
    clear hg G h hx G1
    go_wp2_with fail
    go_ret
    exact ⟨rfl, m1.alloc _⟩

set_option maxRecDepth 100000 in
set_option maxHeartbeats 1000000 in
theorem files_Close_yes {w : World} {f : Nat} {D : List (Int × Hd)} {F : List Nat} (h : FilesRep w f D F) (fd : Int) (hfd : okInt fd) {x : Hd} (hx : aGet D fd = some x) :
    Calls Tryz.prog 83 #[.pointer (some ⟨f, 0, none⟩), .int .i64 fd] w fun e w' => e = .returned (.tuple #[x.val, .nilIface]) ∧ Mods F w w' ∧ FilesRep w' f (aDel D fd) F := by
  have hg := files_Get_yes (h.mods0 ((Mods.refl _ _).alloc (.cells #[.int .i64 0, .int .i64 0] tHandle))) fd hfd hx
  rcases h with ⟨_, rfl, _⟩ | ⟨m, hb, hm, rfl⟩
  · cases hx
  have hlt := hb.lt
  have hlm := hm.lt
  have hne : f ≠ m := hm.ne_blk hb
  obtain ⟨n, p⟩ := x
  simp only [Hd.val] at *
  go_enter Tryz.func83, Tryz.ntmps83
  go_wp2_with fail
  refine hg.mono ?_
  rintro e w1 ⟨rfl, m1⟩
  have mw : Mods [] w w1 := ((Mods.refl _ _).alloc _).then m1
  have x1 := hb.mods mw (by simp)
  have x0 := (Blk.new w tHandle #[.int .i64 0, .int .i64 0]).mods m1 (by simp)
  have c0 := x1.cell 0
  simp at c0
  have z0 := x0.cell 0
  have z1 := x0.cell 1
  simp at z0 z1
  have lt1 := x1.lt
  have lt2 := x0.lt
  have fr0 := x0.frozen
  obtain ⟨w3, hd1, hd2, hs, hd4⟩ := ((hm.mods mw (by simp)).alloc (.cells #[.int .i64 n, .int .i64 p] tHandle)).delete intEnc Tryz.underlying198 (k := fd) hfd
  simp only [intV] at hd1
  have y0 := (x0.alloc (.cells #[.int .i64 n, .int .i64 p] tHandle)).mods hd2 (by simp; omega)
  have y1 := (Blk.new w1 tHandle #[.int .i64 n, .int .i64 p]).mods hd2 (by have := mw.size; simp; omega)
  have yb := (x1.alloc (.cells #[.int .i64 n, .int .i64 p] tHandle)).mods hd2 (by simpa using hne)
  have q0 := y0.cell 0
  have q1 := y0.cell 1
  simp at q0 q1
  have r0 := y1.cell 0
  have r1 := y1.cell 1
  simp at r0 r1
  have fr1 := y0.frozen
  clear hg hs
  go_wp2_with fail
  have q1 := (y0.set_ 0 (.int .i64 n)).set_ 1 (.int .i64 p)
  simp only [List.setIfInBounds_toArray, List.set_cons_zero, List.set_cons_succ] at q1
  have ld := run_loadVar_row (P := Tryz.prog) _ w.heap.size tHandle 112 _ (0, 0) _ q1 Tryz.underlying112 rfl (by kernel_rfl)
  refine bodyPost_ret (v := .tuple #[.agg #[.int .i64 n, .int .i64 p], .nilIface]) (by simp [results, Tryz.results83, asAddr, ld]) rfl ⟨rfl, ?_, ?_⟩
  · exact (((mw.alloc _).of_nil (G := [f, m])).seq (Within.refl _ _) (hd2.mono (by simp))).setCell (.inr (Nat.le_refl _)) _ |>.setCell (.inr (Nat.le_refl _)) _
  · refine .inr ⟨m, (yb.far (by simp; omega) _).far (by simp; omega) _, (hd4.setCell (by simp; omega) _).setCell (by simp; omega) _, rfl⟩

set_option maxRecDepth 100000 in
set_option maxHeartbeats 1000000 in
theorem files_Close_no {B0 : Nat} {A : Nat → Addr} {L : List Nat} {w : World} (G : Glob B0 A L w) {f : Nat} {D : List (Int × Hd)} {F : List Nat} (h : FilesRep w f D F) (fd : Int) (hfd : okInt fd) (hx : aGet D fd = none) :
    Calls Tryz.prog 83 #[.pointer (some ⟨f, 0, none⟩), .int .i64 fd] w fun e w' => e = .returned (.tuple #[Hd.zero.val, errV eT A 121]) ∧ Mods [] w w' := by
  have hg := files_Get_no (G.mods0 ((Mods.refl _ _).alloc (.cells #[.int .i64 0, .int .i64 0] tHandle))) (h.mods0 ((Mods.refl _ _).alloc (.cells #[.int .i64 0, .int .i64 0] tHandle))) fd hfd hx
  rw [errV_pos eT A (c := 121) (by decide)] at *
  simp only [Hd.val, Hd.zero] at *
  go_enter Tryz.func83, Tryz.ntmps83
  go_wp2_with fail
  refine hg.mono ?_
  rintro e w1 ⟨rfl, m1⟩
  have mw : Mods [] w w1 := ((Mods.refl _ _).alloc _).then m1
  have x0 := (Blk.new w tHandle #[.int .i64 0, .int .i64 0]).mods m1 (by simp)
  have z0 := x0.cell 0
  have z1 := x0.cell 1
  simp at z0 z1
  have lt2 := x0.lt
  have fr0 := x0.frozen
  clear hg G h hx
  go_wp2_with fail
  have q1 := ((x0.set_ 0 (.int .i64 0)).set_ 1 (.int .i64 0)).alloc (.cells #[.int .i64 0, .int .i64 0] tHandle)
  simp only [List.setIfInBounds_toArray, List.set_cons_zero, List.set_cons_succ] at q1
  have ld := run_loadVar_row (P := Tryz.prog) _ w.heap.size tHandle 112 _ (0, 0) _ q1 Tryz.underlying112 rfl (by kernel_rfl)
  refine bodyPost_ret (v := .tuple #[.agg #[.int .i64 0, .int .i64 0], .iface eT (.pointer (some (A 121)))]) (by simp [results, Tryz.results83, asAddr, ld]) rfl ⟨rfl, ?_⟩
  exact ((mw.setCell (.inr (Nat.le_refl _)) _).setCell (.inr (Nat.le_refl _)) _).alloc _

set_option maxRecDepth 100000 in
set_option maxHeartbeats 2000000 in
theorem files_Open_yes {w : World} {f : Nat} {D : List (Int × Hd)} {F : List Nat} (h : FilesRep w f D F) (node : Int) (k : Nat) (hk : k < 16) (hmin : ∀ j : Nat, j < k → ∃ x, aGet D (j : Int) = some x) (hno : aGet D (k : Int) = none) :
    Calls Tryz.prog 56 #[.pointer (some ⟨f, 0, none⟩), .int .i64 node] w fun e w' => e = .returned (.tuple #[.int .i64 k, .nilIface]) ∧ Mods F w w' ∧ ∃ F', Within w F F' ∧ F'.Nodup ∧ FilesRep w' f (aPut D k ⟨node, 0⟩) F' := by
  go_enter Tryz.func56, Tryz.ntmps56
  go_wp2_with fail
  go_loopw [9] (fun i wr => ∃ j : Nat, j ≤ k ∧ i = .int .i64 j ∧ Mods [] w wr) (fun i _ => k - (intOf i).toNat)
  case atStart => exact ⟨0, Nat.zero_le _, rfl, Mods.refl _ _⟩
  case round =>
    obtain ⟨j, hj, rfl, mr⟩ := hrel
    by_cases hjk : j < k
    · obtain ⟨x, hx⟩ := hmin j hjk
      obtain ⟨mv, hb, hl, hlen⟩ := map_lookup_hd (h.mods0 mr) (s := (j : Int)) (by constructor <;> omega)
      have hl1 := hl wr (Mods.refl _ _)
      have hr : fGet D j = (x, true) := by unfold fGet; rw [hx]
      rw [hr] at hl1
      obtain ⟨xn, xp⟩ := x
      simp only [Hd.val] at hl1
      have c0 := hb.cell 0
      simp at c0
      have lt1 := hb.lt
      clear hl hlen hr hx hmin hno h hb
      go_wp2_with fail
      go_roundw
      case rel => exact ⟨j + 1, by omega, by go_num, mr.alloc _⟩
      case measure => simp [intOf]; omega
    · obtain rfl : j = k := by omega
      have hs : okInt (j : Int) := by constructor <;> omega
      have hr : fGet D j = (Hd.zero, false) := by unfold fGet; rw [hno]
      have hrw := h.mods0 mr
      obtain ⟨mv, hb, hl, hlen⟩ := map_lookup_hd hrw (s := (j : Int)) hs
      have hl1 := hl wr (Mods.refl _ _)
      have hln := fun o ty => hlen (wr.alloc o) ((Mods.refl _ _).alloc o) ty
      rw [hr] at hl1
      simp only [Hd.val, Hd.zero] at hl1
      have hmm := @run_makeMap Tryz.prog
      have hfw := h.old
      by_cases h0 : D = []
      · subst h0
        have hfF : f ∈ F := by rcases h with ⟨_, _, rfl⟩ | ⟨_, _, _, rfl⟩ <;> simp
        simp only [List.length_nil, Int.natCast_zero] at hln
        have lt1 := hb.lt
        have hflt := hfw f hfF
        have hr2 := mr.size
        have q0 : Mods F w (((wr.setCell ⟨f, 0, none⟩ (.map (some (wr.heap.size + 1)))).alloc (.cells #[.int .i64 0, .int .i64 0] tHandle)).alloc (.map #[] 0)) :=
          (((mr.of_nil.setCell (.inl hfF) _).alloc _).alloc _)
        have y1 := ((hb.set_ 0 (.map (some (wr.heap.size + 1)))).alloc (.cells #[.int .i64 0, .int .i64 0] tHandle)).alloc (.map #[] 0)
        have ym : MapRep (((wr.setCell ⟨f, 0, none⟩ (.map (some (wr.heap.size + 1)))).alloc (.cells #[.int .i64 0, .int .i64 0] tHandle)).alloc (.map #[] 0)) (wr.heap.size + 1) intV Hd.val okInt [] := by
          have := (MapRep.new ((wr.setCell ⟨f, 0, none⟩ (.map (some (wr.heap.size + 1)))).alloc (.cells #[.int .i64 0, .int .i64 0] tHandle)) intV Hd.val okInt)
          simpa using this
        obtain ⟨w3, hu, m3, s3, hm3⟩ := ym.update intEnc Tryz.underlying198 (k := (j : Int)) hs (⟨node, 0⟩ : Hd)
        simp only [intV, Hd.val] at hu
        have z1 := y1.mods m3 (by simp; omega)
        simp only [List.setIfInBounds_toArray, List.set_cons_zero] at y1 z1
        have c0 := hb.cell 0
        simp at c0
        have fr := hb.frozen
        clear hl hlen hr hmin hno s3 hb
        go_wp2_with fail
        go_ret2
        refine ⟨rfl, q0.trans m3 (by simp; omega), [f, wr.heap.size + 1], ?_, by simp; omega, .inr ⟨_, z1, hm3, rfl⟩⟩
        intro g hg
        simp at hg
        rcases hg with rfl | rfl
        · exact .inl hfF
        · exact .inr (by omega)
      · rcases h with ⟨_, h1, _⟩ | ⟨m, hb2, hm, rfl⟩
        · exact absurd h1 h0
        have hb2r := hb2.mods mr (by simp)
        obtain rfl : mv = .map (some m) := by unfold Blk at hb hb2r; rw [hb] at hb2r; cases hb2r; rfl
        have hne : f ≠ m := hm.ne_blk hb2
        have hz : 0 < D.length := by
          cases hq : D with
          | nil => exact absurd hq h0
          | cons a b => simp
        have lt1 := hb.lt
        obtain ⟨w3, hu, m3, s3, hm3⟩ := ((hm.mods mr (by simp)).alloc (.cells #[.int .i64 0, .int .i64 0] tHandle)).update intEnc Tryz.underlying198 (k := (j : Int)) hs (⟨node, 0⟩ : Hd)
        simp only [intV, Hd.val] at hu
        have z1 := (hb.alloc (.cells #[.int .i64 0, .int .i64 0] tHandle)).mods m3 (by simpa using hne)
        have c0 := hb.cell 0
        simp at c0
        have fr := hb.frozen
        clear hl hlen hr hmin hno s3 hb hrw hfw h0 hb2 hb2r
        go_wp2_with fail
        go_ret2
        exact ⟨rfl, ((mr.alloc _).of_nil (G := [f, m])).seq (Within.refl _ _) (m3.mono (by simp)), [f, m], Within.refl _ _, by simpa using hne, .inr ⟨m, z1, hm3, rfl⟩⟩

set_option maxRecDepth 100000 in
set_option maxHeartbeats 2000000 in
theorem files_Open_full {B0 : Nat} {A : Nat → Addr} {L : List Nat} {w : World} (G : Glob B0 A L w) {f : Nat} {D : List (Int × Hd)} {F : List Nat} (h : FilesRep w f D F) (node : Int) (hmin : ∀ j : Nat, j < 16 → ∃ x, aGet D (j : Int) = some x) :
    Calls Tryz.prog 56 #[.pointer (some ⟨f, 0, none⟩), .int .i64 node] w fun e w' => e = .returned (.tuple #[.int .i64 0, errV eT A 120]) ∧ Mods [] w w' := by
  rw [errV_pos eT A (c := 120) (by decide)]
  go_enter Tryz.func56, Tryz.ntmps56
  go_wp2_with fail
  go_loopw [9] (fun i wr => ∃ j : Nat, j ≤ 16 ∧ i = .int .i64 j ∧ Mods [] w wr) (fun i _ => 16 - (intOf i).toNat)
  case atStart => exact ⟨0, Nat.zero_le _, rfl, Mods.refl _ _⟩
  case round =>
    obtain ⟨j, hj, rfl, mr⟩ := hrel
    by_cases hjk : j < 16
    · obtain ⟨x, hx⟩ := hmin j hjk
      obtain ⟨mv, hb, hl, hlen⟩ := map_lookup_hd (h.mods0 mr) (s := (j : Int)) (by constructor <;> omega)
      have hl1 := hl wr (Mods.refl _ _)
      have hr : fGet D j = (x, true) := by unfold fGet; rw [hx]
      rw [hr] at hl1
      obtain ⟨xn, xp⟩ := x
      simp only [Hd.val] at hl1
      have c0 := hb.cell 0
      simp at c0
      have lt1 := hb.lt
      clear hl hlen hr hx hmin h hb
      go_wp2_with fail
      go_roundw
      case rel => exact ⟨j + 1, by omega, by go_num, mr.alloc _⟩
      case measure => simp [intOf]; omega
    · obtain rfl : j = 16 := by omega
      have Gr := G.mods0 mr
      have g1 : wr.cell? ⟨4, 0, none⟩ = _ := Gr.cell 120 (Gr.core _ (by decide))
      have g2 := Gr.lt 4 (by decide)
      clear hmin h G Gr
      go_wp2_with fail
      go_region
      go_wp2_with fail
      go_ret2
      exact ⟨rfl, mr.drew⟩

set_option maxHeartbeats 400000 in
theorem files_Clone {w : World} {f : Nat} {D : List (Int × Hd)} {F : List Nat} (h : FilesRep w f D F) :
    Calls Tryz.prog 95 #[.pointer (some ⟨f, 0, none⟩)] w fun e w' => ∃ d' F', e = .returned (.pointer (some ⟨d', 0, none⟩)) ∧ Mods [] w w' ∧ FilesRep w' d' D F' ∧ (∀ g ∈ F', w.heap.size ≤ g) ∧ F'.Nodup ∧ d' ∈ F' := by
  rcases h with ⟨hb, rfl, rfl⟩ | ⟨m, hb, hm, rfl⟩
  · have c0 := hb.cell 0
    simp at c0
    clear hb
    go_enter Tryz.func95, Tryz.ntmps95
    go_wp2_with (go_at_call 173; refine (clone_handle_nil _).mono ?_; rintro e w' ⟨rfl, rfl⟩)
    go_ret
    exact ⟨w.heap.size, [w.heap.size], rfl, (Mods.refl _ _).alloc _, FilesRep.new w, by simp, by simp, by simp⟩
  · obtain ⟨es, clock, hb', hm'⟩ := hm.cloned
    have hcl := clone_handle m es clock w hb'
    have c0 := hb.cell 0
    simp at c0
    have hlt := hb.lt
    clear hb hb' hm
    go_enter Tryz.func95, Tryz.ntmps95
    go_wp2_with (go_at_call 173; refine hcl.mono ?_; rintro e w' ⟨rfl, rfl⟩)
    go_ret
    refine ⟨w.heap.size + 1, [w.heap.size + 1, w.heap.size], by simp, ((Mods.refl _ _).alloc _).alloc _, .inr ⟨w.heap.size, ?_, hm'.alloc _, rfl⟩, by simp, by simp, by simp⟩
    have := Blk.new (w.alloc (.map es clock)) tFiles #[.map (some w.heap.size)]
    simpa using this
end Go.Proofs.YtaiigmiiidldcaaGreatDoor

namespace Go.Proofs.YtaiigmiiidldcaaGreatDoor
open Go.RowKit Go.Maps
open Go.ChangeMaps (setBlock)

abbrev tCount : TypeId := 39
abbrev tPiece : TypeId := 118

theorem charge_eq {a b c : Int} (h1 : 0 ≤ a) (h2 : 0 ≤ b) (h3 : 0 ≤ c) (h4 : a + b + c ≤ 2147483647) :
    min (min (min (max a 0) 2147483647 + min (max b 0) 2147483647) 2147483647 + min (max c 0) 2147483647) 2147483647 = a + b + c := by
  omega

set_option maxRecDepth 100000 in
set_option maxHeartbeats 1000000 in
theorem quota_Charge {w : World} {g : Nat} {a b c : Int} (hb : Blk w g tCount #[.int .i64 a, .int .i64 b, .int .i64 c]) (h1 : 0 ≤ a) (h2 : 0 ≤ b) (h3 : 0 ≤ c) (h4 : a + b + c ≤ 2147483647) (cap : Nat) :
    Calls Tryz.prog 138 #[.slice (some ⟨g, 0, none⟩) 1 cap] w fun e w' => e = .returned (.int .i64 (a + b + c)) ∧ Mods [] w w' := by
  have c0 := hb.cell 0
  have c1 := hb.cell 1
  have c2 := hb.cell 2
  simp at c0 c1 c2
  have hlt := hb.lt
  clear hb
  go_enter Tryz.func138, Tryz.ntmps138
  go_wp2_with fail
  refine wp_loop_rounds 2 ?_
  rw [rounds_succ]
  go_wp2_with fail
  refine wp_loop_rounds 4 ?_
  rw [rounds_succ]
  go_wp2_with fail
  rw [rounds_succ]
  go_wp2_with fail
  rw [rounds_succ]
  go_wp2_with fail
  rw [rounds_succ]
  go_wp2_with fail
  rw [rounds_succ]
  go_wp2_with fail
  go_ret
  exact ⟨by rw [← charge_eq h1 h2 h3 h4]; rfl, ((Mods.refl _ _).alloc _).alloc _⟩

set_option maxHeartbeats 400000 in
theorem span_Blocks (n : Int) (h0 : 0 ≤ n) (h1 : n ≤ 1099511627776) (w : World) :
    Calls Tryz.prog 76 #[.int .i64 n] w fun e w' => e = .returned (.int .i64 ((n + 255) / 256)) ∧ w = w' := by
  by_cases h : n ≤ 0
  · go_enter Tryz.func76, Tryz.ntmps76
    go_wp2_with fail
    go_ret
    exact ⟨by rw [show (n + 255) / 256 = 0 by omega]; rfl, rfl⟩
  · go_enter Tryz.func76, Tryz.ntmps76
    go_wp2_with fail
    go_ret
    exact ⟨by rw [show (n + 255) / 256 = (n - 1) / 256 + 1 by omega]; rfl, rfl⟩

/-- How many bytes a file of a size has of a block. -/
def spanHas (i n : Int) : Int := if n / 256 < i then 0 else if i = n / 256 then n % 256 else 256

set_option maxHeartbeats 400000 in
theorem span_has (i n : Int) (h0 : 0 ≤ n) (h1 : n ≤ 1099511627776) (w : World) :
    Calls Tryz.prog 137 #[.int .i64 i, .int .i64 n] w fun e w' => e = .returned (.int .i64 (spanHas i n)) ∧ w = w' := by
  unfold spanHas
  by_cases h2 : n / 256 < i
  · rw [if_pos h2]
    go_enter Tryz.func137, Tryz.ntmps137
    go_wp2_with fail
    go_ret
    exact ⟨rfl, rfl⟩
  · rw [if_neg h2]
    by_cases h3 : i = n / 256
    · rw [if_pos h3]
      have h4 : (i == n / 256) = true := by simpa using h3
      clear h3
      go_enter Tryz.func137, Tryz.ntmps137
      go_wp2_with fail
      go_ret
      exact ⟨rfl, rfl⟩
    · rw [if_neg h3]
      have h4 : (i == n / 256) = false := by simpa using h3
      clear h3
      go_enter Tryz.func137, Tryz.ntmps137
      go_wp2_with fail
      go_ret
      exact ⟨rfl, rfl⟩

structure Pc where
  index : Int
  from_ : Int
  to_ : Int

def Pc.val (p : Pc) : Value := .agg #[.int .i64 p.index, .int .i64 p.from_, .int .i64 p.to_]

set_option maxHeartbeats 400000 in
theorem span_is (p : Pc) (h1 : 0 ≤ p.from_) (h2 : p.to_ ≤ 256) (h3 : p.from_ ≤ p.to_) (w : World) :
    Calls Tryz.prog 210 #[p.val] w fun e w' => e = .returned (.bool true) ∧ Mods [] w w' := by
  obtain ⟨a, b, c⟩ := p
  simp only [Pc.val] at *
  go_enter Tryz.func210, Tryz.ntmps210
  go_wp2_with fail
  go_ret
  exact ⟨rfl, (Mods.refl _ _).alloc _⟩

def spanWhole (p : Pc) (n : Int) : Bool := decide (p.from_ = 0) && decide (spanHas p.index n ≤ p.to_)

set_option maxRecDepth 100000 in
set_option maxHeartbeats 400000 in
theorem span_Whole (p : Pc) (n : Int) (h0 : 0 ≤ n) (h1 : n ≤ 1099511627776) (w : World) :
    Calls Tryz.prog 61 #[p.val, .int .i64 n] w fun e w' => e = .returned (.bool (spanWhole p n)) ∧ Mods [] w w' := by
  obtain ⟨a, b, c⟩ := p
  have hh := fun w => span_has a n h0 h1 w
  simp only [Pc.val, spanWhole] at *
  generalize spanHas a n = k at *
  by_cases h2 : b = 0
  · subst h2
    by_cases h3 : k ≤ c
    all_goals
      go_enter Tryz.func61, Tryz.ntmps61
      go_wp2_with fail
      go_quiet ((go_at_call 137; refine Calls.quiet_of_same ((hh _).mono fun e w' ⟨h1, h2⟩ => ⟨h1, h2.symm⟩)))
      go_wp2_with fail
      go_ret
      exact ⟨by simp [h3], ((Mods.refl _ _).alloc _).drewN _⟩
  · have h4 : (b == 0) = false := by simpa using h2
    have h5 : decide (b = 0) = false := by simpa using h2
    rw [h5]
    clear h2
    go_enter Tryz.func61, Tryz.ntmps61
    go_wp2_with fail
    go_quiet (fail)
    go_wp2_with fail
    go_ret
    exact ⟨rfl, ((Mods.refl _ _).alloc _).drewN _⟩
end Go.Proofs.YtaiigmiiidldcaaGreatDoor

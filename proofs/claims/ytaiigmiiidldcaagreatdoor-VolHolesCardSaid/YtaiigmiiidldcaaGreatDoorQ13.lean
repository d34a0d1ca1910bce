/- Package path: Split; Package walk: the world of nodes and directories; Package walk: Dir, entry; Package walk: entry, Empty, Put; Package walk: up, target; Cells kept behind an alloc, or stores elsewhere: for go_region_held3's second argument. -/
import Derived.Deep.RegionHeld3
import Derived.IntWalk
import Derived.Test.YtaiigmiiidldcaaGreatDoorQ12
set_option linter.unusedSimpArgs false
set_option linter.unusedVariables false
namespace Go.Proofs.YtaiigmiiidldcaaGreatDoor
open Go.RowKit Go.Maps
open Go.ChangeMaps (setBlock)

theorem ownsRow_slice {w : World} {base : Nat} {e : TypeId} {size n : Nat} {v : Value} {xs : List Value} (h : w.ownsRow base e size v n xs) : ∃ A c, v = .slice A n c := by
  rcases h.2 with ⟨e, e0⟩ | ⟨g, cap, cur, e, _⟩
  · exact ⟨none, 0, by rw [e, e0]⟩
  · exact ⟨_, _, e⟩

theorem clone_strs {w : World} {v : Value} {l : List ByteArray} (h : Strs w v l) (hl : l.length ≤ 1048576) :
    Calls Tryz.prog 257 #[v] w fun e w' => ∃ v', e = .returned v' ∧ w'.ownsRow w.heap.size tStr 1 v' l.length (l.map strV) ∧ Mods [] w w' := by
  obtain ⟨a, c, rfl, hc, h3⟩ := h
  by_cases hne : l = []
  · subst hne
    cases a with
    | none =>
      refine (Tryz.slices_Clone_string_nil 0 c w).mono ?_
      rintro e w' ⟨rfl, rfl⟩
      exact ⟨_, rfl, World.ownsRow_nil _ _ _ _, Mods.refl _ _⟩
    | some a =>
      refine (Tryz.slices_Clone_string_zero a c w).mono ?_
      rintro e w' ⟨v', rfl, h1, _, h2⟩
      exact ⟨_, rfl, h1, Mods.of_below h2⟩
  · obtain ⟨g, o, rfl, _, hcell⟩ := h3 hne
    refine (Tryz.slices_Clone_string g o l.length c l w (Nat.le_refl _) (by omega) (fun j hj => ?_)).mono ?_
    · rw [hcell j l[j] (List.getElem?_eq_getElem hj)]
      simp [hj]
    · rintro e w' ⟨v', rfl, h1, _, h2⟩
      rw [List.take_length] at h1
      exact ⟨_, rfl, h1, Mods.of_below h2⟩

theorem Strs.take {w : World} {A : Option Addr} {n c : Nat} {l : List ByteArray} (h : Strs w (.slice A n c) l) (k : Nat) (hk : k ≤ l.length) : Strs w (.slice A k c) (l.take k) := by
  obtain ⟨A', c', e, hc, h3⟩ := h
  injection e with e1 e2 e3
  subst e1 e3
  have hlen : (l.take k).length = k := by simp; omega
  refine ⟨A, c, by rw [hlen], by omega, fun hne => ?_⟩
  obtain ⟨g, o, e1, e2, e3⟩ := h3 (by rintro rfl; simp at hne)
  refine ⟨g, o, e1, e2, fun j x hx => e3 j x ?_⟩
  rw [List.getElem?_take] at hx
  split at hx
  · exact hx
  · cases hx

/-- What Split gives: the error's code, what is ahead, the last part. -/
def split (p : Pth) : Nat × List ByteArray × ByteArray :=
  if p.parts = [] ∨ p.parts.getLast? = some dotsB then (114, [], ByteArray.empty)
  else (0, p.parts.dropLast, p.parts.getLastD ByteArray.empty)

set_option maxRecDepth 100000 in
set_option maxHeartbeats 2000000 in
theorem path_Split {B0 : Nat} {A : Nat → Addr} {L : List Nat} {w : World} (G : Glob B0 A L w) (p : Pth) {v : Value} (hp : Strs w v p.parts) (hlen : p.parts.length ≤ 1048576) :
    Calls Tryz.prog 206 #[.agg #[v, .bool p.slash]] w fun e w' => ∃ v', e = .returned (.tuple #[.agg #[v', .bool false], .string (split p).2.2, errV eT A (split p).1]) ∧ Strs w' v' (split p).2.1 ∧ Mods [] w w' := by
  have g1 : w.cell? ⟨3, 0, none⟩ = _ := G.cell 114 (G.core _ (by decide))
  have g2 := G.lt 3 (by decide)
  have nilS : ∀ w' : World, Strs w' (.slice none 0 0) [] := fun w' => Strs.of_own (base := 0) (World.ownsRow_nil _ _ _ _)
  obtain ⟨l, sl⟩ := p
  simp only at hp hlen ⊢
  have hp0 := hp
  obtain ⟨a, c, rfl, hc, h3⟩ := hp
  clear G
  by_cases hne : l = []
  · subst hne
    have hs : split ⟨[], sl⟩ = (114, [], ByteArray.empty) := rfl
    rw [hs, errV_pos eT A (c := 114) (by decide)]
    clear h3 hp0
    go_enter Tryz.func206, Tryz.ntmps206
    go_wp2_with fail
    go_region
    go_wp2_with fail
    refine bodyPost_ret (v := .tuple #[.agg #[.slice none 0 0, .bool false], .string ⟨#[]⟩, .iface eT (.pointer (some (A 114)))]) (by simp [results, Tryz.results206, go_sem]) rfl ⟨_, rfl, nilS _, ?_⟩
    exact (((Mods.refl _ _).alloc _).alloc _).drew
  · obtain ⟨g, o, rfl, ⟨cs, fr, hb⟩, hcell⟩ := h3 hne
    have hpos : 0 < l.length := List.length_pos_iff.2 hne
    have hlt := lt_of_heap hb
    have hlast := hcell (l.length - 1) (l.getLast hne) (by rw [List.getElem?_eq_getElem (by omega), List.getLast_eq_getElem])
    have hi0 : l ≠ [] := hne
    by_cases hd : l.getLast hne = dotsB
    · have hs : split ⟨l, sl⟩ = (114, [], ByteArray.empty) := by
        unfold split
        rw [if_pos (.inr (by simp only; rw [List.getLast?_eq_some_getLast hne, hd]))]
      rw [hs, errV_pos eT A (c := 114) (by decide)]
      rw [hd] at hlast
      simp only [dotsB] at hlast
      clear h3 hp0 hcell hb hs
      go_enter Tryz.func206, Tryz.ntmps206
      go_wp2_with fail
      go_region
      go_wp2_with fail
      refine bodyPost_ret (v := .tuple #[.agg #[.slice none 0 0, .bool false], .string ⟨#[]⟩, .iface eT (.pointer (some (A 114)))]) (by simp [results, Tryz.results206, go_sem]) rfl ⟨_, rfl, nilS _, ?_⟩
      exact (((Mods.refl _ _).alloc _).alloc _).drew
    · have hs : split ⟨l, sl⟩ = (0, l.dropLast, l.getLast hne) := by
        unfold split
        rw [if_neg (by
          rintro (h | h)
          · exact hne h
          · simp only at h
            rw [List.getLast?_eq_some_getLast hne] at h
            exact hd (Option.some.inj h))]
        simp [List.getLastD_eq_getLast?, List.getLast?_eq_some_getLast hne]
      rw [hs]
      have f2 : ((l.getLast hne).toList == [46, 46]) = false := by
        have := bne_of_ne (t := dotsB) hd
        rwa [show dotsB.toList = [46, 46] from toList_mk [46, 46]] at this
      have f3 : ¬ (l.getLast hne).toList = [46, 46] := by intro e; rw [e] at f2; simp at f2
      have hi1 : (o + (l.length - 1)) = o + (l.length - 1) := rfl
      have hst := fun (w' : World) (m : Mods [] w w') => clone_strs ((hp0.mods0 m).take (l.length - 1) (by omega)) (by simp; omega)
      generalize hx : l.getLast hne = x at *
      have HS := Lib.hid hst
      have k0 := ((Blk.new w tPath #[.slice (some ⟨g, o, none⟩) l.length c, .bool sl]).alloc (.cells #[.slice none 0 0, .bool false] tPath)).drew.cell 0
      have k1 : (((w.alloc (.cells #[.slice (some ⟨g, o, none⟩) l.length c, .bool sl] tPath)).alloc (.cells #[.slice none 0 0, .bool false] tPath)).drew).cell? ⟨g, o + (l.length - 1), none⟩ = some (.string x) := by
        rw [World.cell?_drew, World.cell?_alloc_lt _ _ _ (by simp; omega), World.cell?_alloc_lt _ _ _ (by simpa using hlt), hlast]
      simp only [List.getElem?_toArray, List.getElem?_cons_zero] at k0
      have y0 := (Blk.new (w.alloc (.cells #[.slice (some ⟨g, o, none⟩) l.length c, .bool sl] tPath)) tPath #[.slice none 0 0, .bool false]).drew
      have x0 := ((Blk.new w tPath #[.slice (some ⟨g, o, none⟩) l.length c, .bool sl]).alloc (.cells #[.slice none 0 0, .bool false] tPath)).drew
      simp only [World.size_alloc] at y0
      have mw : Mods [] w ((w.alloc (.cells #[.slice (some ⟨g, o, none⟩) l.length c, .bool sl] tPath)).alloc (.cells #[.slice none 0 0, .bool false] tPath)).drew := (((Mods.refl _ _).alloc _).alloc _).drew
      have hg1 := (hb)
      have hw1 : IntKind.i64.wrap ((l.length : Int) - 1) = (l.length : Int) - 1 := IntWalk.i64_in _ (by omega)
      have hw2 : (0 : Int) ≤ (l.length : Int) - 1 := by omega
      have hn1 : ¬ (g = w.heap.size + 1) := by omega
      have hn2 : ¬ (w.heap.size + 1 = g) := by omega
      have hw4 : (l.length : Int) - 1 ≤ (c : Int) := by omega
      have hw3 : ((l.length : Int) - 1).toNat = l.length - 1 := by omega
      clear h3 hp0 hcell hst hs
      go_enter Tryz.func206, Tryz.ntmps206
      go_wp2_with fail
      go_region_held3 (fun w' => w'.cell? ⟨w.heap.size, 0, none⟩ = some (.slice (some ⟨g, o, none⟩) l.length c) ∧ w'.cell? ⟨g, o + (l.length - 1), none⟩ = some (.string x)) (first | (refine ⟨?_, ?_⟩ <;> assumption) | go_keep)
        (first | (go_at_call 257; refine (HS.out _ mw).mono ?_; rintro e w' ⟨v', rfl, hown, m1⟩; obtain ⟨A', c', rfl⟩ := ownsRow_slice hown; have y1 := y0.mods m1 (by simp); have x1 := x0.mods m1 (by simp); have fr := y1.frozen; have q0 := y1.cell 0; have q1 := y1.cell 1; have p0 := x1.cell 0; have p1 : w'.cell? ⟨g, o + (l.length - 1), none⟩ = some (.string x) := (World.cell?_of_block (a := ⟨g, o + (l.length - 1), none⟩) (m1.block g (by simp; omega) (by simp))).trans k1; simp only [List.getElem?_toArray, List.getElem?_cons_zero, List.getElem?_cons_succ] at q0 q1 p0))
      go_wp2_with fail
      have z1 := (y1.set_ 0 (.slice A' (l.length - 1) c')).set_ 1 (.bool false)
      simp only [List.setIfInBounds_toArray, List.set_cons_zero, List.set_cons_succ] at z1
      have ld := run_loadVar_row (P := Tryz.prog) _ (w.heap.size + 1) tPath 203 _ (0, 0) _ z1 Tryz.underlying203 rfl (by kernel_rfl)
      have mm := (((Mods.refl [w.heap.size + 1] w').setCell (p := ⟨w.heap.size + 1, 0, none⟩) (.inl (by simp)) (.slice A' (l.length - 1) c')).setCell (p := ⟨w.heap.size + 1, 1, none⟩) (.inl (by simp)) (.bool false))
      rw [← List.dropLast_eq_take] at hown
      refine bodyPost_ret (v := .tuple #[.agg #[.slice A' (l.length - 1) c', .bool false], .string x, .nilIface]) (by simp [results, Tryz.results206, asAddr, ld]) rfl ⟨.slice A' (l.length - 1) c', rfl, ?_, ?_⟩
      · have hl : l.dropLast.length = l.length - 1 := by simp
        rw [hl] at hown
        refine Strs.own_mods (base := w.heap.size + 2) ?_ mm (by intro y hy; simp at hy; omega)
        rw [hl]
        simpa using hown
      · exact (mw.then m1).trans mm (by intro y hy; simp at hy; right; omega)
end Go.Proofs.YtaiigmiiidldcaaGreatDoor

namespace Go.Proofs.YtaiigmiiidldcaaGreatDoor
open Go.RowKit Go.Maps
open Go.ChangeMaps (setBlock)

abbrev tWorld : TypeId := 131
abbrev tMapDir : TypeId := 129
abbrev tPDir : TypeId := 150

abbrev DirC := List (ByteArray × Ent)

/-- Nodes, and of each number the entries (none: no directory, or an empty one). -/
structure Wld where
  T : Tbl
  δ : Int → DirC

abbrev DirG := Nat × DirC × List Nat
def dirV (r : DirG) : Value := .pointer (some ⟨r.1, 0, none⟩)

def dOf (raw : List (Int × DirG)) (i : Int) : DirC := match aGet raw i with
  | some r => r.2.1
  | none => []

abbrev foot (raw : List (Int × DirG)) : List Nat := raw.flatMap (fun r => r.2.2.2)

/-- Block p is a world. -/
structure WldIs (w : World) (p : Nat) (W : Wld) (t m : Nat) (Ft : List Nat) (raw : List (Int × DirG)) : Prop where
  blk : Blk w p tWorld #[.pointer (some ⟨t, 0, none⟩), .map (some m)]
  tab : TableRep w t W.T Ft
  map : MapRep w m intV dirV okInt raw
  dirs : ∀ r ∈ raw, DirRep w r.2.1 r.2.2.1 r.2.2.2
  δ : ∀ i, W.δ i = dOf raw i
  nodup : (p :: m :: (Ft ++ foot raw)).Nodup

def WldRep (w : World) (p : Nat) (W : Wld) (F : List Nat) : Prop :=
  ∃ t m Ft raw, WldIs w p W t m Ft raw ∧ F = p :: m :: (Ft ++ foot raw)

section
variable {w w' : World} {p : Nat} {W : Wld} {F G : List Nat} {t m : Nat} {Ft : List Nat} {raw : List (Int × DirG)}

theorem TableRep.lt {t : Nat} {T : Tbl} (h : TableRep w t T F) : ∀ g ∈ F, g < w.heap.size := by
  rcases h with ⟨h, _, rfl⟩ | ⟨m, h, hm, rfl⟩
  · simpa using h.lt
  · simpa using ⟨h.lt, hm.lt⟩
theorem DirRep.lt {d : Nat} {D : DirC} (h : DirRep w d D F) : ∀ g ∈ F, g < w.heap.size := by
  rcases h with ⟨h, _, rfl⟩ | ⟨m, h, hm, rfl⟩
  · simpa using h.lt
  · simpa using ⟨h.lt, hm.lt⟩
theorem WldIs.lt (h : WldIs w p W t m Ft raw) : ∀ g ∈ p :: m :: (Ft ++ foot raw), g < w.heap.size := by
  intro g hg
  rcases List.mem_cons.1 hg with rfl | hg
  · exact h.blk.lt
  rcases List.mem_cons.1 hg with rfl | hg
  · exact h.map.lt
  rcases List.mem_append.1 hg with hg | hg
  · exact h.tab.lt g hg
  · obtain ⟨r, hr, hg⟩ := List.mem_flatMap.1 hg
    exact (h.dirs r hr).lt g hg
theorem WldIs.mods (h : WldIs w p W t m Ft raw) (mm : Mods G w w') (hd : ∀ g ∈ p :: m :: (Ft ++ foot raw), g ∉ G) : WldIs w' p W t m Ft raw where
  blk := h.blk.mods mm (hd p (by simp))
  tab := h.tab.mods mm (fun g hg => hd g (by simp [hg]))
  map := h.map.mods mm (hd m (by simp))
  dirs r hr := (h.dirs r hr).mods mm (fun g hg => hd g (by
    have : g ∈ foot raw := List.mem_flatMap.2 ⟨r, hr, hg⟩
    simp only [List.mem_cons, List.mem_append]; right; right; right; exact this))
  δ := h.δ
  nodup := h.nodup
theorem WldIs.mods0 (h : WldIs w p W t m Ft raw) (mm : Mods [] w w') : WldIs w' p W t m Ft raw := h.mods mm (by simp)
theorem WldIs.rep (h : WldIs w p W t m Ft raw) : WldRep w p W (p :: m :: (Ft ++ foot raw)) := ⟨t, m, Ft, raw, h, rfl⟩
theorem WldRep.lt (h : WldRep w p W F) : ∀ g ∈ F, g < w.heap.size := by
  obtain ⟨t, m, Ft, raw, h, rfl⟩ := h
  exact h.lt
theorem WldRep.mods (h : WldRep w p W F) (mm : Mods G w w') (hd : ∀ g ∈ F, g ∉ G) : WldRep w' p W F := by
  obtain ⟨t, m, Ft, raw, h, rfl⟩ := h
  exact ⟨t, m, Ft, raw, h.mods mm hd, rfl⟩
theorem WldRep.mods0 (h : WldRep w p W F) (mm : Mods [] w w') : WldRep w' p W F := h.mods mm (by simp)
end

/-! ### a node that is stored cell by cell -/
theorem info_Nd : (Tryz.prog.info? tNd).map (·.size) = some 6 := by kernel_rfl

abbrev putNd (w : World) (g : Nat) (n1 n2 n3 n4 : Int) (n5 : ByteArray) (n6 : Int) : World :=
  (((((w.setCell ⟨g, 0, none⟩ (.int .i64 n1)).setCell ⟨g, 1, none⟩ (.int .i64 n2)).setCell ⟨g, 2, none⟩ (.int .i64 n3)).setCell ⟨g, 3, none⟩ (.int .i64 n4)).setCell ⟨g, 4, none⟩ (.string n5)).setCell ⟨g, 5, none⟩ (.int .i64 n6)

section
variable {w a : World} {g : Nat} {n1 n2 n3 n4 n6 : Int} {n5 : ByteArray} {b0 b1 b2 b3 b4 b5 : Value} {F : List Nat}
theorem putNd_blk (h : Blk w g tNd #[b0, b1, b2, b3, b4, b5]) : Blk (putNd w g n1 n2 n3 n4 n5 n6) g tNd #[.int .i64 n1, .int .i64 n2, .int .i64 n3, .int .i64 n4, .string n5, .int .i64 n6] := by
  have q1 := (((((h.set_ 0 (.int .i64 n1)).set_ 1 (.int .i64 n2)).set_ 2 (.int .i64 n3)).set_ 3 (.int .i64 n4)).set_ 4 (.string n5)).set_ 5 (.int .i64 n6)
  simpa only [List.setIfInBounds_toArray, List.set_cons_zero, List.set_cons_succ] using q1
theorem nd_ld (h : Blk w g tNd #[.int .i64 n1, .int .i64 n2, .int .i64 n3, .int .i64 n4, .string n5, .int .i64 n6]) : (loadVar tNd ⟨g, 0, none⟩).run Tryz.prog w = .ok (.agg #[.int .i64 n1, .int .i64 n2, .int .i64 n3, .int .i64 n4, .string n5, .int .i64 n6]) w :=
  run_loadVar_row (P := Tryz.prog) _ g tNd 106 _ (0, 0) _ h Tryz.underlying106 rfl (by kernel_rfl)
theorem putNd_mods (m : Mods F a w) (hg : g ∈ F ∨ a.heap.size ≤ g) : Mods F a (putNd w g n1 n2 n3 n4 n5 n6) :=
  ((((((m.setCell (p := ⟨g, 0, none⟩) hg (.int .i64 n1)).setCell (p := ⟨g, 1, none⟩) hg (.int .i64 n2)).setCell (p := ⟨g, 2, none⟩) hg (.int .i64 n3)).setCell (p := ⟨g, 3, none⟩) hg (.int .i64 n4)).setCell (p := ⟨g, 4, none⟩) hg (.string n5)).setCell (p := ⟨g, 5, none⟩) hg (.int .i64 n6))
end

/-- What dir gives. -/
def Wld.dir (W : Wld) (i : Int) : Bool := (W.T.get i).2 && ((W.T.get i).1.kind == 2)

set_option maxRecDepth 100000 in
set_option maxHeartbeats 1000000 in
theorem world_dir {w : World} {p : Nat} {W : Wld} {F : List Nat} (h : WldRep w p W F) (i : Int) (hi : okInt i) :
    Calls Tryz.prog 176 #[.pointer (some ⟨p, 0, none⟩), .int .i64 i] w fun e w' => e = .returned (.tuple #[(W.T.get i).1.val, .bool (W.dir i)]) ∧ Mods [] w w' := by
  obtain ⟨t, m, Ft, raw, h, rfl⟩ := h
  have hb := h.blk
  have hg := fun (w' : World) (mm : Mods [] w w') => table_Get (h.tab.mods0 mm) i hi
  have c0 := hb.cell 0
  have c1 := hb.cell 1
  simp at c0 c1
  have hlt := hb.lt
  unfold Wld.dir
  generalize W.T.get i = r at *
  obtain ⟨⟨n1, n2, n3, n4, n5, n6⟩, b⟩ := r
  simp only [Nd.val] at *
  have HG := Lib.hid hg
  clear hg hb h
  obtain ⟨q, hq⟩ : ∃ q, q = (b && (n2 == 2)) := ⟨_, rfl⟩
  show Calls _ _ _ _ fun e w' => e = .returned (.tuple #[_, .bool (b && (n2 == 2))]) ∧ _
  rw [← hq]
  have HQ := Lib.hid hq
  clear hq
  cases b
  all_goals
    go_enter Tryz.func176, Tryz.ntmps176
    go_wp2_with fail
    refine (HG.out _ ?_).mono ?_
    · exact (Mods.refl _ _).alloc _
    rintro e w1 ⟨rfl, m1⟩
    have x0 := (Blk.new w tNd Nd.zero.cells).mods m1 (by simp)
    simp only [Nd.cells, Nd.zero] at x0
    have lt1 := x0.lt
    have fr := x0.frozen
    have z0 := x0.cell 0
    have z1 := x0.cell 1
    have z2 := x0.cell 2
    have z3 := x0.cell 3
    have z4 := x0.cell 4
    have z5 := x0.cell 5
    simp at z0 z1 z2 z3 z4 z5
    go_wp2_with fail
    go_region
    go_wp2_with fail
    have ld := nd_ld ((putNd_blk (n1 := n1) (n2 := n2) (n3 := n3) (n4 := n4) (n5 := n5) (n6 := n6) x0).alloc (.cells #[.int .i64 n1, .int .i64 n2, .int .i64 n3, .int .i64 n4, .string n5, .int .i64 n6] tNd)).drew
    have mm := ((putNd_mods (n1 := n1) (n2 := n2) (n3 := n3) (n4 := n4) (n5 := n5) (n6 := n6) (((Mods.refl [] w).alloc (.cells Nd.zero.cells tNd)).then m1) (.inr (Nat.le_refl w.heap.size))).alloc (.cells #[.int .i64 n1, .int .i64 n2, .int .i64 n3, .int .i64 n4, .string n5, .int .i64 n6] tNd)).drew
    simp only [putNd] at ld mm
    have hq := HQ.out
    simp only [Bool.false_and, Bool.true_and] at hq
    refine bodyPost_ret (v := .tuple #[.agg #[.int .i64 n1, .int .i64 n2, .int .i64 n3, .int .i64 n4, .string n5, .int .i64 n6], .bool q]) (by simp [results, Tryz.results176, asAddr, ld, hq]) rfl ⟨rfl, mm⟩
end Go.Proofs.YtaiigmiiidldcaaGreatDoor

namespace Go.Proofs.YtaiigmiiidldcaaGreatDoor
open Go.RowKit Go.Maps
open Go.ChangeMaps (setBlock)

theorem aGet_split {κ ν : Type} [DecidableEq κ] {l : List (κ × ν)} {k : κ} {v : ν} (h : aGet l k = some v) :
    ∃ l1 l2, l = l1 ++ (k, v) :: l2 ∧ ∀ u, aPut l k u = l1 ++ (k, u) :: l2 := by
  induction l with
  | nil => cases h
  | cons x l ih =>
    obtain ⟨a, u⟩ := x
    simp only [aGet] at h
    by_cases e : a = k
    · rw [if_pos e] at h
      cases h
      subst e
      exact ⟨[], l, rfl, fun u => by simp [aPut]⟩
    · rw [if_neg e] at h
      obtain ⟨l1, l2, h1, h2⟩ := ih h
      exact ⟨(a, u) :: l1, l2, by rw [h1]; rfl, fun u' => by simp [aPut, e, h2]⟩

theorem MapRep.ghost {κ ν μ : Type} {w : World} {r : Nat} {ek : κ → Value} {ev : ν → Value} {ev' : μ → Value} {ok : κ → Prop} {l : List (κ × ν)} (h : MapRep w r ek ev ok l) {l' : List (κ × μ)}
    (hk : l.map (fun p => (p.1, ev p.2)) = l'.map (fun p => (p.1, ev' p.2))) : MapRep w r ek ev' ok l' := by
  have hkeys : l.map (·.1) = l'.map (·.1) := by
    have := congrArg (List.map Prod.fst) hk
    simpa [List.map_map, Function.comp_def] using this
  obtain ⟨es, clock, h1, h2, h3⟩ := h.ex
  refine ⟨fun p hp => ?_, hkeys ▸ h.nodup, es, clock, h1, ?_, h3⟩
  · have : p.1 ∈ l.map (·.1) := by rw [hkeys]; exact List.mem_map.2 ⟨p, hp, rfl⟩
    obtain ⟨q, hq, e⟩ := List.mem_map.1 this
    exact e ▸ h.oks q hq
  · have := congrArg (List.map (fun p : κ × Value => (ek p.1, p.2))) hk
    simp only [List.map_map, Function.comp_def] at this
    rw [← this]
    exact h2

theorem nodup_swap {A B X Y : List Nat} (h : (A ++ (X ++ B)).Nodup) (hY : Y.Nodup) (hs : ∀ g ∈ Y, g ∈ X ∨ (g ∉ A ∧ g ∉ B)) : (A ++ (Y ++ B)).Nodup := by
  obtain ⟨h1, h2, h3⟩ := List.nodup_append.1 h
  obtain ⟨h4, h5, h6⟩ := List.nodup_append.1 h2
  refine List.nodup_append.2 ⟨h1, List.nodup_append.2 ⟨hY, h5, ?_⟩, ?_⟩
  · rintro a ha b hb rfl
    rcases hs a ha with h | h
    · exact h6 a h a hb rfl
    · exact h.2 hb
  · rintro a ha b hb rfl
    rcases List.mem_append.1 hb with hb | hb
    · rcases hs a hb with h | h
      · exact h3 a ha a (List.mem_append.2 (.inl h)) rfl
      · exact h.1 ha
    · exact h3 a ha a (List.mem_append.2 (.inr hb)) rfl

/-- Block d is the directory of number i, in a world. -/
def WldAt (w : World) (p : Nat) (W : Wld) (F : List Nat) (i : Int) (d : Nat) (Fd : List Nat) : Prop :=
  ∃ t m Ft raw, WldIs w p W t m Ft raw ∧ F = p :: m :: (Ft ++ foot raw) ∧ aGet raw i = some (d, W.δ i, Fd)

def Wld.setD (W : Wld) (i : Int) (D : DirC) : Wld := ⟨W.T, fun j => if j = i then D else W.δ j⟩

section
variable {w w' : World} {p : Nat} {W : Wld} {F G : List Nat} {i : Int} {d : Nat} {Fd : List Nat}

theorem WldAt.rep (h : WldAt w p W F i d Fd) : WldRep w p W F := by
  obtain ⟨t, m, Ft, raw, h, rfl, _⟩ := h
  exact h.rep
theorem WldAt.dir (h : WldAt w p W F i d Fd) : DirRep w d (W.δ i) Fd := by
  obtain ⟨t, m, Ft, raw, h, rfl, h1⟩ := h
  exact h.dirs _ (aGet_mem h1)
theorem WldAt.sub (h : WldAt w p W F i d Fd) : ∀ g ∈ Fd, g ∈ F := by
  obtain ⟨t, m, Ft, raw, h, rfl, h1⟩ := h
  intro g hg
  have : g ∈ foot raw := List.mem_flatMap.2 ⟨_, aGet_mem h1, hg⟩
  simp only [List.mem_cons, List.mem_append]
  right; right; right; exact this
theorem WldAt.mods0 (h : WldAt w p W F i d Fd) (mm : Mods [] w w') : WldAt w' p W F i d Fd := by
  obtain ⟨t, m, Ft, raw, h, h1, h2⟩ := h
  exact ⟨t, m, Ft, raw, h.mods0 mm, h1, h2⟩

theorem WldAt.set {D' : DirC} {Fd' : List Nat} (h : WldAt w p W F i d Fd) (mm : Mods Fd w w') (hd : DirRep w' d D' Fd') (hw : Within w Fd Fd') (hn : Fd'.Nodup) :
    ∃ F', WldAt w' p (W.setD i D') F' i d Fd' ∧ Within w F F' := by
  have hlt := h.rep.lt
  obtain ⟨t, m, Ft, raw, h, rfl, h1⟩ := h
  obtain ⟨l1, l2, e1, e2⟩ := aGet_split h1
  have hmr := h.map
  have hdirs := h.dirs
  have hnd := h.nodup
  have hfoot : p :: m :: (Ft ++ foot raw) = (p :: m :: (Ft ++ foot l1)) ++ (Fd ++ foot l2) := by
    rw [e1]; simp [foot, List.append_assoc]
  rw [hfoot] at hnd hlt
  obtain ⟨n1, n2, n3⟩ := List.nodup_append.1 hnd
  obtain ⟨n4, n5, n6⟩ := List.nodup_append.1 n2
  have hA : ∀ g ∈ p :: m :: (Ft ++ foot l1), g ∉ Fd := fun g hg hf => n3 g hg g (List.mem_append.2 (.inl hf)) rfl
  have hB : ∀ g ∈ foot l2, g ∉ Fd := fun g hg hf => n6 g hf g hg rfl
  have hfoot' : p :: m :: (Ft ++ foot (aPut raw i (d, D', Fd'))) = (p :: m :: (Ft ++ foot l1)) ++ (Fd' ++ foot l2) := by
    rw [e2]; simp [foot, List.append_assoc]
  refine ⟨p :: m :: (Ft ++ foot (aPut raw i (d, D', Fd'))), ⟨t, m, Ft, aPut raw i (d, D', Fd'), ⟨h.blk.mods mm (hA p (by simp)), h.tab.mods mm (fun g hg => hA g (by simp [hg])), ?_, ?_, ?_, ?_⟩, rfl, ?_⟩, ?_⟩
  · refine (hmr.mods mm (hA m (by simp))).ghost ?_
    rw [e2, e1]
    simp [dirV]
  · intro r hr
    rw [e2] at hr
    rcases List.mem_append.1 hr with hr | hr
    · refine (hdirs r (by rw [e1]; exact List.mem_append.2 (.inl hr))).mods mm (fun g hg => hA g ?_)
      have : g ∈ foot l1 := List.mem_flatMap.2 ⟨r, hr, hg⟩
      simp only [List.mem_cons, List.mem_append]; right; right; right; exact this
    · rcases List.mem_cons.1 hr with rfl | hr
      · exact hd
      · exact (hdirs r (by rw [e1]; simp [hr])).mods mm (fun g hg => hB g (List.mem_flatMap.2 ⟨r, hr, hg⟩))
  · intro j
    unfold dOf
    rw [aGet_aPut]
    simp only [Wld.setD]
    split
    · rfl
    · exact h.δ j
  · rw [hfoot']
    refine nodup_swap hnd hn (fun g hg => ?_)
    rcases hw g hg with hg | hg
    · exact .inl hg
    · refine .inr ⟨fun hg' => ?_, fun hg' => ?_⟩
      · have := hlt g (List.mem_append.2 (.inl hg')); omega
      · have := hlt g (List.mem_append.2 (.inr (List.mem_append.2 (.inr hg')))); omega
  · rw [aGet_aPut]; simp [Wld.setD]
  · rw [hfoot', hfoot]
    intro g hg
    rcases List.mem_append.1 hg with hg | hg
    · exact .inl (List.mem_append.2 (.inl hg))
    · rcases List.mem_append.1 hg with hg | hg
      · rcases hw g hg with hg | hg
        · exact .inl (List.mem_append.2 (.inr (List.mem_append.2 (.inl hg))))
        · exact .inr hg
      · exact .inl (List.mem_append.2 (.inr (List.mem_append.2 (.inr hg))))

theorem WldIs.touch {w1 w3 : World} {t m : Nat} {Ft : List Nat} {raw : List (Int × DirG)} (h : WldIs w p W t m Ft raw) (hno : aGet raw i = none) (m1 : Mods [] w w1) (hb : Blk w1 d tDir #[.map none]) (hd : w.heap.size ≤ d)
    (m3 : Mods [m] w1 w3) (hm : MapRep w3 m intV dirV okInt (aPut raw i (d, [], [d]))) :
    WldAt w3 p W (p :: m :: (Ft ++ foot (aPut raw i (d, [], [d])))) i d [d] ∧ Within w (p :: m :: (Ft ++ foot raw)) (p :: m :: (Ft ++ foot (aPut raw i (d, [], [d])))) := by
  have hlt := h.lt
  have hnd := h.nodup
  have hap := aPut_append hno (v := ((d, [], [d]) : DirG))
  have hδ : W.δ i = [] := by rw [h.δ, dOf, hno]
  have hfoot : p :: m :: (Ft ++ foot (aPut raw i (d, [], [d]))) = (p :: m :: (Ft ++ foot raw)) ++ [d] := by
    rw [hap]; simp [foot, List.append_assoc]
  have hdm : d ≠ m := fun e => by have := hlt m (by simp); omega
  have hmm : ∀ g, g ∈ p :: (Ft ++ foot raw) → g ∉ [m] := by
    intro g hg hg'
    simp at hg'
    subst hg'
    obtain ⟨x1, x2⟩ := List.nodup_cons.1 hnd
    obtain ⟨x3, x4⟩ := List.nodup_cons.1 x2
    rcases List.mem_cons.1 hg with rfl | hg
    · exact x1 (by simp)
    · exact x3 hg
  refine ⟨⟨t, m, Ft, _, ⟨(h.blk.mods m1 (by simp)).mods m3 (hmm p (by simp)), (h.tab.mods0 m1).mods m3 (fun g hg => hmm g (by simp [hg])), hm, ?_, ?_, ?_⟩, rfl, ?_⟩, ?_⟩
  · intro r hr
    rw [hap] at hr
    rcases List.mem_append.1 hr with hr | hr
    · refine ((h.dirs r hr).mods0 m1).mods m3 (fun g hg => hmm g ?_)
      have : g ∈ foot raw := List.mem_flatMap.2 ⟨r, hr, hg⟩
      simp only [List.mem_cons, List.mem_append]; right; right; exact this
    · obtain rfl := List.mem_singleton.1 hr
      exact .inl ⟨hb.mods m3 (by simpa using hdm), rfl, rfl⟩
  · intro j
    unfold dOf
    rw [aGet_aPut]
    by_cases e : j = i
    · subst e; rw [if_pos rfl]; exact hδ
    · rw [if_neg e]; exact h.δ j
  · rw [hfoot]
    refine List.nodup_append.2 ⟨hnd, by simp, ?_⟩
    rintro a ha b hb rfl
    simp at hb
    have := hlt a ha
    omega
  · rw [aGet_aPut, hδ]; simp
  · rw [hfoot]
    intro g hg
    rcases List.mem_append.1 hg with hg | hg
    · exact .inl hg
    · simp at hg
      exact .inr (by omega)
end

theorem zero_PDir (w : World) : (zeroValue tPDir).run Tryz.prog w = .ok (.pointer none) w := by kernel_rfl

def dirP (raw : List (Int × DirG)) (i : Int) : Value := match aGet raw i with
  | some r => dirV r
  | none => .pointer none

theorem map_lookup_dir {w : World} {m : Nat} {raw : List (Int × DirG)} (h : MapRep w m intV dirV okInt raw) {i : Int} (hi : okInt i) :
    (Instr.lookup tMapDir (.map (some m)) (.int .i64 i) false).run Tryz.prog w = .ok (dirP raw i) w := by
  have e := h.run_lookup intEnc Tryz.underlying129 (zero_PDir w) hi false
  rw [show (Value.int .i64 i) = intV i from rfl, e]
  unfold dirP
  cases aGet raw i <;> rfl

set_option maxRecDepth 100000 in
set_option maxHeartbeats 1000000 in
theorem world_Dir_no {w : World} {p : Nat} {W : Wld} {F : List Nat} (h : WldRep w p W F) (i : Int) (hi : okInt i) (hd : W.dir i = false) :
    Calls Tryz.prog 103 #[.pointer (some ⟨p, 0, none⟩), .int .i64 i] w fun e w' => e = .returned (.tuple #[.pointer none, .bool false]) ∧ Mods [] w w' := by
  have hg := world_dir h i hi
  rw [hd] at hg
  generalize (W.T.get i).1 = n at *
  obtain ⟨n1, n2, n3, n4, n5, n6⟩ := n
  simp only [Nd.val] at *
  clear h
  go_enter Tryz.func103, Tryz.ntmps103
  go_wp2_with fail
  refine hg.mono ?_
  rintro e w1 ⟨rfl, m1⟩
  clear hg
  go_wp2_with fail
  go_ret2
  exact ⟨rfl, m1.alloc _⟩

set_option maxRecDepth 100000 in
set_option maxHeartbeats 1000000 in
theorem world_Dir_yes {w : World} {p : Nat} {W : Wld} {F : List Nat} (h : WldRep w p W F) (i : Int) (hi : okInt i) (hd : W.dir i = true) :
    Calls Tryz.prog 103 #[.pointer (some ⟨p, 0, none⟩), .int .i64 i] w fun e w' => ∃ d F' Fd, e = .returned (.tuple #[.pointer (some ⟨d, 0, none⟩), .bool true]) ∧ Mods F w w' ∧ Within w F F' ∧ WldAt w' p W F' i d Fd := by
  have hg := world_dir h i hi
  rw [hd] at hg
  obtain ⟨t, m, Ft, raw, h, rfl⟩ := h
  generalize (W.T.get i).1 = n at *
  obtain ⟨n1, n2, n3, n4, n5, n6⟩ := n
  simp only [Nd.val] at *
  cases hr : aGet raw i with
  | some r =>
    obtain ⟨d, D, Fd⟩ := r
    have hp : dirP raw i = .pointer (some ⟨d, 0, none⟩) := by unfold dirP; rw [hr]; rfl
    have hD : D = W.δ i := by rw [h.δ, dOf, hr]
    subst hD
    have HI := Lib.hid h
    go_enter Tryz.func103, Tryz.ntmps103
    go_wp2_with fail
    refine hg.mono ?_
    rintro e w1 ⟨rfl, m1⟩
    have h1 := (HI.out.mods0 m1).mods0 ((Mods.refl [] w1).alloc (.cells #[.int .i64 n1, .int .i64 n2, .int .i64 n3, .int .i64 n4, .string n5, .int .i64 n6] tNd))
    have hb := h1.blk
    have c0 := hb.cell 0
    have c1 := hb.cell 1
    simp at c0 c1
    have hl := map_lookup_dir h1.map hi
    rw [hp] at hl
    have hlt := h.blk.lt
    clear hg h h1 hb
    go_wp2_with fail
    go_ret2
    refine ⟨d, _, Fd, rfl, (m1.alloc _).of_nil, Within.refl _ _, t, m, Ft, raw, ?_, rfl, hr⟩
    exact (HI.out.mods0 m1).mods0 ((Mods.refl [] w1).alloc _)
  | none =>
    have HI := Lib.hid h
    have hlt := h.blk.lt
    have hltm := h.map.lt
    have hpm : p ≠ m := h.map.ne_blk h.blk
    go_enter Tryz.func103, Tryz.ntmps103
    go_wp2_with fail
    refine hg.mono ?_
    rintro e w1 ⟨rfl, m1⟩
    have mA := m1.alloc (.cells #[.int .i64 n1, .int .i64 n2, .int .i64 n3, .int .i64 n4, .string n5, .int .i64 n6] tNd)
    have h1 := HI.out.mods0 mA
    have hb := h1.blk
    have c0 := hb.cell 0
    have c1 := hb.cell 1
    simp at c0 c1
    have hl := map_lookup_dir h1.map hi
    have hp0 : dirP raw i = .pointer none := by unfold dirP; rw [hr]
    rw [hp0] at hl
    have mB := mA.alloc (.cells #[.map none] tDir)
    have h2 := HI.out.mods0 mB
    obtain ⟨w3, hu, m3, hs3, hm3⟩ := h2.map.update intEnc Tryz.underlying129 (k := i) hi ((w1.heap.size + 1, [], [w1.heap.size + 1]) : DirG)
    simp only [intV, dirV] at hu
    have hsz := m1.size
    have hpb := h2.blk.mods m3 (by simpa using hpm)
    have hb2 := h2.blk
    have e0 := hb2.cell 0
    have e1 := hb2.cell 1
    simp at e0 e1
    have q0 := hpb.cell 0
    have q1 := hpb.cell 1
    simp at q0 q1
    have hp1 : dirP (aPut raw i ((w1.heap.size + 1, [], [w1.heap.size + 1]) : DirG)) i = .pointer (some ⟨w1.heap.size + 1, 0, none⟩) := by unfold dirP; rw [aGet_aPut, if_pos rfl]; rfl
    have hl3 := map_lookup_dir hm3 hi
    rw [hp1] at hl3
    have hnb := Blk.new (w1.alloc (.cells #[.int .i64 n1, .int .i64 n2, .int .i64 n3, .int .i64 n4, .string n5, .int .i64 n6] tNd)) tDir #[.map none]
    rw [World.size_alloc] at hnb
    have HB := Lib.hid hnb
    have HM := Lib.hid hm3
    have M3 := Lib.hid m3
    clear hg h h1 hb hp0 hp1 h2 hb2 hpb hm3 hnb hs3 m3
    go_wp2_with fail
    go_ret2
    obtain ⟨r1, r2⟩ := HI.out.touch hr mB HB.out (by omega) M3.out HM.out
    exact ⟨_, _, _, rfl, mB.of_nil.seq (Within.refl _ _) (M3.out.mono (by simp)), r2, r1⟩
end Go.Proofs.YtaiigmiiidldcaaGreatDoor

namespace Go.Proofs.YtaiigmiiidldcaaGreatDoor
open Go.RowKit Go.Maps
open Go.ChangeMaps (setBlock)

abbrev putEnt (w : World) (g : Nat) (n1 : ByteArray) (n2 n3 : Int) : World :=
  ((w.setCell ⟨g, 0, none⟩ (.string n1)).setCell ⟨g, 1, none⟩ (.int .i64 n2)).setCell ⟨g, 2, none⟩ (.int .i64 n3)

section
variable {w a : World} {g : Nat} {n1 : ByteArray} {n2 n3 : Int} {b0 b1 b2 : Value} {F : List Nat}
theorem putEnt_blk (h : Blk w g tEnt #[b0, b1, b2]) : Blk (putEnt w g n1 n2 n3) g tEnt #[.string n1, .int .i64 n2, .int .i64 n3] := by
  have q1 := ((h.set_ 0 (.string n1)).set_ 1 (.int .i64 n2)).set_ 2 (.int .i64 n3)
  simpa only [List.setIfInBounds_toArray, List.set_cons_zero, List.set_cons_succ] using q1
theorem ent_ld (h : Blk w g tEnt #[.string n1, .int .i64 n2, .int .i64 n3]) : (loadVar tEnt ⟨g, 0, none⟩).run Tryz.prog w = .ok (.agg #[.string n1, .int .i64 n2, .int .i64 n3]) w :=
  run_loadVar_row (P := Tryz.prog) _ g tEnt 74 _ (0, 0) _ h Tryz.underlying74 rfl (by kernel_rfl)
theorem putEnt_mods (m : Mods F a w) (hg : g ∈ F ∨ a.heap.size ≤ g) : Mods F a (putEnt w g n1 n2 n3) :=
  ((m.setCell (p := ⟨g, 0, none⟩) hg (.string n1)).setCell (p := ⟨g, 1, none⟩) hg (.int .i64 n2)).setCell (p := ⟨g, 2, none⟩) hg (.int .i64 n3)
end

/-- What entry gives. -/
def Wld.entry (W : Wld) (i : Int) (s : ByteArray) : Ent × Bool := if W.dir i then dGet (W.δ i) s else (Ent.zero, false)

set_option maxRecDepth 100000 in
set_option maxHeartbeats 1000000 in
theorem world_entry {w : World} {p : Nat} {W : Wld} {F : List Nat} (h : WldRep w p W F) (i : Int) (hi : okInt i) (s : ByteArray) (hs : okStr s) :
    Calls Tryz.prog 207 #[.pointer (some ⟨p, 0, none⟩), .int .i64 i, .string s] w fun e w' => ∃ F', e = .returned (.tuple #[(W.entry i s).1.val, .bool (W.entry i s).2]) ∧ Mods F w w' ∧ Within w F F' ∧ WldRep w' p W F' := by
  have m0 := (Mods.refl [] w).alloc (.cells #[.string ⟨#[]⟩, .int .i64 0, .int .i64 0] tEnt)
  have hW := Lib.hid (h.mods0 m0)
  have hlt := h.lt
  unfold Wld.entry
  cases hd : W.dir i with
  | false =>
    rw [if_neg (by decide)]
    have hg := world_Dir_no (h.mods0 m0) i hi hd
    simp only [Ent.val, Ent.zero]
    clear h
    go_enter Tryz.func207, Tryz.ntmps207
    go_wp2_with fail
    refine hg.mono ?_
    rintro e w1 ⟨rfl, m1⟩
    have x0 := (Blk.new w tEnt #[.string ⟨#[]⟩, .int .i64 0, .int .i64 0]).mods m1 (by simp)
    have z0 := x0.cell 0
    have z1 := x0.cell 1
    have z2 := x0.cell 2
    simp at z0 z1 z2
    have fr := x0.frozen
    clear hg
    go_wp2_with fail
    have ld := ent_ld (putEnt_blk (n1 := ⟨#[]⟩) (n2 := 0) (n3 := 0) x0)
    have mm := putEnt_mods (g := w.heap.size) (n1 := ⟨#[]⟩) (n2 := 0) (n3 := 0) (m0.then m1) (.inr (Nat.le_refl _))
    simp only [putEnt] at ld mm
    refine bodyPost_ret (v := .tuple #[.agg #[.string ⟨#[]⟩, .int .i64 0, .int .i64 0], .bool false]) (by simp [results, Tryz.results207, asAddr, ld]) rfl ⟨F, rfl, mm.of_nil, Within.refl _ _, ?_⟩
    refine (hW.out.mods0 m1).mods (putEnt_mods (g := w.heap.size) (Mods.refl [w.heap.size] w1) (.inl (by simp))) (fun g hg hg' => ?_)
    simp at hg'
    have := hlt g hg
    omega
  | true =>
    rw [if_pos rfl]
    have hg := world_Dir_yes (h.mods0 m0) i hi hd
    have HG := Lib.hid (fun (d : Nat) (Fd : List Nat) (w' : World) (hr : DirRep w' d (W.δ i) Fd) => dir_Get hr s hs)
    generalize dGet (W.δ i) s = r at *
    obtain ⟨⟨r1, r2, r3⟩, b⟩ := r
    simp only [Ent.val] at *
    clear h
    go_enter Tryz.func207, Tryz.ntmps207
    go_wp2_with fail
    refine hg.mono ?_
    rintro e w1 ⟨d, F', Fd, rfl, m1, hw1, hat⟩
    have hn : w.heap.size ∉ F := fun hh => by have := hlt _ hh; omega
    have x0 := (Blk.new w tEnt #[.string ⟨#[]⟩, .int .i64 0, .int .i64 0]).mods m1 hn
    clear hg
    go_wp2_with fail
    refine (HG.out d Fd w1 hat.dir).mono ?_
    rintro e w2 ⟨rfl, m2⟩
    have x1 := x0.mods m2 (by simp)
    have z0 := x1.cell 0
    have z1 := x1.cell 1
    have z2 := x1.cell 2
    simp at z0 z1 z2
    have fr := x1.frozen
    go_wp2_with fail
    have ld := ent_ld (putEnt_blk (n1 := r1) (n2 := r2) (n3 := r3) x1)
    have mm := putEnt_mods (g := w.heap.size) (n1 := r1) (n2 := r2) (n3 := r3) (((m0.of_nil (G := F)).seq (Within.refl _ _) m1).then m2) (.inr (Nat.le_refl _))
    simp only [putEnt] at ld mm
    refine bodyPost_ret (v := .tuple #[.agg #[.string r1, .int .i64 r2, .int .i64 r3], .bool b]) (by simp [results, Tryz.results207, asAddr, ld]) rfl ⟨F', rfl, mm, ?_, ?_⟩
    · intro g hg
      rcases hw1 g hg with h | h
      · exact .inl h
      · exact .inr (by simp at h; omega)
    · refine (hat.rep.mods0 m2).mods (putEnt_mods (g := w.heap.size) (Mods.refl [w.heap.size] w2) (.inl (by simp))) (fun g hg hg' => ?_)
      simp at hg'
      subst hg'
      rcases hw1 _ hg with h | h
      · exact hn h
      · simp at h; omega
end Go.Proofs.YtaiigmiiidldcaaGreatDoor

namespace Go.Proofs.YtaiigmiiidldcaaGreatDoor
open Go.RowKit Go.Maps
open Go.ChangeMaps (setBlock)

def upOf (n : Nd) : Int := if n.id = 1 then n.id else n.parent

theorem walk_up (n : Nd) (w : World) :
    Calls Tryz.prog 258 #[n.val] w fun e w' => e = .returned (.int .i64 (upOf n)) ∧ Mods [] w w' := by
  obtain ⟨n1, n2, n3, n4, n5, n6⟩ := n
  simp only [Nd.val, upOf]
  by_cases h : n1 = 1
  · subst h
    go_enter Tryz.func258, Tryz.ntmps258
    go_wp2_with fail
    go_ret
    exact ⟨rfl, (Mods.refl _ _).alloc _⟩
  · rw [if_neg h]
    have h1 : (n1 == 1) = false := by simpa using h
    go_enter Tryz.func258, Tryz.ntmps258
    go_wp2_with fail
    go_ret
    exact ⟨rfl, (Mods.refl _ _).alloc _⟩

def absB (s : ByteArray) : Bool := decide (s ≠ ByteArray.empty) && decide (s.data.toList.headD 0 = 47)

/-- A link's path, and whence it goes. -/
def tgt (s : ByteArray) (a : Int) : (Nat × Pth) × Int := if absB s then (parse s, 1) else (parse (slashB ++ s), a)

theorem putPth_blk {w : World} {g : Nat} {v : Value} {b : Bool} {b0 b1 : Value} (h : Blk w g tPath #[b0, b1]) : Blk ((w.setCell ⟨g, 0, none⟩ v).setCell ⟨g, 1, none⟩ (.bool b)) g tPath #[v, .bool b] := by
  have q1 := (h.set_ 0 v).set_ 1 (.bool b)
  simpa only [List.setIfInBounds_toArray, List.set_cons_zero, List.set_cons_succ] using q1
theorem pth_ld {w : World} {g : Nat} {A : Option Addr} {n c : Nat} {b : Bool} (h : Blk w g tPath #[.slice A n c, .bool b]) : (loadVar tPath ⟨g, 0, none⟩).run Tryz.prog w = .ok (.agg #[.slice A n c, .bool b]) w :=
  run_loadVar_row (P := Tryz.prog) _ g tPath 203 _ (0, 0) _ h Tryz.underlying203 rfl (by kernel_rfl)

set_option maxRecDepth 100000 in
set_option maxHeartbeats 1000000 in
theorem walk_target {B0 : Nat} {A : Nat → Addr} {L : List Nat} {w : World} (G : Glob B0 A L w) (hm : MaxCell w) (n : Nd) (a : Int) (hs : n.target.size ≤ 1048576) (hne : n.target ≠ ByteArray.empty) :
    Calls Tryz.prog 259 #[n.val, .int .i64 a] w fun e w' => ∃ v, e = .returned (.tuple #[.agg #[v, .bool (tgt n.target a).1.2.slash], .int .i64 (tgt n.target a).2, errV eT A (tgt n.target a).1.1]) ∧ Strs w' v (tgt n.target a).1.2.parts ∧ Mods [] w w' := by
  obtain ⟨n1, n2, n3, n4, n5, n6⟩ := n
  simp only [Nd.val] at *
  have m0 := ((Mods.refl [] w).alloc (.cells #[.int .i64 n1, .int .i64 n2, .int .i64 n3, .int .i64 n4, .string n5, .int .i64 n6] tNd)).alloc (.cells #[.slice none 0 0, .bool false] tPath)
  have G2 := G.mods0 m0
  have hm2 : MaxCell ((w.alloc (.cells #[.int .i64 n1, .int .i64 n2, .int .i64 n3, .int .i64 n4, .string n5, .int .i64 n6] tNd)).alloc (.cells #[.slice none 0 0, .bool false] tPath)) := by
    obtain ⟨m, hm⟩ := hm
    have lt25 := G.lt 25 (by decide)
    exact ⟨m, by rw [World.cell?_alloc_lt _ _ _ (by simp; omega), World.cell?_alloc_lt _ _ _ lt25, hm]⟩
  unfold tgt
  cases hab : absB n5 with
  | true =>
    have hh : n5.data.toList.headD 0 = 47 := by
      unfold absB at hab
      simp only [Bool.and_eq_true, decide_eq_true_eq] at hab
      exact hab.2
    have hpos : 0 < n5.size := by
      rcases Nat.eq_zero_or_pos n5.size with h | h
      · exact absurd (ByteArray.ext (by apply Array.eq_empty_of_size_eq_zero; exact h)) hne
      · exact h
    have e2 : (((n5[0]).toNat : Int) == 47) = true := by
      rw [head_get hpos, hh]
      rfl
    rw [if_pos rfl]
    have hp := path_Parse G2 hm2 n5
    generalize parse n5 = r at *
    obtain ⟨c, ⟨ps, sl⟩⟩ := r
    simp only at *
    clear G G2 hm hm2 hne hh hab
    go_enter Tryz.func259, Tryz.ntmps259
    go_wp2_with fail
    refine hp.mono ?_
    rintro e w1 ⟨v, rfl, hst, m1⟩
    have x0 := (Blk.new (w.alloc (.cells #[.int .i64 n1, .int .i64 n2, .int .i64 n3, .int .i64 n4, .string n5, .int .i64 n6] tNd)) tPath #[.slice none 0 0, .bool false]).mods m1 (by simp)
    rw [World.size_alloc] at x0
    have hst0 := hst
    obtain ⟨A', c', rfl, _⟩ := hst0
    have z0 := x0.cell 0
    have z1 := x0.cell 1
    simp at z0 z1
    have fr := x0.frozen
    have lt0 := x0.lt
    clear hp
    go_wp2_with fail
    have y0 := (putPth_blk (v := .slice A' ps.length c') (b := sl) x0).alloc (.cells #[.slice A' ps.length c', .bool sl] tPath)
    have ld := pth_ld y0
    have mm := ((Mods.refl [w.heap.size + 1] w1).setCell (p := ⟨w.heap.size + 1, 0, none⟩) (.inl (by simp)) (.slice A' ps.length c')).setCell (p := ⟨w.heap.size + 1, 1, none⟩) (.inl (by simp)) (.bool sl) |>.alloc (.cells #[.slice A' ps.length c', .bool sl] tPath)
    refine bodyPost_ret (v := .tuple #[.agg #[.slice A' ps.length c', .bool sl], .int .i64 1, errV eT A c]) (by simp [results, Tryz.results259, asAddr, ld]) rfl ⟨.slice A' ps.length c', rfl, ?_, ?_⟩
    · exact hst.mods mm (NoRow.of_blk x0 (by decide))
    · exact (m0.then m1).trans mm (by intro y hy; simp at hy; right; omega)
  | false =>
    rw [if_neg (by decide)]
    have hp := path_Parse G2 hm2 (slashB ++ n5)
    generalize parse (slashB ++ n5) = r at *
    obtain ⟨c, ⟨ps, sl⟩⟩ := r
    simp only [slashB] at *
    have hh : n5.data.toList.headD 0 ≠ 47 := by
      unfold absB at hab
      simpa [hne] using hab
    have hpos : 0 < n5.size := by
      rcases Nat.eq_zero_or_pos n5.size with h | h
      · exact absurd (ByteArray.ext (by apply Array.eq_empty_of_size_eq_zero; exact h)) hne
      · exact h
    have e2 : (((n5[0]).toNat : Int) == 47) = false := by
      rw [head_get hpos, beq_eq_false_iff_ne]
      intro e
      exact hh (by apply UInt8.toNat_inj.1; show _ = 47; omega)
    clear G G2 hm hm2 hab hh
    go_enter Tryz.func259, Tryz.ntmps259
    go_wp2_with fail
    refine hp.mono ?_
    rintro e w1 ⟨v, rfl, hst, m1⟩
    have x0 := (Blk.new (w.alloc (.cells #[.int .i64 n1, .int .i64 n2, .int .i64 n3, .int .i64 n4, .string n5, .int .i64 n6] tNd)) tPath #[.slice none 0 0, .bool false]).mods m1 (by simp)
    rw [World.size_alloc] at x0
    have hst0 := hst
    obtain ⟨A', c', rfl, _⟩ := hst0
    have z0 := x0.cell 0
    have z1 := x0.cell 1
    simp at z0 z1
    have fr := x0.frozen
    have lt0 := x0.lt
    clear hp
    go_wp2_with fail
    have y0 := (putPth_blk (v := .slice A' ps.length c') (b := sl) x0).alloc (.cells #[.slice A' ps.length c', .bool sl] tPath)
    have ld := pth_ld y0
    have mm := ((Mods.refl [w.heap.size + 1] w1).setCell (p := ⟨w.heap.size + 1, 0, none⟩) (.inl (by simp)) (.slice A' ps.length c')).setCell (p := ⟨w.heap.size + 1, 1, none⟩) (.inl (by simp)) (.bool sl) |>.alloc (.cells #[.slice A' ps.length c', .bool sl] tPath)
    refine bodyPost_ret (v := .tuple #[.agg #[.slice A' ps.length c', .bool sl], .int .i64 a, errV eT A c]) (by simp [results, Tryz.results259, asAddr, ld]) rfl ⟨.slice A' ps.length c', rfl, ?_, ?_⟩
    · exact hst.mods mm (NoRow.of_blk x0 (by decide))
    · exact (m0.then m1).trans mm (by intro y hy; simp at hy; right; omega)
end Go.Proofs.YtaiigmiiidldcaaGreatDoor

namespace Go.Proofs.YtaiigmiiidldcaaGreatDoor
open Go.RowKit Go.Maps

theorem keepAlloc {w : World} {a : Addr} {o : Obj} {v : Value} (h : w.cell? a = some v) : (w.alloc o).cell? a = some v :=
  (World.cell?_alloc_some _ _ _ (by rw [h]; rfl)).trans h
theorem keepDrew {w : World} {a : Addr} {v : Value} (h : w.cell? a = some v) : w.drew.cell? a = some v := h
theorem keepStore {w : World} {a p : Addr} {u v : Value} (h : w.cell? a = some v) (hn : a.block ≠ p.block) : (w.setCell p u).cell? a = some v :=
  (World.cell?_setCell_other _ _ _ _ (by rintro rfl; exact hn rfl)).trans h
theorem keepMods {w w' : World} {F : List Nat} (m : Mods F w w') {a : Addr} {v : Value} (h : w.cell? a = some v) (hn : a.block ∉ F) : w'.cell? a = some v :=
  (World.cell?_of_block (m.block a.block (World.block_lt_of_cell? w a h) hn)).trans h

example (w4 w3 : World) (p t : Nat) (e2 : Int) (hp : p < w3.heap.size) (k0 : w4.cell? ⟨p, 0, none⟩ = some (.pointer (some ⟨t, 0, none⟩))) (k1 : w4.cell? ⟨w3.heap.size, 1, none⟩ = some (.int .i64 e2)) (o : Obj) (u : Value) :
   ((w4.alloc o).setCell ⟨w3.heap.size + 1, 0, none⟩ u).cell? ⟨p, 0, none⟩ = some (.pointer (some ⟨t, 0, none⟩)) ∧ (w4.alloc o).cell? ⟨w3.heap.size, 1, none⟩ = some (.int .i64 e2) := by
  refine ⟨?_, ?_⟩ <;> (repeat (first | with_reducible assumption | with_reducible refine keepAlloc ?_ | with_reducible refine keepDrew ?_ | (with_reducible refine keepStore ?_ (by simp; try omega))))
end Go.Proofs.YtaiigmiiidldcaaGreatDoor

/- slices.AppendSeq, slices.Collect at cells and at ints: a new slice of what an iterator gives. -/
import Derived.RangeFuncLeaves
import Derived.RangeFuncBox
import Derived.RangeFuncNested
import Derived.Shelf.Abstract
import Derived.TacticsInMore
import Derived.LoopNIn
import Derived.LoopIn
import Derived.OwnWalkIn
import Derived.Test.YtaiigmiiidldcaaGreatDoorQ09
set_option linter.unusedSimpArgs false
set_option linter.unusedVariables false
namespace Go.Proofs.YtaiigmiiidldcaaGreatDoor
open Go.RowKit Go.Maps Go.Sort Go.Shelf
open Go.ChangeMaps (setBlock)
attribute [local go_sem] Oper.semAt_some

abbrev tInt8 : TypeId := 3
abbrev tInts8 : TypeId := 59
abbrev tCells : TypeId := 55
theorem cells_new {w : World} {t : TypeId} (cs : List Value) : ∀ j u, cs[j]? = some u → (w.alloc (.cells cs.toArray t)).cell? ((⟨w.heap.size, 0, none⟩ : Addr).add j) = some u := by
  intro j u hj
  rw [Addr.add_lit, (Blk.new w t cs.toArray).cell, Nat.zero_add]
  simpa using hj
theorem info_cell : (Tryz.prog.info? tCell).map (fun i => (i.zero, i.size, i.bytes)) = some (some (.agg #[.int .i64 0, .int .i64 0]), 2, 16) := by kernel_rfl
theorem info_int8 : (Tryz.prog.info? tInt8).map (fun i => (i.zero, i.size, i.bytes)) = some (some (.int .i64 0), 1, 8) := by kernel_rfl
def celCells (c : Cel) : List Value := [.int .i64 c.1, .int .i64 c.2]
def intCells (n : Int) : List Value := [.int .i64 n]
theorem ownFrom_false {α : Type} (B : Nat) : OwnFrom B (fun (_ : List α) (_ : World) => False) := fun _ _ _ _ h _ _ => h

theorem below_mods {w w' : World} (h : Below w.heap.size w w') : Mods [] w w' := Mods.of_below h
theorem OwnFrom.both {β : Type} {B : Nat} {I J : β → World → Prop} (hI : OwnFrom B I) (hJ : OwnFrom B J) : OwnFrom B (fun s W => I s W ∧ J s W) :=
  fun s W W' row h hg hr => ⟨hI s W W' row h.1 hg hr, hJ s W W' row h.2 hg hr⟩
theorem ownFrom_below1 {β : Type} {B n₀ : Nat} {w : World} (hn : n₀ ≤ B) (hb : n₀ ≤ w.heap.size) : OwnFrom B (fun (_ : β) W => Below n₀ w W) := fun s W W' row h hg hr =>
  h.grown hg (Nat.le_trans hb h.size) (fun k e => Nat.le_trans hn (hr k e).1)

set_option maxRecDepth 100000 in
set_option maxHeartbeats 1000000 in
theorem appendSeqC {w : World} (n : Nat) (hn : 3 ≤ n) (g : Nat) (lb : Array Value) (eg : ∀ args w, (callFunc g args).run Tryz.prog w = .ok (.enter g args) w) (S : List Cel → Prop) (N : Nat) (hN : N ≤ 1000000)
    (hseq : SeqStopsK Fence.wide (n - 1) Tryz.prog g lb (fun x => #[celV x]) KeepsWalks S (fun _ => True) N w) :
    CallsIn Fence.wide n Tryz.prog 262 #[.slice none 0 0, .func (.func g) #[] lb] w fun e w' => ∃ v ss, e = .returned v ∧ S ss ∧ w'.ownsRow w.heap.size tCell 2 v ss.length (ss.flatMap celCells) ∧ Mods [] w w' := by
  obtain ⟨i0, hi, hz0, hz1, hz2⟩ := info_parts info_cell
  have h1 : 1 ≤ n := by omega
  refine callsIn_of_wp_marks Tryz.func262 rfl trivial ?_ rfl
  simp only [Tryz.ntmps262, List.size_toArray, List.length_cons, List.length_nil, Nat.reduceAdd, Nat.reduceSub, Array.replicate_succ, Array.replicate_zero, List.push_toArray, List.append_toArray, List.nil_append, List.cons_append]
  gi_wp2
  have hB0 : Below w.heap.size w (w.alloc (.cells #[.slice none 0 0] tCells)) := (Below.refl _ w).alloc (Nat.le_refl _) _
  refine wpIn_rangeFunc_ownH (w0 := w) (gf := g) (lb := lb) rfl h1 rfl trivial eg hseq walksK_t walksK_b hB0 (fun _ => rfl)
    (fun pre W => (∃ v, Boxed W w.heap.size tCells v ∧ W.ownsRow w.heap.size tCell 2 v pre.length (pre.flatMap celCells) ∧ True) ∧ Below w.heap.size w W)
    (fun _ _ _ => False) ?hI (fun _ => ownFrom_false _) ?h0
    (fun x a' W => ∃ Bx, Blk W Bx tCell #[.int .i64 x.1, .int .i64 x.2] ∧ a' = { tmps := #[.slice none 0 0, .func (.func g) #[] lb, .pointer (some ⟨w.heap.size, 0, none⟩), undef, .slice none 0 0, .pointer (some ⟨Bx, 0, none⟩), .func (.func g) #[] lb, celV x, undef, undef, undef, undef, undef], defers := [] }) ?hAx ?assign ?body ?done ?stop
  case hI => exact OwnFrom.both ((holdsRow_own _ _ _ _ _ (fun pre : List Cel => pre.length) (fun pre => pre.flatMap celCells) (fun _ _ => True)).from _) (ownFrom_below1 (by simp) (Nat.le_refl _))
  case h0 => exact ⟨⟨_, Boxed.new w _ _, World.ownsRow_nil _ _ _ _, trivial⟩, hB0⟩
  case hAx => 
    rintro x a' s X Y row ⟨Bx, hb, rfl⟩ hg hr
    refine ⟨Bx, ?_, rfl⟩
    refine (hg.block Bx hb.lt (fun e => ?_)).trans hb
    obtain ⟨_, o, ho, hc⟩ := hr Bx e.symm
    unfold Blk at hb
    rw [hb] at ho
    cases ho
    cases hc
  case assign =>
    rintro l pre ⟨x1, x2⟩ W K ⟨⟨v, hv, hrow, -⟩, hB⟩ hK
    simp only [celV]
    gi_wp2
    exact hK _ _ ((KeepsOthers.alloc _ _).from _) (KeepsWalks.alloc _ _) ⟨⟨v, hv.alloc _, hrow.alloc _, trivial⟩, hB.alloc hB.size _⟩ ⟨W.heap.size, Blk.new _ _ _, rfl⟩
  case body =>
    rintro l pre ⟨x1, x2⟩ a' W hl hr ⟨⟨v, hv, hrow, -⟩, hB⟩ ⟨Bx, hbx, rfl⟩ hlen
    have hc1 := hv.cell
    have hf1 := hv.frozen
    have hlt := hv.lt
    have hBs := hB.size
    have hb0 := hbx.cell 0
    have hb1 := hbx.cell 1
    have hbl := hbx.lt
    simp only [List.getElem?_toArray, List.getElem?_cons_zero, List.getElem?_cons_succ] at hb0 hb1
    simp only [celV]
    gi_wp2_with (gi_at_builtin; refine wpListIn_append_own _ rfl _ _ tCells rfl w.heap.size tCell i0 (.agg #[.int .i64 0, .int .i64 0]) 2 16 Tryz.underlying55 hi hz0 hz1 hz2 rfl (by decide) _ _ _ rfl (hrow.alloc _) ⟨W.heap.size, 0, none⟩ 1 1 (celCells (x1, x2)) rfl rfl (cells_new _) (by simp [Value.oneCell', celCells]) (by unfold maxLen; omega) (by omega) (by simp; omega) ?_; intro v' w1 hown' hgrow _; obtain ⟨g', cap', rfl⟩ := ownsRow_succ hown'; obtain ⟨hv1, hv2, hr2, hk2, hb2⟩ := hv.appended (by decide) hrow hBs (Nat.le_refl _) hown' hgrow; have hc2 := hv1.cell; have hf2 := hv1.frozen)
    refine ⟨hk2.from _, hk2.walks, ⟨_, hv2, ?_⟩, hB.trans hb2⟩
    rw [List.flatMap_append, List.length_append, List.length_singleton, List.flatMap_singleton]
    first | exact hr2 | exact ⟨hr2, trivial⟩
  case done =>
    rintro D xs W hD hS ⟨⟨v, hv, hrow, -⟩, hB⟩ hK
    have hc1 := hv.cell
    have hlt := hv.lt
    gi_wp2
    refine ⟨by simp, .inl ⟨_, _, rfl, run_takeDeferred hK, ?_⟩⟩
    refine ⟨_, results_tmp rfl _ _ _, v, xs, rfl, hS, ownsRow_putObj hrow _ hK rfl, below_mods (hB.grown (grownBy_putObj' _ _ _) hB.size (fun k e => by cases e; simp at hD; omega))⟩
  case stop => rintro D c pre W _ _ h; exact h.elim

set_option maxHeartbeats 400000 in
theorem collectC {w : World} (n : Nat) (hn : 4 ≤ n) (g : Nat) (lb : Array Value) (eg : ∀ args w, (callFunc g args).run Tryz.prog w = .ok (.enter g args) w) (S : List Cel → Prop) (N : Nat) (hN : N ≤ 1000000)
    (hseq : SeqStopsK Fence.wide (n - 1 - 1) Tryz.prog g lb (fun x => #[celV x]) KeepsWalks S (fun _ => True) N w) :
    CallsIn Fence.wide n Tryz.prog 211 #[.func (.func g) #[] lb] w fun e w' => ∃ v ss, e = .returned v ∧ S ss ∧ w'.ownsRow w.heap.size tCell 2 v ss.length (ss.flatMap celCells) ∧ Mods [] w w' := by
  have h1 : 1 ≤ n := by omega
  refine callsIn_of_wp Tryz.func211 rfl trivial ?_ rfl
  simp only [Tryz.ntmps211, List.size_toArray, List.length_cons, List.length_nil, Nat.reduceAdd, Nat.reduceSub, Array.replicate_succ, Array.replicate_zero, List.push_toArray, List.append_toArray, List.nil_append, List.cons_append]
  gi_wp2_with (refine ⟨trivial, ?_⟩; gi_at_call 262; refine (appendSeqC (n - 1) (by omega) g lb eg S N hN hseq).mono ?_; rintro e w' ⟨v, ss, rfl, hS, hrow, hm⟩)
  go_ret
  exact ⟨v, ss, rfl, hS, hrow, hm⟩

set_option maxRecDepth 100000 in
set_option maxHeartbeats 1000000 in
theorem appendSeqI {w : World} (n : Nat) (hn : 3 ≤ n) (g : Nat) (lb : Array Value) (eg : ∀ args w, (callFunc g args).run Tryz.prog w = .ok (.enter g args) w) (S : List Int → Prop) (N : Nat) (hN : N ≤ 1000000)
    (hseq : SeqStopsK Fence.wide (n - 1) Tryz.prog g lb (fun x => #[intV x]) KeepsWalks S (fun _ => True) N w) :
    CallsIn Fence.wide n Tryz.prog 281 #[.slice none 0 0, .func (.func g) #[] lb] w fun e w' => ∃ v ss, e = .returned v ∧ S ss ∧ w'.ownsRow w.heap.size tInt8 1 v ss.length (ss.flatMap intCells) ∧ Mods [] w w' := by
  obtain ⟨i0, hi, hz0, hz1, hz2⟩ := info_parts info_int8
  have h1 : 1 ≤ n := by omega
  refine callsIn_of_wp_marks Tryz.func281 rfl trivial ?_ rfl
  simp only [Tryz.ntmps281, List.size_toArray, List.length_cons, List.length_nil, Nat.reduceAdd, Nat.reduceSub, Array.replicate_succ, Array.replicate_zero, List.push_toArray, List.append_toArray, List.nil_append, List.cons_append]
  gi_wp2
  have hB0 : Below w.heap.size w (w.alloc (.cells #[.slice none 0 0] tInts8)) := (Below.refl _ w).alloc (Nat.le_refl _) _
  refine wpIn_rangeFunc_ownH (w0 := w) (gf := g) (lb := lb) rfl h1 rfl trivial eg hseq walksK_t walksK_b hB0 (fun _ => rfl)
    (fun pre W => (∃ v, Boxed W w.heap.size tInts8 v ∧ W.ownsRow w.heap.size tInt8 1 v pre.length (pre.flatMap intCells) ∧ True) ∧ Below w.heap.size w W)
    (fun _ _ _ => False) ?hI (fun _ => ownFrom_false _) ?h0
    (fun x a' W => a' = { tmps := #[.slice none 0 0, .func (.func g) #[] lb, .pointer (some ⟨w.heap.size, 0, none⟩), undef, .slice none 0 0, intV x, .func (.func g) #[] lb, intV x, undef, undef, undef, undef, undef], defers := [] }) ?hAx ?assign ?body ?done ?stop
  case hI => exact OwnFrom.both ((holdsRow_own _ _ _ _ _ (fun pre : List Int => pre.length) (fun pre => pre.flatMap intCells) (fun _ _ => True)).from _) (ownFrom_below1 (by simp) (Nat.le_refl _))
  case h0 => exact ⟨⟨_, Boxed.new w _ _, World.ownsRow_nil _ _ _ _, trivial⟩, hB0⟩
  case hAx => exact fun x a' => ownFrom_pure _ _
  case assign =>
    rintro l pre x W K ⟨⟨v, hv, hrow, -⟩, hB⟩ hK
    simp only [intV]
    gi_wp2
    exact hK _ _ ((KeepsOthers.refl _).from _) (KeepsWalks.refl _) ⟨⟨v, hv, hrow, trivial⟩, hB⟩ rfl
  case body =>
    rintro l pre x a' W hl hr ⟨⟨v, hv, hrow, -⟩, hB⟩ rfl hlen
    have hc1 := hv.cell
    have hf1 := hv.frozen
    have hlt := hv.lt
    have hBs := hB.size
    simp only [intV]
    gi_wp2_with (gi_at_builtin; refine wpListIn_append_own _ rfl _ _ tInts8 rfl w.heap.size tInt8 i0 (.int .i64 0) 1 8 Tryz.underlying59 hi hz0 hz1 hz2 rfl (by decide) _ _ _ rfl (hrow.alloc _) ⟨W.heap.size, 0, none⟩ 1 1 (intCells x) rfl rfl (cells_new _) (by simp [Value.oneCell', intCells]) (by unfold maxLen; omega) (by omega) (by simp; omega) ?_; intro v' w1 hown' hgrow _; obtain ⟨g', cap', rfl⟩ := ownsRow_succ hown'; obtain ⟨hv1, hv2, hr2, hk2, hb2⟩ := hv.appended (by decide) hrow hBs (Nat.le_refl _) hown' hgrow; have hc2 := hv1.cell; have hf2 := hv1.frozen)
    refine ⟨hk2.from _, hk2.walks, ⟨_, hv2, ?_⟩, hB.trans hb2⟩
    rw [List.flatMap_append, List.length_append, List.length_singleton, List.flatMap_singleton]
    first | exact hr2 | exact ⟨hr2, trivial⟩
  case done =>
    rintro D xs W hD hS ⟨⟨v, hv, hrow, -⟩, hB⟩ hK
    have hc1 := hv.cell
    have hlt := hv.lt
    gi_wp2
    refine ⟨by simp, .inl ⟨_, _, rfl, run_takeDeferred hK, ?_⟩⟩
    refine ⟨_, results_tmp rfl _ _ _, v, xs, rfl, hS, ownsRow_putObj hrow _ hK rfl, below_mods (hB.grown (grownBy_putObj' _ _ _) hB.size (fun k e => by cases e; simp at hD; omega))⟩
  case stop => rintro D c pre W _ _ h; exact h.elim

set_option maxHeartbeats 400000 in
theorem collectI {w : World} (n : Nat) (hn : 4 ≤ n) (g : Nat) (lb : Array Value) (eg : ∀ args w, (callFunc g args).run Tryz.prog w = .ok (.enter g args) w) (S : List Int → Prop) (N : Nat) (hN : N ≤ 1000000)
    (hseq : SeqStopsK Fence.wide (n - 1 - 1) Tryz.prog g lb (fun x => #[intV x]) KeepsWalks S (fun _ => True) N w) :
    CallsIn Fence.wide n Tryz.prog 231 #[.func (.func g) #[] lb] w fun e w' => ∃ v ss, e = .returned v ∧ S ss ∧ w'.ownsRow w.heap.size tInt8 1 v ss.length (ss.flatMap intCells) ∧ Mods [] w w' := by
  have h1 : 1 ≤ n := by omega
  refine callsIn_of_wp Tryz.func231 rfl trivial ?_ rfl
  simp only [Tryz.ntmps231, List.size_toArray, List.length_cons, List.length_nil, Nat.reduceAdd, Nat.reduceSub, Array.replicate_succ, Array.replicate_zero, List.push_toArray, List.append_toArray, List.nil_append, List.cons_append]
  gi_wp2_with (refine ⟨trivial, ?_⟩; gi_at_call 281; refine (appendSeqI (n - 1) (by omega) g lb eg S N hN hseq).mono ?_; rintro e w' ⟨v, ss, rfl, hS, hrow, hm⟩)
  go_ret
  exact ⟨v, ss, rfl, hS, hrow, hm⟩
end Go.Proofs.YtaiigmiiidldcaaGreatDoor

/- maps.Keys at this program's maps: each key comes once, in some order. -/
import Derived.Shelf.SlIterI.Nil
import Derived.RangeFuncNested
import Derived.RangeFuncBound
import Derived.Shelf.SlIterI.Sorted
import Derived.Test.YtaiigmiiidldcaaGreatDoorQ08
set_option linter.unusedSimpArgs false
set_option linter.unusedVariables false
namespace Go.Proofs.YtaiigmiiidldcaaGreatDoor
open Go.RowKit Go.Maps Go.Sort Go.Shelf
open Go.ChangeMaps (setBlock)

section
variable {κ ν : Type} {w w' : World} {it r : Nat} {ek : κ → Value} {ev : ν → Value} {left : List (κ × ν)}
theorem IterRep.walks (h : IterRep w it r ek ev left) (hk : KeepsWalks w w') : IterRep w' it r ek ev left := by
  obtain ⟨es, clock, since, seen, c0, ha, hb, hc⟩ := h
  exact ⟨es, clock, since, seen, c0, hk.same _ _ ha rfl, hk.same _ _ hb rfl, hc⟩
theorem IterRep.isWalk (h : IterRep w it r ek ev left) : ∃ o : Obj, w.heap[it]? = some o ∧ o.isWalk = true := by
  obtain ⟨es, clock, since, seen, c0, ha, hb, hc⟩ := h
  exact ⟨_, ha, rfl⟩
theorem Mods.grown1 {g : Nat} (h : Mods [g] w w') : w.grownBy w' (some g) := ⟨h.os, h.tape, h.output, h.size, fun k hk hn => h.block k hk (fun hm => hn (by simp at hm; rw [hm]))⟩
end

set_option maxRecDepth 100000 in
set_option maxHeartbeats 1000000 in
theorem keysN_stops {w : World} {r : Nat} {l : List (Int × Nd)} (n : Nat) (hn : 1 ≤ n) (Bm : Nat) (hBm : Bm < w.heap.size) (hm : w.cell? ⟨Bm, 0, none⟩ = some (.map (some r))) (hr : MapRep w r intV Nd.val okInt l) :
    SeqStopsK Fence.wide n Tryz.prog 233 #[.pointer (some ⟨Bm, 0, none⟩)] (fun x => #[intV x]) KeepsWalks (fun ss => ss.Perm (l.map (·.1))) (fun _ => True) l.length w := by
  intro lp J Jx W hW hJ hJx hY h0
  have hm' : W.cell? ⟨Bm, 0, none⟩ = some (.map (some r)) := (hW.cell (p := ⟨Bm, 0, none⟩) hBm).trans hm
  have hr' := hr.mods (F := []) (Mods.of_below hW) (by simp)
  obtain ⟨o, hrun, hit⟩ := hr'.run_range Tryz.underlying216
  have hlr := hr'.lt
  have h0' : J [] (W.alloc o) := hJ [] W _ none h0 (World.grownBy_alloc W _ none) (by simp)
  clear hr' hr hm
  refine callsIn_of_wp Tryz.func233 rfl trivial ?_ rfl
  simp only [Tryz.ntmps233, List.size_toArray, List.length_cons, List.length_nil, Nat.reduceAdd, Nat.reduceSub, Array.replicate_succ, Array.replicate_zero, List.push_toArray, List.append_toArray, List.nil_append, List.cons_append]
  gi_wp2
  gi_loopw [3] (fun _ wr => ∃ (left : List (Int × Nd)) (ss : List Int), IterRep wr W.heap.size r intV Nd.val left ∧ (ss ++ left.map (·.1)).Perm (l.map (·.1)) ∧ J ss wr) (fun _ wr => iterN wr W.heap.size r)
  case atStart => exact ⟨l, [], hit, List.Perm.refl _, h0'⟩
  case round =>
    obtain ⟨left, ss, hit, hp, hJs⟩ := hrel
    clear hrun h0'
    rcases hit.next (P := Tryz.prog) (by omega) with ⟨rfl, hnx⟩ | ⟨q, left', w2, hp2, hnx, hit', hen, m2, s2⟩
    · gi_wp2
      go_end0
      exact ⟨⟨_, rfl⟩, .inl ⟨ss, by simpa using hp, hJs⟩⟩
    · have hJ2 : J ss w2 := hJ ss wr w2 (some W.heap.size) hJs m2.grown1 (fun r e => by cases e; exact ⟨Nat.le_refl _, hit.isWalk⟩)
      have hlen : ss.length < l.length := by
        have h1 := hp.length_eq
        have h2 := hp2.length_eq
        simp at h1 h2
        omega
      have hn1 := hit.n
      have hmeas : left'.length < left.length := by have := hp2.length_eq; simp at this; omega
      have hp3 : ((ss ++ [q.1]) ++ left'.map (·.1)).Perm (l.map (·.1)) := by
        refine List.Perm.trans ?_ hp
        rw [List.append_assoc]
        exact List.Perm.append_left ss (by simpa using (hp2.map (·.1)).symm)
      obtain ⟨q1, qv⟩ := q
      have hJA : J ss (w2) := hJ2
      have hitA : IterRep (w2) W.heap.size r intV Nd.val left' := hit'.mods (F := []) (Mods.refl [] _) (by simp) (by simp)
      obtain ⟨fn, tmps, assign, body, hy, hR⟩ := hY ss q1 _ hJA hlen
      simp only [intV] at hnx hen hy
      clear s2 hit m2 hit'
      gi_wp2
      refine hR.mono ?_
      rintro e W3 (⟨rfl, hJ3, hk3⟩ | ⟨rfl, hJ3⟩)
      · have hit3 := hitA.walks hk3
        gi_wp2
        go_roundw
        case rel => exact ⟨left', _, hit3, hp3, hJ3⟩
        case measure => rw [hn1, hit3.n]; exact hmeas
      · gi_wp2
        refine bodyPost_ret (results_none rfl _ _ _) rfl ?_
        exact ⟨⟨_, rfl⟩, .inr ⟨_, trivial, hJ3⟩⟩

set_option maxHeartbeats 400000 in
theorem keysN_in (n : Nat) (mb : Option Nat) (w : World) :
    CallsIn Fence.wide n Tryz.prog 164 #[.map mb] w fun e w' => e = .returned (.func (.func 233) #[] #[.pointer (some ⟨w.heap.size, 0, none⟩)]) ∧ w' = w.alloc (.cells #[.map mb] 216) := by
  refine callsIn_of_wp Tryz.func164 rfl trivial ?_ rfl
  simp only [Tryz.ntmps164, List.size_toArray, List.length_cons, List.length_nil, Nat.reduceAdd, Nat.reduceSub, Array.replicate_succ, Array.replicate_zero, List.push_toArray, List.append_toArray, List.nil_append, List.cons_append]
  gi_wp2
  go_ret
  exact ⟨rfl, rfl⟩

set_option maxRecDepth 100000 in
set_option maxHeartbeats 1000000 in
theorem keysC_stops {w : World} {r : Nat} {l : List (Cel × Raw)} (n : Nat) (hn : 1 ≤ n) (Bm : Nat) (hBm : Bm < w.heap.size) (hm : w.cell? ⟨Bm, 0, none⟩ = some (.map (some r))) (hr : MapRep w r celV rawV okCel l) :
    SeqStopsK Fence.wide n Tryz.prog 212 #[.pointer (some ⟨Bm, 0, none⟩)] (fun x => #[celV x]) KeepsWalks (fun ss => ss.Perm (l.map (·.1))) (fun _ => True) l.length w := by
  intro lp J Jx W hW hJ hJx hY h0
  have hm' : W.cell? ⟨Bm, 0, none⟩ = some (.map (some r)) := (hW.cell (p := ⟨Bm, 0, none⟩) hBm).trans hm
  have hr' := hr.mods (F := []) (Mods.of_below hW) (by simp)
  obtain ⟨o, hrun, hit⟩ := hr'.run_range Tryz.underlying133
  have hlr := hr'.lt
  have h0' : J [] (W.alloc o) := hJ [] W _ none h0 (World.grownBy_alloc W _ none) (by simp)
  clear hr' hr hm
  refine callsIn_of_wp Tryz.func212 rfl trivial ?_ rfl
  simp only [Tryz.ntmps212, List.size_toArray, List.length_cons, List.length_nil, Nat.reduceAdd, Nat.reduceSub, Array.replicate_succ, Array.replicate_zero, List.push_toArray, List.append_toArray, List.nil_append, List.cons_append]
  gi_wp2
  gi_loopw [3] (fun _ wr => ∃ (left : List (Cel × Raw)) (ss : List Cel), IterRep wr W.heap.size r celV rawV left ∧ (ss ++ left.map (·.1)).Perm (l.map (·.1)) ∧ J ss wr) (fun _ wr => iterN wr W.heap.size r)
  case atStart => exact ⟨l, [], hit, List.Perm.refl _, h0'⟩
  case round =>
    obtain ⟨left, ss, hit, hp, hJs⟩ := hrel
    clear hrun h0'
    rcases hit.next (P := Tryz.prog) (by omega) with ⟨rfl, hnx⟩ | ⟨q, left', w2, hp2, hnx, hit', hen, m2, s2⟩
    · gi_wp2
      go_end0
      exact ⟨⟨_, rfl⟩, .inl ⟨ss, by simpa using hp, hJs⟩⟩
    · have hJ2 : J ss w2 := hJ ss wr w2 (some W.heap.size) hJs m2.grown1 (fun r e => by cases e; exact ⟨Nat.le_refl _, hit.isWalk⟩)
      have hlen : ss.length < l.length := by
        have h1 := hp.length_eq
        have h2 := hp2.length_eq
        simp at h1 h2
        omega
      have hn1 := hit.n
      have hmeas : left'.length < left.length := by have := hp2.length_eq; simp at this; omega
      have hp3 : ((ss ++ [q.1]) ++ left'.map (·.1)).Perm (l.map (·.1)) := by
        refine List.Perm.trans ?_ hp
        rw [List.append_assoc]
        exact List.Perm.append_left ss (by simpa using (hp2.map (·.1)).symm)
      obtain ⟨⟨q1, q2⟩, qv⟩ := q
      have hJA : J ss (w2.alloc (.cells #[.int .i64 q1, .int .i64 q2] tCell)) := hJ ss w2 _ none hJ2 (World.grownBy_alloc w2 _ none) (by simp)
      have hitA : IterRep (w2.alloc (.cells #[.int .i64 q1, .int .i64 q2] tCell)) W.heap.size r celV rawV left' := hit'.mods (F := []) ((Mods.refl [] _).alloc _) (by simp) (by simp)
      obtain ⟨fn, tmps, assign, body, hy, hR⟩ := hY ss (q1, q2) _ hJA hlen
      simp only [celV] at hnx hen hy
      clear s2 hit m2 hit'
      gi_wp2
      refine hR.mono ?_
      rintro e W3 (⟨rfl, hJ3, hk3⟩ | ⟨rfl, hJ3⟩)
      · have hit3 := hitA.walks hk3
        gi_wp2
        go_roundw
        case rel => exact ⟨left', _, hit3, hp3, hJ3⟩
        case measure => rw [hn1, hit3.n]; exact hmeas
      · gi_wp2
        refine bodyPost_ret (results_none rfl _ _ _) rfl ?_
        exact ⟨⟨_, rfl⟩, .inr ⟨_, trivial, hJ3⟩⟩

set_option maxHeartbeats 400000 in
theorem keysC_in (n : Nat) (mb : Option Nat) (w : World) :
    CallsIn Fence.wide n Tryz.prog 142 #[.map mb] w fun e w' => e = .returned (.func (.func 212) #[] #[.pointer (some ⟨w.heap.size, 0, none⟩)]) ∧ w' = w.alloc (.cells #[.map mb] 133) := by
  refine callsIn_of_wp Tryz.func142 rfl trivial ?_ rfl
  simp only [Tryz.ntmps142, List.size_toArray, List.length_cons, List.length_nil, Nat.reduceAdd, Nat.reduceSub, Array.replicate_succ, Array.replicate_zero, List.push_toArray, List.append_toArray, List.nil_append, List.cons_append]
  gi_wp2
  go_ret
  exact ⟨rfl, rfl⟩
end Go.Proofs.YtaiigmiiidldcaaGreatDoor

/- Package body: Of. -/
import Derived.Test.YtaiigmiiidldcaaGreatDoorQ21
set_option linter.unusedSimpArgs false
set_option linter.unusedVariables false
namespace Go.Proofs.YtaiigmiiidldcaaGreatDoor
open Go.RowKit Go.Maps
open Go.ChangeMaps (setBlock)

abbrev tInts : TypeId := 59
theorem info_int : (Tryz.prog.info? tInt).map (fun i => (i.zero, i.size, i.bytes)) = some (some (.int .i64 0), 1, 8) := by kernel_rfl

/-- The indexes of a node's blocks, in the list's order. -/
def idxOf {ν : Type} (l : List (Cel × ν)) (n : Int) : List Int := (l.filter fun p => decide (p.1.1 = n)).map fun p => p.1.2

theorem idxOf_perm {ν : Type} {l l' : List (Cel × ν)} (h : l.Perm l') (n : Int) : (idxOf l n).Perm (idxOf l' n) := (h.filter _).map _
theorem idxOf_raw {B : Bod} {raw : List (Cel × Raw)} (h : B.l = raw.map rawOf) (n : Int) : idxOf B.l n = idxOf raw n := by
  unfold idxOf
  rw [h, List.filter_map, List.map_map]
  rfl

set_option maxRecDepth 100000 in
set_option maxHeartbeats 1000000 in
theorem body_Of {w : World} {b : Nat} {B : Bod} {F : List Nat} (h : BodyRep w b B F) (n : Int) (hlen : B.l.length ≤ 1000000) :
    Calls Tryz.prog 75 #[.pointer (some ⟨b, 0, none⟩), .int .i64 n] w fun e w' => ∃ v, e = .returned v ∧ w'.ownsRow w.heap.size tInt 1 v (idxOf B.l n).length ((sortI (idxOf B.l n)).map intV) ∧ Mods [] w w' := by
  obtain ⟨ml, md, raw, b1, b2, b3, b4, b5, b6, rfl⟩ := h
  rw [idxOf_raw b4]
  have hrl : raw.length ≤ 1000000 := by rw [b4] at hlen; simpa using hlen
  obtain ⟨o, hr, hi⟩ := b2.run_range Tryz.underlying133
  obtain ⟨i0, hin, hz0, hz1, hz2⟩ := info_parts info_int
  have HIN := Lib.hid hin
  have c0 := b1.cell 0
  simp only [List.getElem?_toArray, List.getElem?_cons_zero] at c0
  have hlm := b2.lt
  clear hin b1
  go_enter Tryz.func75, Tryz.ntmps75
  go_wp2_with fail
  go_loopw [5] (fun s5 wr => ∃ (left : List (Cel × Raw)) (done : List Int), IterRep wr w.heap.size ml celV rawV left ∧ wr.ownsRow (w.heap.size + 1) tInt 1 s5 done.length (done.map intV) ∧ (done ++ idxOf left n).Perm (idxOf raw n) ∧ done.length + left.length ≤ raw.length ∧ Mods [] w wr) (fun _ wr => iterN wr w.heap.size ml)
  case atStart => exact ⟨raw, [], hi, World.ownsRow_nil _ _ _ _, List.Perm.refl _, by simp, (Mods.refl _ _).alloc _⟩
  case round =>
    obtain ⟨left, done, hit, hown, hperm, hcnt, mr⟩ := hrel
    have hl0 := hit.lt
    rcases hit.next (P := Tryz.prog) (by omega) with ⟨rfl, hnx⟩ | ⟨q, left', w2, hp, hnx, hit', hen, m2, s2⟩
    · have hs := sort_ints_own hown (by simp at hcnt; omega)
      have hcg : sortI done = sortI (idxOf raw n) := sortI_congr (by simpa [idxOf] using hperm)
      have hln : done.length = (idxOf raw n).length := by have := hperm.length_eq; simpa [idxOf] using this
      clear hit hr hi
      go_wp2_with fail
      refine hs.mono ?_
      rintro e w2 ⟨rfl, ho, hg⟩
      go_wp2_with fail
      go_ret
      rw [hcg, hln] at ho
      refine ⟨_, rfl, ownsRow_base ho (by omega), mr.grown hg (fun k hk => .inr ?_)⟩
      rcases Nat.lt_or_ge k (w.heap.size + 1) with h1 | h1
      · exact absurd hk.symm (row_ne_low hown h1)
      · omega
    · have hmeas : left'.length < left.length := by have := hp.length_eq; simp at this; omega
      have hl2 : left.length = left'.length + 1 := by have := hp.length_eq; simpa using this
      have hn1 := hit.n
      obtain ⟨⟨ci, cj⟩, rw_⟩ := q
      have mw2 : Mods [] w w2 := mr.trans m2 (by intro g hg; simp at hg; subst hg; right; omega)
      simp only [celV] at hnx hen
      have hown2 : w2.ownsRow (w.heap.size + 1) tInt 1 u5 done.length (done.map intV) := by
        refine ⟨hown.1, ?_⟩
        rcases hown.2 with h1 | ⟨g, cap, cur, e, hb, hh, r⟩
        · exact .inl h1
        · exact .inr ⟨g, cap, cur, e, hb, m2.at hh (by simp; omega), r⟩
      clear hr hi s2
      by_cases hq : ci = n
      · subst hq
        have hper2 : ((done ++ [cj]) ++ idxOf left' ci).Perm (idxOf raw ci) := by
          refine List.Perm.trans ?_ hperm
          rw [List.append_assoc]
          refine List.Perm.append_left done ?_
          have := (idxOf_perm hp ci).symm
          simpa [idxOf] using this
        have hownA := hown2.alloc (.cells #[.int .i64 ci, .int .i64 cj] tCell)
        go_wp2_with (at_builtin; refine wpList_append_lies _ rfl (Operand.tmp 20) (Operand.tmp 23) tInts rfl tInt i0 (.int .i64 0) 1 8 Tryz.underlying59 HIN.out hz0 hz1 hz2 rfl (by decide) u5 done.length (done.map intV) rfl (base := w.heap.size + 1) ?c1 ⟨w2.heap.size + 1, 0, none⟩ 1 1 [.int .i64 cj] rfl rfl ?c6 ?c7 (by decide) ?c8 ?c9 ?c10 _ rfl ?_; rotate_right; intro g cap w3 hown3 hgr hat hlt3; have ym := (mw2.alloc (.cells #[.int .i64 ci, .int .i64 cj] tCell)).row hownA hgr (by omega))
        case c1 => exact hownA.alloc _
        case c6 =>
          have := cell_one_new (w2.alloc (.cells #[.int .i64 ci, .int .i64 cj] tCell)) (.int .i64 cj) tInt
          rw [World.size_alloc] at this
          exact this
        case c7 =>
          intro u hu
          obtain rfl := List.mem_singleton.1 hu
          rfl
        case c8 => unfold maxLen; omega
        case c9 => omega
        case c10 => have := mw2.size; have := m2.size; simp; omega
        have hit3 : IterRep w3 w.heap.size ml celV rawV left' := by
          refine (hit'.mods (((Mods.refl [] w2).alloc (.cells #[.int .i64 ci, .int .i64 cj] tCell)).alloc (.cells #[.int .i64 cj] tInt)) (by simp) (by simp)).mods (F := u5.ownBlock.toList) ((Mods.refl _ _).grown hgr (fun k hk => .inl (by simp [hk]))) ?_ ?_
          · intro hg; have := row_ne_low hown2 (b := w.heap.size) (by omega); simp at hg; exact this hg.symm
          · intro hg; have := row_ne_low hown2 (b := ml) (by omega); simp at hg; exact this hg.symm
        go_roundw
        case rel => exact ⟨left', done ++ [cj], hit3, by simpa [intV] using hown3, hper2, by simp; omega, ym⟩
        case measure => rw [hn1, hit3.n]; exact hmeas
      · have hq' : (ci == n) = false := by simpa using hq
        have hper2 : (done ++ idxOf left' n).Perm (idxOf raw n) := by
          refine List.Perm.trans (List.Perm.append_left done ?_) hperm
          have := (idxOf_perm hp n).symm
          simpa [idxOf, hq] using this
        clear hq
        go_wp2_with fail
        go_roundw
        case rel => exact ⟨left', done, hit'.mods ((Mods.refl [] _).alloc _) (by simp) (by simp), hown2.alloc _, hper2, by omega, mw2.alloc _⟩
        case measure =>
          have := (hit'.mods ((Mods.refl [] w2).alloc (.cells #[.int .i64 ci, .int .i64 cj] tCell)) (by simp) (by simp)).n
          rw [hn1, this]; exact hmeas
end Go.Proofs.YtaiigmiiidldcaaGreatDoor

/- Rows that a call grows by append: what they leave as it was; Package path: the loop of Parse. -/
import Derived.Deep.AppendLies
import Derived.Sort.OwnSorted
import Derived.Test.YtaiigmiiidldcaaGreatDoorQ11
set_option linter.unusedSimpArgs false
set_option linter.unusedVariables false
namespace Go.Proofs.YtaiigmiiidldcaaGreatDoor
open Go.RowKit Go.Maps
open Go.ChangeMaps (setBlock)

section
variable {w w' a : World} {base : Nat} {e : TypeId} {size : Nat} {v : Value} {n : Nat} {xs : List Value} {F : List Nat}

theorem Mods.row (h : Mods F a w) (hown : w.ownsRow base e size v n xs) {o : Obj} (hg : (w.alloc o).grownBy w' v.ownBlock) (hb : a.heap.size ≤ base) : Mods F a w' :=
  (h.alloc o).grown hg (fun k hk => .inr (by
    rcases Nat.lt_or_ge k base with hlt | hge
    · exact absurd hk.symm (row_ne_low hown hlt)
    · omega))

theorem Blk.row {g : Nat} {t : TypeId} {cs : Array Value} (h : Blk w g t cs) (hown : w.ownsRow base e size v n xs) {o : Obj} (hg : (w.alloc o).grownBy w' v.ownBlock) (hb : g < base) : Blk w' g t cs :=
  (hg.block g (h.alloc o).lt (row_ne_low hown hb)).trans (h.alloc o)

theorem ownsRow_far (h : w.ownsRow base e size v n xs) {p : Addr} (hp : p.block < base) (u : Value) : (w.setCell p u).ownsRow base e size v n xs := ownsRow_setCell_below h hp u
end
end Go.Proofs.YtaiigmiiidldcaaGreatDoor

namespace Go.Proofs.YtaiigmiiidldcaaGreatDoor
open Go.RowKit Go.Maps
open Go.ChangeMaps (setBlock)

theorem last_get {s : ByteArray} (h : 0 < s.size) : s[s.size - 1] = lastB s := by
  obtain ⟨⟨l⟩⟩ := s
  have hl : l ≠ [] := by rintro rfl; exact absurd h (by decide)
  show l[l.length - 1]'(by have := List.length_pos_iff.2 hl; omega) = l.getLastD 0
  rw [← List.getLast_eq_getElem hl]
  cases l with
  | nil => exact absurd rfl hl
  | cons a l => rfl

theorem Strs.own_mods {w w' : World} {v : Value} {base : Nat} {l : List ByteArray} (h : w.ownsRow base tStr 1 v l.length (l.map strV)) {F : List Nat} (m : Mods F w w') (hF : ∀ g ∈ F, g < base) : Strs w' v l := by
  rcases h.2 with ⟨rfl, h0⟩ | ⟨g, cap, cur, rfl, hg0, hh, h1, h2⟩
  · exact Strs.of_own (base := base) ⟨h.1, .inl ⟨rfl, h0⟩⟩
  · refine Strs.of_own (base := base) ⟨h.1, .inr ⟨g, cap, cur, rfl, hg0, m.at hh (fun hf => by have := hF g hf; omega), h1, h2⟩⟩

set_option maxRecDepth 100000 in
set_option maxHeartbeats 2000000 in
theorem parse_loop {B0 : Nat} {A : Nat → Addr} {L : List Nat} {w : World} (G : Glob B0 A L w) {m : Int} (hm : w.cell? ⟨25, 0, none⟩ = some (.int .i64 m)) (s : ByteArray) (hne : s ≠ ByteArray.empty) (hs : s.size ≤ 256) (hh : s.data.toList.headD 0 = 47) (h0 : 0 ∉ s.data.toList) :
    Calls Tryz.prog 131 #[.string s] w fun e w' => ∃ v, e = .returned (.tuple #[.agg #[v, .bool (parse s).2.slash], errV eT A (parse s).1]) ∧ Strs w' v (parse s).2.parts ∧ Mods [] w w' := by
  have e1 := isEmpty_of_ne hne
  have hpos : 0 < s.size := by
    rcases Nat.eq_zero_or_pos s.size with h | h
    · exact absurd (ByteArray.ext (by apply Array.eq_empty_of_size_eq_zero; exact h)) hne
    · exact h
  have e2 : (((s[0]).toNat : Int) != 47) = false := by
    rw [head_get hpos, hh]
    rfl
  have hc := contains_no s 0 h0
  have lt25 := G.lt 25 (by decide)
  have hsp := fun (w' : World) (h : w'.cell? ⟨25, 0, none⟩ = some (.int .i64 m)) => split_slash s hs h
  have hmm : ∀ o o', ((w.alloc o).alloc o').cell? ⟨25, 0, none⟩ = some (.int .i64 m) := fun o o' => by
    rw [World.cell?_alloc_lt _ _ _ (by simp; omega), World.cell?_alloc_lt _ _ _ (by simpa using lt25), hm]
  have hparse : ∀ R, partsOf (segs s) [] = R → parse s = match R with
    | none => (115, ⟨[], false⟩)
    | some l => (0, ⟨l, decide (l ≠ []) && decide (lastB s = 47)⟩) := by
    rintro _ rfl
    unfold parse
    rw [if_neg hne, if_neg (by omega), if_neg (fun h => h.elim (fun h => h hh) (fun h => h0 h))]
    rfl
  have HP := Lib.hid hparse
  have hbd : (segs s).length ≤ 257 := by
    rw [segs_length]
    have := Lib.countB_le slashB (by decide) s.size s (Nat.le_refl _)
    omega
  obtain ⟨i0, hi, hz0, hz1, hz2⟩ := info_parts info_str
  obtain ⟨R, hR⟩ : ∃ R, partsOf (segs s) [] = R := ⟨_, rfl⟩
  clear hne hh h0 hparse
  go_enter Tryz.func131, Tryz.ntmps131
  go_wp2_with fail
  refine (hc _).mono ?_
  rintro e w' ⟨rfl, rfl⟩
  go_wp2_with fail
  refine (hsp _ (hmm _ _)).mono ?_
  rintro e w' ⟨rfl, rfl⟩
  clear hsp hmm hc
  go_wp2_with fail
  go_loopw [31] (fun i wr => ∃ (k : Nat) (v : Value) (acc : List ByteArray), k ≤ (segs s).length ∧ i = .int .i64 k ∧ Blk wr (w.heap.size + 1) tPath #[v, .bool false] ∧ Blk wr w.heap.size tPath #[.slice none 0 0, .bool false] ∧ Blk wr (w.heap.size + 1 + 1) tStr ((segs s).map Value.string).toArray ∧ wr.ownsRow (w.heap.size + 1 + 1 + 1) tStr 1 v acc.length (acc.map strV) ∧ partsOf ((segs s).drop k) acc = R ∧ acc.length ≤ k ∧ Mods [] w wr) (fun i _ => (segs s).length - (intOf i).toNat)
  case atStart =>
    refine ⟨0, .slice none 0 0, [], Nat.zero_le _, rfl, ?_, ?_, ?_, ?_, hR, Nat.le_refl _, (((Mods.refl _ _).alloc _).alloc _).alloc _⟩
    · have := (Blk.new (w.alloc (.cells #[.slice none 0 0, .bool false] tPath)) tPath #[.slice none 0 0, .bool false]).alloc (.cells ((segs s).map Value.string).toArray tStr)
      simpa using this
    · exact ((Blk.new w tPath #[.slice none 0 0, .bool false]).alloc _).alloc _
    · have := Blk.new ((w.alloc (.cells #[.slice none 0 0, .bool false] tPath)).alloc (.cells #[.slice none 0 0, .bool false] tPath)) tStr ((segs s).map Value.string).toArray
      simpa using this
    · exact World.ownsRow_nil _ _ _ _
  case round =>
    obtain ⟨k, v, acc, hk, rfl, b1, b2, b3, hown, hrel, hacc, mr⟩ := hrel
    have lr := b3.lt
    have G1 := G.mods0 mr
    clear G
    by_cases hlt : k < (segs s).length
    · obtain ⟨x, hx⟩ : ∃ x, (segs s)[k]? = some x := ⟨_, List.getElem?_eq_getElem hlt⟩
      have hcell := b3.cell k
      simp only [List.getElem?_toArray, List.getElem?_map, hx, Option.map_some] at hcell
      have hdrop : (segs s).drop k = x :: (segs s).drop (k + 1) := by
        rw [List.drop_eq_getElem_cons hlt]
        rw [List.getElem?_eq_getElem hlt] at hx
        cases hx
        rfl
      rw [hdrop] at hrel
      by_cases hx0 : x = ByteArray.empty ∨ x = dotB
      · rw [partsOf, if_pos hx0] at hrel
        have HR := Lib.hid hrel
        clear hrel hdrop hx hi
        rcases hx0 with rfl | rfl
        · go_wp2_with fail
          go_roundw
          case rel => exact ⟨k + 1, v, acc, by omega, by go_num, b1, b2, b3, hown, HR.out, by omega, mr⟩
          case measure => simp [intOf]; omega
        · have f1 : ((⟨#[46]⟩ : ByteArray).toList).isEmpty = false := by rw [show (⟨#[46]⟩ : ByteArray).toList = [46] from toList_mk [46]]; rfl
          simp only [dotB] at hcell
          go_wp2_with fail
          go_roundw
          case rel => exact ⟨k + 1, v, acc, by omega, by go_num, b1, b2, b3, hown, HR.out, by omega, mr⟩
          case measure => simp [intOf]; omega
      · have f1 := isEmpty_of_ne (t := x) (fun e => hx0 (.inl e))
        have f2 : (x.toList == [46]) = false := by
          have := bne_of_ne (s := x) (t := dotB) (fun e => hx0 (.inr e))
          rwa [show dotB.toList = [46] from toList_mk [46]] at this
        have f3 : ¬ x.toList = [46] := by intro e; rw [e] at f2; simp at f2
        by_cases hlong : 24 < x.size
        · rw [partsOf, if_neg hx0, if_pos hlong] at hrel
          have g1 : wr.cell? ⟨12, 0, none⟩ = _ := G1.cell 115 (G1.core _ (by decide))
          have g2 := G1.lt 12 (by decide)
          have hps := HP.out _ hR
          rw [← hrel] at hps
          simp only at hps
          have HS := Lib.hid hps
          have c0 := b2.cell 0
          have c1 := b2.cell 1
          simp at c0 c1
          have fr := b2.frozen
          clear hx0 hdrop hx hi G1 hrel hps
          go_wp2_with fail
          go_region
          go_wp2_with fail
          have q1 := (b2.set_ 0 (.slice none 0 0)).set_ 1 (.bool false)
          simp only [List.setIfInBounds_toArray, List.set_cons_zero, List.set_cons_succ] at q1
          have ld := run_loadVar_row (P := Tryz.prog) _ w.heap.size tPath 203 _ (0, 0) _ q1.drew Tryz.underlying203 rfl (by kernel_rfl)
          refine bodyPost_ret (v := .tuple #[.agg #[.slice none 0 0, .bool false], .iface eT (.pointer (some (A 115)))]) (by simp [results, Tryz.results131, asAddr, ld]) rfl ⟨.slice none 0 0, ?_, ?_, ?_⟩
          · rw [HS.out, errV_pos eT A (c := 115) (by decide)]
          · rw [HS.out]
            exact Strs.of_own (base := 0) (World.ownsRow_nil _ _ _ _)
          · exact ((mr.setCell (.inr (by simp)) _).setCell (.inr (by simp)) _).drew
        · rw [partsOf, if_neg hx0, if_neg hlong] at hrel
          have HR := Lib.hid hrel
          have c0 := b1.cell 0
          simp at c0
          have lt2 := b1.lt
          clear hx0 hdrop hx G1 hrel hR
          go_wp2_with (at_builtin; refine wpList_append_lies _ rfl (Operand.tmp 36) (Operand.tmp 38) tStrs rfl tStr i0 (.string ByteArray.empty) 1 16 Tryz.underlying62 hi hz0 hz1 hz2 rfl (by decide) v acc.length (acc.map strV) rfl (base := w.heap.size + 1 + 1 + 1) ?c1 ⟨wr.heap.size, 0, none⟩ 1 1 [.string x] rfl rfl (cell_one_new _ _ _) ?c7 (by decide) ?c8 ?c9 ?c10 _ rfl ?_; rotate_right; intro g cap w1 hown1 hgr hat hlt1; have y1 := b1.row hown hgr (by omega); have y2 := b2.row hown hgr (by omega); have y3 := b3.row hown hgr (by omega); have ym := mr.row hown hgr (by omega); have fr := y1.frozen; have q0 := y1.cell 0; have ylt := y1.lt; simp only [List.getElem?_toArray, List.getElem?_cons_zero] at q0)
          case c1 => exact hown.alloc _
          case c7 =>
            intro u hu
            obtain rfl := List.mem_singleton.1 hu
            rfl
          case c8 => unfold maxLen; omega
          case c9 => omega
          case c10 => simp; omega
          go_roundw
          case rel =>
            refine ⟨k + 1, .slice (some ⟨g, 0, none⟩) (acc.length + 1) cap, acc ++ [x], by omega, by go_num, ?_, y2.far (by simp) _, y3.far (by simp) _, ?_, HR.out, by simp; omega, ym.setCell (.inr (by simp)) _⟩
            · have := y1.set_ 0 (.slice (some ⟨g, 0, none⟩) (acc.length + 1) cap)
              simpa using this
            · have := ownsRow_far hown1 (p := ⟨w.heap.size + 1, 0, none⟩) (by simp) (.slice (some ⟨g, 0, none⟩) (acc.length + 1) cap)
              simpa [strV] using this
          case measure => simp [intOf]; omega
    · have hkk : k = (segs s).length := by omega
      subst hkk
      rw [List.drop_length, partsOf] at hrel
      have hps := HP.out _ hR
      rw [← hrel] at hps
      simp only at hps
      have HS := Lib.hid hps
      have e3 : (((s[s.size - 1]).toNat : Int) == 47) = decide (lastB s = 47) := by
        rw [last_get hpos]
        by_cases he : lastB s = 47
        · rw [he]; rfl
        · rw [decide_eq_false he, beq_eq_false_iff_ne]
          intro e
          exact he (by apply UInt8.toNat_inj.1; show _ = 47; omega)
      have fr := b1.frozen
      have fr2 := b2.frozen
      have c0 := b1.cell 0
      have c1 := b1.cell 1
      simp at c0 c1
      have d0 := b2.cell 0
      have d1 := b2.cell 1
      simp at d0 d1
      clear hR hrel hps hi HP
      by_cases hacc0 : acc = []
      · subst hacc0
        obtain ⟨A', c', rfl⟩ : ∃ A' c', v = .slice A' 0 c' := by
          rcases hown.2 with ⟨e, _⟩ | ⟨g, cap, cur, e, _⟩
          · exact ⟨_, _, e⟩
          · exact ⟨_, _, e⟩
        go_wp2_with fail
        have q1 := (((b2.far (p := ⟨w.heap.size + 1, 1, none⟩) (by simp) (.bool false)).set_ 0 (.slice A' 0 c')).set_ 1 (.bool false))
        simp only [List.setIfInBounds_toArray, List.set_cons_zero, List.set_cons_succ] at q1
        have ld := run_loadVar_row (P := Tryz.prog) _ w.heap.size tPath 203 _ (0, 0) _ q1 Tryz.underlying203 rfl (by kernel_rfl)
        have mm := ((((Mods.refl [w.heap.size, w.heap.size + 1] wr).setCell (p := ⟨w.heap.size + 1, 1, none⟩) (.inl (by simp)) (.bool false)).setCell (p := ⟨w.heap.size, 0, none⟩) (.inl (by simp)) (.slice A' 0 c')).setCell (p := ⟨w.heap.size, 1, none⟩) (.inl (by simp)) (.bool false))
        refine bodyPost_ret (v := .tuple #[.agg #[.slice A' 0 c', .bool false], .nilIface]) (by simp [results, Tryz.results131, asAddr, ld]) rfl ⟨.slice A' 0 c', ?_, ?_, ?_⟩
        · rw [HS.out]
          rfl
        · rw [HS.out]
          exact Strs.own_mods (l := []) hown mm (by intro y hy; simp at hy; omega)
        · exact mr.trans mm (by intro y hy; simp at hy; right; omega)
      · obtain ⟨g, cap, rfl, hg1, hg2⟩ := hown.form (List.length_pos_iff.2 hacc0)
        have hapos : 0 < acc.length := List.length_pos_iff.2 hacc0
        go_wp2_with fail
        have q1 := (((b2.far (p := ⟨w.heap.size + 1, 1, none⟩) (by simp) (.bool (decide (lastB s = 47)))).set_ 0 (.slice (some ⟨g, 0, none⟩) acc.length cap)).set_ 1 (.bool (decide (lastB s = 47))))
        simp only [List.setIfInBounds_toArray, List.set_cons_zero, List.set_cons_succ] at q1
        have ld := run_loadVar_row (P := Tryz.prog) _ w.heap.size tPath 203 _ (0, 0) _ q1 Tryz.underlying203 rfl (by kernel_rfl)
        have mm := ((((Mods.refl [w.heap.size, w.heap.size + 1] wr).setCell (p := ⟨w.heap.size + 1, 1, none⟩) (.inl (by simp)) (.bool (decide (lastB s = 47)))).setCell (p := ⟨w.heap.size, 0, none⟩) (.inl (by simp)) (.slice (some ⟨g, 0, none⟩) acc.length cap)).setCell (p := ⟨w.heap.size, 1, none⟩) (.inl (by simp)) (.bool (decide (lastB s = 47))))
        refine bodyPost_ret (v := .tuple #[.agg #[.slice (some ⟨g, 0, none⟩) acc.length cap, .bool (decide (lastB s = 47))], .nilIface]) (by simp [results, Tryz.results131, asAddr, ld]) rfl ⟨.slice (some ⟨g, 0, none⟩) acc.length cap, ?_, ?_, ?_⟩
        · rw [HS.out]
          simp [hacc0, errV]
        · rw [HS.out]
          exact Strs.own_mods hown mm (by intro y hy; simp at hy; omega)
        · exact mr.trans mm (by intro y hy; simp at hy; right; omega)

/-- A cell known to hold a number (bytealg.MaxLen). -/
def MaxCell (w : World) : Prop := ∃ m, w.cell? ⟨25, 0, none⟩ = some (.int .i64 m)

theorem path_Parse {B0 : Nat} {A : Nat → Addr} {L : List Nat} {w : World} (G : Glob B0 A L w) (hm : MaxCell w) (s : ByteArray) :
    Calls Tryz.prog 131 #[.string s] w fun e w' => ∃ v, e = .returned (.tuple #[.agg #[v, .bool (parse s).2.slash], errV eT A (parse s).1]) ∧ Strs w' v (parse s).2.parts ∧ Mods [] w w' := by
  obtain ⟨m, hm⟩ := hm
  have nilS : ∀ w' : World, Strs w' (.slice none 0 0) [] := fun w' => Strs.of_own (base := 0) (World.ownsRow_nil _ _ _ _)
  by_cases hne : s = ByteArray.empty
  · subst hne
    refine (parse_empty G).mono ?_
    rintro e w' ⟨rfl, m1⟩
    exact ⟨_, rfl, nilS _, m1⟩
  by_cases hs : s.size ≤ 256
  · by_cases hh : s.data.toList.headD 0 = 47
    · by_cases h0 : 0 ∈ s.data.toList
      · have hp : parse s = (114, ⟨[], false⟩) := by
          unfold parse
          rw [if_neg hne, if_neg (by omega), if_pos (.inr h0)]
        rw [hp]
        refine (parse_nul G s hne hs hh h0).mono ?_
        rintro e w' ⟨rfl, m1⟩
        exact ⟨_, rfl, nilS _, m1⟩
      · exact parse_loop G hm s hne hs hh h0
    · have hp : parse s = (114, ⟨[], false⟩) := by
        unfold parse
        rw [if_neg hne, if_neg (by omega), if_pos (.inl hh)]
      rw [hp]
      refine (parse_noslash G s hne hs hh).mono ?_
      rintro e w' ⟨rfl, m1⟩
      exact ⟨_, rfl, nilS _, m1⟩
  · have hp : parse s = (115, ⟨[], false⟩) := by
      unfold parse
      rw [if_neg hne, if_pos (by omega)]
    rw [hp]
    refine (parse_long G s (by omega)).mono ?_
    rintro e w' ⟨rfl, m1⟩
    exact ⟨_, rfl, nilS _, m1⟩
end Go.Proofs.YtaiigmiiidldcaaGreatDoor

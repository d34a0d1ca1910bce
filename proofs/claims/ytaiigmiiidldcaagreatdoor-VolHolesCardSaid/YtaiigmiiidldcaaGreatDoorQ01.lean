/- What a call leaves as it was, and maps that read as lists of pairs: laws over any program; A Go map that reads as a list of pairs (in whatever order the entries lie): look up, store, delete, length, and a range over it. Laws over any program; The plain words: nodes, entries, errors as codes; nothing of any program. -/
import Derived.WalkKit
import Derived.WalkSpells
import Derived.WalkLawsBesides
import Derived.Maps.RangeWalk
import Derived.Maps.OwnOps
import Derived.Lib.Hide
set_option linter.unusedSimpArgs false
set_option linter.unusedVariables false
namespace Go.Proofs.YtaiigmiiidldcaaGreatDoor
open Go.RowKit Go.Maps
open Go.ChangeMaps (setBlock)

/-! ### Mods: only the blocks of F, and new ones, have turned -/

structure Mods (F : List Nat) (w w' : World) : Prop where
  os : w'.os = w.os
  tape : w'.tape = w.tape
  output : w'.output = w.output
  size : w.heap.size ≤ w'.heap.size
  block : ∀ k, k < w.heap.size → k ∉ F → w'.heap[k]? = w.heap[k]?

theorem Mods.refl (F : List Nat) (w : World) : Mods F w w := ⟨rfl, rfl, rfl, Nat.le_refl _, fun _ _ _ => rfl⟩

theorem Mods.trans {F G : List Nat} {a b c : World} (h : Mods F a b) (k : Mods G b c) (hG : ∀ g ∈ G, g ∈ F ∨ a.heap.size ≤ g) : Mods F a c :=
  ⟨k.os.trans h.os, k.tape.trans h.tape, k.output.trans h.output, Nat.le_trans h.size k.size, fun i hi hn => by
    rw [k.block i (Nat.lt_of_lt_of_le hi h.size) (fun hg => by rcases hG i hg with h1 | h1
                                                               · exact hn h1
                                                               · omega), h.block i hi hn]⟩

theorem Mods.mono {F G : List Nat} {a b : World} (h : Mods F a b) (hs : ∀ g ∈ F, g ∈ G) : Mods G a b :=
  ⟨h.os, h.tape, h.output, h.size, fun i hi hn => h.block i hi (fun hf => hn (hs i hf))⟩

theorem Mods.of_nil {G : List Nat} {a b : World} (h : Mods [] a b) : Mods G a b := h.mono (fun _ h => by cases h)

theorem Mods.then {F : List Nat} {a b c : World} (h : Mods F a b) (k : Mods [] b c) : Mods F a c := h.trans k (fun _ h => by cases h)

theorem Mods.drew {F : List Nat} {a w : World} (h : Mods F a w) : Mods F a w.drew := ⟨h.os, h.tape, h.output, h.size, h.block⟩
theorem Mods.drewN {F : List Nat} {a w : World} (h : Mods F a w) (n : Nat) : Mods F a (w.drewN n) := ⟨h.os, h.tape, h.output, h.size, h.block⟩

theorem Mods.alloc {F : List Nat} {a w : World} (h : Mods F a w) (o : Obj) : Mods F a (w.alloc o) :=
  h.trans (G := []) ⟨rfl, rfl, rfl, by simp, fun k hk _ => Below.heap_alloc _ _ _ hk⟩ (fun _ h => by cases h)

theorem Mods.setCell {F : List Nat} {a w : World} (h : Mods F a w) {p : Addr} (hp : p.block ∈ F ∨ a.heap.size ≤ p.block) (u : Value) : Mods F a (w.setCell p u) :=
  h.trans (G := [p.block]) ⟨rfl, rfl, rfl, by simp [World.setCell], fun k hk hn => Below.heap_setCell _ _ _ _ (by simpa using hn)⟩ (fun g hg => by
    obtain rfl := List.mem_singleton.1 hg
    exact hp)

theorem Mods.setBlock {F : List Nat} {a w : World} (h : Mods F a w) {r : Nat} (hp : r ∈ F ∨ a.heap.size ≤ r) (o : Obj) : Mods F a (setBlock w r o) :=
  h.trans (G := [r]) ⟨rfl, rfl, rfl, by simp [ChangeMaps.setBlock], fun k hk hn => by
      have : r ≠ k := fun e => hn (by simp [e])
      simp [ChangeMaps.setBlock, Array.getElem?_setIfInBounds, this]⟩ (fun g hg => by
    obtain rfl := List.mem_singleton.1 hg
    exact hp)

theorem Mods.grown {F : List Nat} {a w w' : World} {row : Option Nat} (h : Mods F a w) (hg : w.grownBy w' row) (hr : ∀ k, row = some k → k ∈ F ∨ a.heap.size ≤ k) : Mods F a w' :=
  h.trans (G := row.toList) ⟨hg.os, hg.tape, hg.output, hg.size, fun i hi hn => hg.block i hi (fun e => hn (by simp [← e]))⟩ (fun g hg => by
    cases row with
    | none => cases hg
    | some x =>
      obtain rfl := List.mem_singleton.1 hg
      exact hr _ rfl)

theorem Mods.below {a w : World} (h : Mods [] a w) : Below a.heap.size a w := ⟨h.os, h.tape, h.output, h.size, fun k hk => h.block k hk (by simp)⟩
theorem Mods.of_below {F : List Nat} {a w : World} (h : Below a.heap.size a w) : Mods F a w := ⟨h.os, h.tape, h.output, h.size, fun k hk _ => h.block k hk⟩
theorem Mods.of_grown {a w : World} (h : a.grownBy w none) : Mods [] a w := (Mods.refl _ _).grown h (by simp)

theorem Mods.at {F : List Nat} {w w' : World} (h : Mods F w w') {g : Nat} {o : Obj} (ho : w.heap[g]? = some o) (hn : g ∉ F) : w'.heap[g]? = some o := by
  have hlt : g < w.heap.size := by
    rcases Nat.lt_or_ge g w.heap.size with h1 | h1
    · exact h1
    · rw [Array.getElem?_eq_none h1] at ho; cases ho
  rw [h.block g hlt hn, ho]

theorem lt_of_heap {w : World} {g : Nat} {o : Obj} (ho : w.heap[g]? = some o) : g < w.heap.size := by
  rcases Nat.lt_or_ge g w.heap.size with h1 | h1
  · exact h1
  · rw [Array.getElem?_eq_none h1] at ho; cases ho

/-- F' lies in F or is new. -/
def Within (w : World) (F F' : List Nat) : Prop := ∀ g ∈ F', g ∈ F ∨ w.heap.size ≤ g

theorem Within.refl (w : World) (F : List Nat) : Within w F F := fun _ h => .inl h
theorem Within.trans {w w1 : World} {F G H : List Nat} (h : Within w F G) (k : Within w1 G H) (hs : w.heap.size ≤ w1.heap.size) : Within w F H := fun g hg => by
  rcases k g hg with h1 | h1
  · exact h g h1
  · exact .inr (Nat.le_trans hs h1)
theorem Mods.seq {F G : List Nat} {a b c : World} (h : Mods F a b) (hw : Within a F G) (k : Mods G b c) : Mods F a c := h.trans k hw

/-! ### A block of cells known whole -/

def Blk (w : World) (g : Nat) (t : TypeId) (cs : Array Value) : Prop := w.heap[g]? = some (.cells cs t (0, 0))

section
variable {w w' : World} {g : Nat} {t : TypeId} {cs : Array Value}
theorem Blk.lt (h : Blk w g t cs) : g < w.heap.size := lt_of_heap h
theorem Blk.cell (h : Blk w g t cs) (i : Nat) : w.cell? ⟨g, i, none⟩ = cs[i]? := cell_of_row w g i cs t (0, 0) h
theorem Blk.frozen (h : Blk w g t cs) (i : Nat) : w.frozen? ⟨g, i, none⟩ = false := by
  unfold Blk at h
  simp [World.frozen?, h]
theorem Blk.new (w : World) (t : TypeId) (cs : Array Value) : Blk (w.alloc (.cells cs t)) w.heap.size t cs := Go.heap_alloc_new w _
theorem Blk.drew (h : Blk w g t cs) : Blk w.drew g t cs := h
theorem Blk.drewN (h : Blk w g t cs) (n : Nat) : Blk (w.drewN n) g t cs := h
theorem Blk.alloc (h : Blk w g t cs) (o : Obj) : Blk (w.alloc o) g t cs := (Below.heap_alloc w o g h.lt).trans h
theorem Blk.set_ (h : Blk w g t cs) (i : Nat) (u : Value) : Blk (w.setCell ⟨g, i, none⟩ u) g t (cs.setIfInBounds i u) := by
  unfold Blk at h ⊢
  simp [World.setCell, Array.getElem?_modify, h]
theorem Blk.far (h : Blk w g t cs) {p : Addr} (hp : g ≠ p.block) (u : Value) : Blk (w.setCell p u) g t cs := (Below.heap_setCell w p u g hp).trans h
theorem Blk.mods {F : List Nat} (h : Blk w g t cs) (hm : Mods F w w') (hn : g ∉ F) : Blk w' g t cs := hm.at h hn
theorem Blk.setBlock {r : Nat} (h : Blk w g t cs) (hp : g ≠ r) (o : Obj) : Blk (setBlock w r o) g t cs := by
  unfold Blk at h ⊢
  rw [← h]
  simp [ChangeMaps.setBlock, Array.getElem?_setIfInBounds, Ne.symm hp]
theorem Blk.ne_ {g' : Nat} {t' : TypeId} {cs' : Array Value} (h : Blk w g t cs) (h' : Blk w g' t' cs') (hne : t ≠ t') : g ≠ g' := by
  rintro rfl
  unfold Blk at h h'
  rw [h] at h'
  injection h' with h'
  injection h' with _ ht
  exact hne ht
end

end Go.Proofs.YtaiigmiiidldcaaGreatDoor

namespace Go.Proofs.YtaiigmiiidldcaaGreatDoor
open Go.RowKit Go.Maps
open Go.ChangeMaps (setBlock)

/-! ### assoc lists -/
section
variable {κ ν : Type} [DecidableEq κ]

def aGet : List (κ × ν) → κ → Option ν
  | [], _ => none
  | (a, v) :: l, k => if a = k then some v else aGet l k

def aPut : List (κ × ν) → κ → ν → List (κ × ν)
  | [], k, v => [(k, v)]
  | (a, u) :: l, k, v => if a = k then (a, v) :: l else (a, u) :: aPut l k v

def aDel : List (κ × ν) → κ → List (κ × ν)
  | [], _ => []
  | (a, u) :: l, k => if a = k then l else (a, u) :: aDel l k

theorem aGet_mem {l : List (κ × ν)} {k : κ} {v : ν} (h : aGet l k = some v) : (k, v) ∈ l := by
  induction l with
  | nil => cases h
  | cons x l ih =>
    obtain ⟨a, u⟩ := x
    simp only [aGet] at h
    split at h
    · rename_i e; subst e; cases h; simp
    · exact List.mem_cons_of_mem _ (ih h)

theorem aGet_none {l : List (κ × ν)} {k : κ} : aGet l k = none ↔ ∀ p ∈ l, p.1 ≠ k := by
  induction l with
  | nil => simp [aGet]
  | cons x l ih =>
    obtain ⟨a, u⟩ := x
    simp only [aGet]
    split
    · rename_i e; subst e; simp
    · rename_i e; simp [ih, e]

theorem aGet_of_mem {l : List (κ × ν)} (hn : (l.map (·.1)).Nodup) {k : κ} {v : ν} (h : (k, v) ∈ l) : aGet l k = some v := by
  induction l with
  | nil => cases h
  | cons x l ih =>
    obtain ⟨a, u⟩ := x
    have hn' := List.nodup_cons.1 hn
    simp only [aGet]
    rcases List.mem_cons.1 h with e | h1
    · cases e; simp
    · have : a ≠ k := fun e => hn'.1 (by subst e; exact List.mem_map.2 ⟨_, h1, rfl⟩)
      rw [if_neg this]
      exact ih hn'.2 h1

theorem aGet_perm {l l' : List (κ × ν)} (hp : l.Perm l') (hn : (l.map (·.1)).Nodup) (k : κ) : aGet l k = aGet l' k := by
  have hn' : (l'.map (·.1)).Nodup := (hp.map _).nodup_iff.1 hn
  cases h : aGet l' k with
  | some v => exact aGet_of_mem hn (hp.mem_iff.2 (aGet_mem h))
  | none => exact aGet_none.2 fun p hp' => aGet_none.1 h p (hp.mem_iff.1 hp')

theorem aPut_keys {l : List (κ × ν)} {k : κ} {v : ν} : (aPut l k v).map (·.1) = if (aGet l k).isSome then l.map (·.1) else l.map (·.1) ++ [k] := by
  induction l with
  | nil => simp [aPut, aGet]
  | cons x l ih =>
    obtain ⟨a, u⟩ := x
    simp only [aPut, aGet]
    split
    · simp
    · simp only [List.map_cons, ih]
      split <;> simp

theorem aPut_nodup {l : List (κ × ν)} {k : κ} {v : ν} (hn : (l.map (·.1)).Nodup) : ((aPut l k v).map (·.1)).Nodup := by
  rw [aPut_keys]
  split
  · exact hn
  · rename_i h
    refine List.nodup_append.2 ⟨hn, by simp, ?_⟩
    intro a ha b hb
    simp at hb; subst hb
    rintro rfl
    obtain ⟨p, hp, rfl⟩ := List.mem_map.1 ha
    exact h (by rw [aGet_of_mem hn hp]; rfl)

theorem aGet_aPut {l : List (κ × ν)} {k j : κ} {v : ν} : aGet (aPut l k v) j = if j = k then some v else aGet l j := by
  induction l with
  | nil => by_cases h : k = j <;> simp [aPut, aGet, h, eq_comm]
  | cons x l ih =>
    obtain ⟨a, u⟩ := x
    simp only [aPut]
    split
    · rename_i e; subst e
      by_cases h : j = a <;> simp [aGet, h, eq_comm]
    · rename_i e
      simp only [aGet, ih]
      by_cases h : j = k
      · subst h; simp [e]
      · simp [h]

theorem aDel_keys {l : List (κ × ν)} {k : κ} (hn : (l.map (·.1)).Nodup) : (aDel l k) = l.filter (fun p => decide (p.1 ≠ k)) := by
  induction l with
  | nil => rfl
  | cons x l ih =>
    obtain ⟨a, u⟩ := x
    have hn' := List.nodup_cons.1 hn
    simp only [aDel]
    split
    · rename_i e; subst e
      rw [List.filter_cons]
      simp only [ne_eq, not_true_eq_false, decide_false, Bool.false_eq_true, if_false]
      refine (List.filter_eq_self.2 fun p hp => ?_).symm
      simp
      rintro rfl
      exact hn'.1 (List.mem_map.2 ⟨p, hp, rfl⟩)
    · rename_i e
      rw [List.filter_cons, ih hn'.2]
      simp [e]

theorem aDel_nodup {l : List (κ × ν)} {k : κ} (hn : (l.map (·.1)).Nodup) : ((aDel l k).map (·.1)).Nodup := by
  rw [aDel_keys hn]
  exact hn.sublist (List.filter_sublist.map _)

theorem aGet_aDel {l : List (κ × ν)} {k j : κ} (hn : (l.map (·.1)).Nodup) : aGet (aDel l k) j = if j = k then none else aGet l j := by
  induction l with
  | nil => simp [aDel, aGet]
  | cons x l ih =>
    obtain ⟨a, u⟩ := x
    have hn' := List.nodup_cons.1 hn
    simp only [aDel]
    split
    · rename_i e; subst e
      by_cases h : j = a
      · subst h
        simp only [if_true]
        exact aGet_none.2 fun p hp e => hn'.1 (List.mem_map.2 ⟨p, hp, e⟩)
      · simp [aGet, h, Ne.symm h]
    · rename_i e
      simp only [aGet, ih hn'.2]
      by_cases h : j = k
      · subst h; simp [e]
      · simp [h]

theorem aGet_length {l : List (κ × ν)} {k : κ} {v : ν} : (aPut l k v).length = if (aGet l k).isSome then l.length else l.length + 1 := by
  have := congrArg List.length (aPut_keys (l := l) (k := k) (v := v))
  split at this <;> rename_i h <;> simp [h] at this ⊢ <;> exact this

theorem aPut_mem {l : List (κ × ν)} {k : κ} {v : ν} {p : κ × ν} (h : p ∈ aPut l k v) : p ∈ l ∨ p = (k, v) := by
  induction l with
  | nil => simp [aPut] at h; exact .inr h
  | cons x l ih =>
    obtain ⟨a, u⟩ := x
    simp only [aPut] at h
    split at h
    · rename_i e; subst e
      rcases List.mem_cons.1 h with h | h
      · exact .inr h
      · exact .inl (List.mem_cons_of_mem _ h)
    · rcases List.mem_cons.1 h with h | h
      · subst h; exact .inl (by simp)
      · rcases ih h with h | h
        · exact .inl (List.mem_cons_of_mem _ h)
        · exact .inr h

theorem aDel_mem {l : List (κ × ν)} {k : κ} {p : κ × ν} (h : p ∈ aDel l k) : p ∈ l := by
  induction l with
  | nil => exact h
  | cons x l ih =>
    obtain ⟨a, u⟩ := x
    simp only [aDel] at h
    split at h
    · exact List.mem_cons_of_mem _ h
    · rcases List.mem_cons.1 h with h | h
      · subst h; simp
      · exact List.mem_cons_of_mem _ (ih h)

theorem aDel_none {l : List (κ × ν)} {k : κ} (h : aGet l k = none) : aDel l k = l := by
  induction l with
  | nil => rfl
  | cons x l ih =>
    obtain ⟨a, u⟩ := x
    simp only [aGet] at h
    split at h
    · cases h
    · rename_i e; simp only [aDel, if_neg e, ih h]

/-- On lists that are permutations of each other, put and del are. -/
theorem aPut_perm {l l' : List (κ × ν)} (hp : l.Perm l') (hn : (l.map (·.1)).Nodup) (k : κ) (v : ν) : (aPut l k v).Perm (aPut l' k v) := by
  have hn' : (l'.map (·.1)).Nodup := (hp.map _).nodup_iff.1 hn
  have key : ∀ (m : List (κ × ν)), (m.map (·.1)).Nodup → (aPut m k v).Perm ((k, v) :: m.filter (fun p => decide (p.1 ≠ k))) := by
    intro m hm
    induction m with
    | nil => simp [aPut]
    | cons x m ih =>
      obtain ⟨a, u⟩ := x
      have hm' := List.nodup_cons.1 hm
      simp only [aPut]
      split
      · rename_i e; subst e
        rw [List.filter_cons]
        simp only [ne_eq, not_true_eq_false, decide_false, Bool.false_eq_true, if_false]
        rw [List.filter_eq_self.2 fun p hp => ?_]
        simp
        rintro rfl
        exact hm'.1 (List.mem_map.2 ⟨p, hp, rfl⟩)
      · rename_i e
        rw [List.filter_cons]
        simp only [ne_eq, e, not_false_eq_true, decide_true, if_true]
        exact ((ih hm'.2).cons _).trans (List.Perm.swap _ _ _)
  exact (key l hn).trans (((hp.filter _).cons _).trans (key l' hn').symm)

theorem aDel_perm {l l' : List (κ × ν)} (hp : l.Perm l') (hn : (l.map (·.1)).Nodup) (k : κ) : (aDel l k).Perm (aDel l' k) := by
  have hn' : (l'.map (·.1)).Nodup := (hp.map _).nodup_iff.1 hn
  rw [aDel_keys hn, aDel_keys hn']
  exact hp.filter _
end

/-! ### A key's encoding -/

/-- Keys of type K, written 'ek x' where 'ok x'. -/
structure KeyEnc (P : Program) (K : TypeId) {κ : Type} (ek : κ → Value) (ok : κ → Prop) : Prop where
  keyed : Keyed P K
  inj : ∀ a b, ek a = ek b → a = b
  of : ∀ a, ok a → ∃ l, keyOf P K (ek a) = some l

/-- Block r is a map whose entries are, in some order, those of l. -/
structure MapRep {κ ν : Type} (w : World) (r : Nat) (ek : κ → Value) (ev : ν → Value) (ok : κ → Prop) (l : List (κ × ν)) : Prop where
  oks : ∀ p ∈ l, ok p.1
  nodup : (l.map (·.1)).Nodup
  ex : ∃ es clock, w.heap[r]? = some (.map es clock) ∧ (es.toList.map fun e => (e.key, e.val)).Perm (l.map fun p => (ek p.1, ev p.2)) ∧ (es.toList.map (·.born)).Nodup ∧ ∀ e ∈ es.toList, e.born < clock

section
variable {κ ν : Type} {P : Program} {w w' : World} {r : Nat} {K : TypeId} {ek : κ → Value} {ev : ν → Value} {ok : κ → Prop} {l : List (κ × ν)}

theorem MapRep.lt (h : MapRep w r ek ev ok l) : r < w.heap.size := by
  obtain ⟨_, _, hb, _⟩ := h.ex
  exact lt_of_heap hb

theorem MapRep.mods {F : List Nat} (h : MapRep w r ek ev ok l) (hm : Mods F w w') (hn : r ∉ F) : MapRep w' r ek ev ok l := by
  obtain ⟨es, clock, hb, h1⟩ := h.ex
  exact ⟨h.oks, h.nodup, es, clock, hm.at hb hn, h1⟩

theorem MapRep.alloc (h : MapRep w r ek ev ok l) (o : Obj) : MapRep (w.alloc o) r ek ev ok l := h.mods ((Mods.refl [] w).alloc o) (by simp)
theorem MapRep.drew (h : MapRep w r ek ev ok l) : MapRep w.drew r ek ev ok l := ⟨h.oks, h.nodup, h.ex⟩
theorem MapRep.setCell (h : MapRep w r ek ev ok l) {p : Addr} (hp : p.block ≠ r) (u : Value) : MapRep (w.setCell p u) r ek ev ok l :=
  h.mods ((Mods.refl [p.block] w).setCell (by simp) u) (by simpa using Ne.symm hp)

theorem MapRep.ne_blk {g : Nat} {t : TypeId} {cs : Array Value} (h : MapRep w r ek ev ok l) (hb : Blk w g t cs) : g ≠ r := by
  rintro rfl
  obtain ⟨_, _, h1, _⟩ := h.ex
  unfold Blk at hb
  rw [hb] at h1
  cases h1

theorem MapRep.perm (h : MapRep w r ek ev ok l) {l' : List (κ × ν)} (hp : l.Perm l') : MapRep w r ek ev ok l' := by
  obtain ⟨es, clock, hb, h1, h2⟩ := h.ex
  exact ⟨fun p hp' => h.oks p (hp.mem_iff.2 hp'), (hp.map _).nodup_iff.1 h.nodup, es, clock, hb, h1.trans (hp.map _), h2⟩

theorem MapRep.new (w : World) (ek : κ → Value) (ev : ν → Value) (ok : κ → Prop) : MapRep (w.alloc (.map #[] 0)) w.heap.size ek ev ok [] :=
  ⟨by simp, by simp, #[], 0, Go.heap_alloc_new w _, by simp, by simp, by simp⟩

theorem MapRep.size (h : MapRep w r ek ev ok l) {es : Array MapEntry} {clock : Nat} (hb : w.heap[r]? = some (.map es clock)) : es.size = l.length := by
  obtain ⟨es', clock', hb', h1, _⟩ := h.ex
  rw [hb'] at hb
  cases hb
  have := h1.length_eq
  simpa using this

/-- What an entry among es at a key is. -/
theorem MapRep.find [DecidableEq κ] (h : MapRep w r ek ev ok l) (E : KeyEnc P K ek ok) {k : κ} (hk : ok k) :
    ∃ es clock, w.heap[r]? = some (.map es clock) ∧ (∀ em, (Instr.checkKey em 10000 K (ek k)).run P w = .ok () w) ∧
      (((Instr.findKey K (ek k) es.toList).run P w = .ok none w ∧ aGet l k = none ∧ ∀ e ∈ es.toList, e.key ≠ ek k) ∨
       ∃ j e v, (Instr.findKey K (ek k) es.toList).run P w = .ok (some (j, e.val)) w ∧ es.toList[j]? = some e ∧ e.key = ek k ∧ e.val = ev v ∧ aGet l k = some v) := by
  obtain ⟨es, clock, hb, hp, hn, hc⟩ := h.ex
  obtain ⟨kl, hkl⟩ := E.of k hk
  refine ⟨es, clock, hb, fun em => E.keyed.check w em hkl, ?_⟩
  have hes : ∀ e ∈ es.toList, ∃ p ∈ l, e.key = ek p.1 ∧ e.val = ev p.2 := by
    intro e he
    have hm : (e.key, e.val) ∈ l.map fun p => (ek p.1, ev p.2) := hp.mem_iff.1 (List.mem_map.2 ⟨e, he, rfl⟩)
    obtain ⟨p, hp1, hp2⟩ := List.mem_map.1 hm
    simp only [Prod.mk.injEq] at hp2
    exact ⟨p, hp1, hp2.1.symm, hp2.2.symm⟩
  rcases E.keyed.find w hkl es.toList (fun e he => by
    obtain ⟨p, hp1, h1, _⟩ := hes e he
    rw [h1]
    exact E.of _ (h.oks p hp1)) with ⟨h1, h2⟩ | ⟨j, e, h1, h2, h3⟩
  · refine .inl ⟨h1, ?_, h2⟩
    refine aGet_none.2 fun p hp1 e => ?_
    have hm : (ek p.1, ev p.2) ∈ es.toList.map fun e => (e.key, e.val) := hp.mem_iff.2 (List.mem_map.2 ⟨p, hp1, rfl⟩)
    obtain ⟨x, hx, hx2⟩ := List.mem_map.1 hm
    simp only [Prod.mk.injEq] at hx2
    exact h2 x hx (by rw [hx2.1, e])
  · obtain ⟨p, hp1, hp2, hp3⟩ := hes e (List.mem_of_getElem? h2)
    have hpk : p.1 = k := E.inj _ _ (hp2.symm.trans h3)
    exact .inr ⟨j, e, p.2, h1, h2, h3, hp3, aGet_of_mem h.nodup (by rw [← hpk]; exact hp1)⟩

theorem MapRep.run_lookup [DecidableEq κ] (h : MapRep w r ek ev ok l) (E : KeyEnc P K ek ok) {t e : TypeId} (ht : P.underlying t = some (.map K e)) {z : Value} (hz : (zeroValue e).run P w = .ok z w) {k : κ} (hk : ok k) (c : Bool) :
    (Instr.lookup t (.map (some r)) (ek k) c).run P w = .ok (match aGet l k with
      | some v => if c then .tuple #[ev v, .bool true] else ev v
      | none => if c then .tuple #[z, .bool false] else z) w := by
  obtain ⟨es, clock, hb, hck, h1 | h1⟩ := h.find E hk
  · obtain ⟨h1, h2, _⟩ := h1
    rw [h2]
    cases c <;> simp [Instr.lookup, run_underlying ht, MapKept.run_getObj_map hb, hck, h1, hz, Result.andThen]
  · obtain ⟨j, e0, v, h1, _, _, h4, h5⟩ := h1
    rw [h5]
    cases c <;> simp [Instr.lookup, run_underlying ht, MapKept.run_getObj_map hb, hck, h1, h4, Result.andThen]

theorem run_lookup_nil {P : Program} {w : World} {t K e : TypeId} {ek : κ → Value} {ok : κ → Prop} (E : KeyEnc P K ek ok) (ht : P.underlying t = some (.map K e)) {z : Value} (hz : (zeroValue e).run P w = .ok z w) {k : κ} (hk : ok k) (c : Bool) :
    (Instr.lookup t (.map none) (ek k) c).run P w = .ok (if c then .tuple #[z, .bool false] else z) w := by
  obtain ⟨kl, hkl⟩ := E.of k hk
  have hck := E.keyed.check w true hkl
  rcases E.keyed.find w hkl [] (by simp) with ⟨h1, _⟩ | ⟨j, e0, _, h2, _⟩
  · cases c <;> simp [Instr.lookup, run_underlying ht, hck, h1, hz, Result.andThen]
  · simp at h2

theorem MapRep.run_len (h : MapRep w r ek ev ok l) {t K e ty : TypeId} (ht : P.underlying t = some (.map K e)) :
    (Builtin.len_ #[t] ty #[.map (some r)]).run P w = .ok (.int .i64 l.length) w := by
  obtain ⟨es, clock, hb, _⟩ := h.ex
  have hs := h.size hb
  simp [Builtin.len_, run_underlying ht, MapKept.run_getObj_map hb, Result.andThen, goInt, hs]

theorem nodup_born_push {es : List MapEntry} {clock : Nat} {k v : Value} (hn : (es.map (·.born)).Nodup) (hc : ∀ e ∈ es, e.born < clock) : ((es ++ [({ key := k, val := v, born := clock } : MapEntry)]).map (·.born)).Nodup := by
  rw [List.map_append]
  refine List.nodup_append.2 ⟨hn, by simp, ?_⟩
  intro a ha b hb
  simp at hb
  subst hb
  obtain ⟨e, he, rfl⟩ := List.mem_map.1 ha
  have := hc e he
  omega

theorem map_kv_modify (es : List MapEntry) (j : Nat) (e : MapEntry) (k v : Value) (he : es[j]? = some e) :
    (es.modify j fun e => { e with key := k, val := v }).map (fun e => (e.key, e.val)) = (es.map (fun e => (e.key, e.val))).set j (k, v) := by
  apply List.ext_getElem?
  intro i
  simp only [List.getElem?_map, List.getElem?_modify, List.getElem?_set, List.length_map]
  by_cases h : j = i
  · subst h
    have hj := (List.getElem?_eq_some_iff.1 he).1
    simp [he, hj]
  · simp [h]

theorem aPut_set_perm [DecidableEq κ] {L : List (Value × Value)} {l : List (κ × ν)} (hn : (l.map (·.1)).Nodup) (hinj : ∀ a b, ek a = ek b → a = b)
    (hp : L.Perm (l.map fun p => (ek p.1, ev p.2))) {j : Nat} {k : κ} {x : Value} (hj : L[j]? = some (ek k, x)) (v : ν) (hg : ∃ u, aGet l k = some u) :
    (L.set j (ek k, ev v)).Perm ((aPut l k v).map fun p => (ek p.1, ev p.2)) := by
  have hjl := (List.getElem?_eq_some_iff.1 hj).1
  have hLk : (L.map (·.1)).Nodup := by
    have := hp.map (·.1)
    refine this.nodup_iff.2 ?_
    rw [List.map_map]
    have : ((fun x : Value × Value => x.1) ∘ fun p : κ × ν => (ek p.1, ev p.2)) = ek ∘ (·.1) := rfl
    rw [this, ← List.map_map]
    exact (List.pairwise_map.2 (hn.imp fun h e => h (hinj _ _ e)))
  -- both are (ek k, ev v) ahead of those at other keys
  obtain ⟨A, B, hL, hA⟩ : ∃ A B, L = A ++ (ek k, x) :: B ∧ A.length = j := by
    refine ⟨L.take j, L.drop (j + 1), ?_, by simp; omega⟩
    have h1 : L[j] = (ek k, x) := (List.getElem?_eq_some_iff.1 hj).2
    rw [← h1, List.getElem_cons_drop, List.take_append_drop]
  subst hL
  have hset : (A ++ (ek k, x) :: B).set j (ek k, ev v) = A ++ (ek k, ev v) :: B := by
    rw [← hA]; simp
  rw [hset]
  have hput := aPut_perm (List.Perm.refl l) hn k v
  -- split l at k
  obtain ⟨u, hu⟩ := hg
  have hmem := aGet_mem hu
  obtain ⟨C, D, rfl⟩ := List.append_of_mem hmem
  have hCk : ∀ p ∈ C, p.1 ≠ k := by
    intro p hp' e
    rw [List.map_append, List.nodup_append] at hn
    exact hn.2.2 p.1 (List.mem_map.2 ⟨p, hp', rfl⟩) k (by simp) e
  have hputeq : aPut (C ++ (k, u) :: D) k v = C ++ (k, v) :: D := by
    clear hput hu hmem hn hp
    induction C with
    | nil => simp [aPut]
    | cons y C ih =>
      obtain ⟨a, b⟩ := y
      have : a ≠ k := hCk (a, b) (by simp)
      simp only [List.cons_append, aPut, if_neg this]
      rw [ih (fun p hp => hCk p (by simp [hp]))]
  rw [hputeq]
  have h1 : (A ++ B).Perm ((C ++ D).map fun p => (ek p.1, ev p.2)) := by
    have h2 : ((ek k, x) :: (A ++ B)).Perm ((ek k, ev u) :: ((C ++ D).map fun p => (ek p.1, ev p.2))) := by
      refine (List.perm_middle.symm.trans hp).trans ?_
      simp only [List.map_append, List.map_cons]
      exact List.perm_middle
    have hx : x = ev u := by
      have hm : (ek k, x) ∈ ((ek k, ev u) :: ((C ++ D).map fun p => (ek p.1, ev p.2))) := h2.mem_iff.1 (by simp)
      rcases List.mem_cons.1 hm with h3 | h3
      · simpa using h3
      · obtain ⟨p, hp1, hp2⟩ := List.mem_map.1 h3
        simp only [Prod.mk.injEq] at hp2
        have : p.1 = k := hinj _ _ hp2.1
        exfalso
        rw [List.map_append, List.map_cons, List.nodup_append] at hn
        rcases List.mem_append.1 hp1 with h4 | h4
        · exact hCk p h4 this
        · exact (List.nodup_cons.1 hn.2.1).1 (List.mem_map.2 ⟨p, h4, this⟩)
    subst hx
    exact List.Perm.cons_inv h2
  refine List.perm_middle.trans ?_
  simp only [List.map_append, List.map_cons]
  refine List.Perm.trans ?_ List.perm_middle.symm
  rw [← List.map_append]
  exact h1.cons _

theorem aPut_append [DecidableEq κ] {l : List (κ × ν)} {k : κ} (h : aGet l k = none) (v : ν) : aPut l k v = l ++ [(k, v)] := by
  induction l with
  | nil => rfl
  | cons x l ih =>
    obtain ⟨a, u⟩ := x
    simp only [aGet] at h
    split at h
    · cases h
    · rename_i e; simp only [aPut, if_neg e, ih h, List.cons_append]

/-- 'm[k] = v'. -/
theorem MapRep.run_update [DecidableEq κ] (h : MapRep w r ek ev ok l) (E : KeyEnc P K ek ok) {t e : TypeId} (ht : P.underlying t = some (.map K e)) {k : κ} (hk : ok k) (v : ν) :
    ∃ o, (Instr.mapUpdate t (.map (some r)) (ek k) (ev v)).run P w = .ok () (setBlock w r o) ∧ MapRep (setBlock w r o) r ek ev ok (aPut l k v) := by
  have hlt := h.lt
  obtain ⟨es, clock, hb, hp, hn, hc⟩ := h.ex
  obtain ⟨es', clock', hb', hck, h1 | h1⟩ := h.find E hk
  · rw [hb] at hb'
    cases hb'
    obtain ⟨h1, h2, h3⟩ := h1
    refine ⟨.map (es.push ⟨ek k, ev v, clock⟩) (clock + 1), ?_, ?_, aPut_nodup h.nodup, es.push ⟨ek k, ev v, clock⟩, clock + 1, ?_, ?_, ?_, ?_⟩
    · simp [Instr.mapUpdate, run_underlying ht, MapKept.run_getObj_map hb, hck, h1, MapKept.run_setObj_map _ hb, Result.andThen, setBlock]
    · intro p hp'
      rcases aPut_mem hp' with h' | rfl
      · exact h.oks p h'
      · exact hk
    · simp [setBlock, hlt]
    · rw [aPut_append h2, Array.toList_push, List.map_append, List.map_append]
      exact hp.append (by simp)
    · rw [Array.toList_push]; exact nodup_born_push hn hc
    · intro e he
      rw [Array.toList_push] at he
      rcases List.mem_append.1 he with h' | h'
      · have := hc e h'; omega
      · simp at h'; subst h'; simp
  · rw [hb] at hb'
    cases hb'
    obtain ⟨j, e0, u, h1, h2, h3, h4, h5⟩ := h1
    obtain ⟨kl, hkl⟩ := E.of k hk
    have hst := E.keyed.stays w hkl
    have hk2 : (es[j]?).map (·.key) = some (ek k) := by
      have : es[j]? = some e0 := by simpa using h2
      rw [this]; simp [h3]
    refine ⟨.map (es.modify j fun e => { e with key := ek k, val := ev v }) clock, ?_, ?_, aPut_nodup h.nodup, es.modify j (fun e => { e with key := ek k, val := ev v }), clock, ?_, ?_, ?_, ?_⟩
    · simp [Instr.mapUpdate, run_underlying ht, MapKept.run_getObj_map hb, hck, h1, MapKept.run_setObj_map _ hb, Result.andThen, setBlock, hk2, hst]
    · intro p hp'
      rcases aPut_mem hp' with h' | rfl
      · exact h.oks p h'
      · exact hk
    · simp [setBlock, hlt]
    · rw [Array.toList_modify, map_kv_modify _ j e0 _ _ h2]
      refine aPut_set_perm h.nodup E.inj hp (x := e0.val) ?_ v ⟨u, h5⟩
      rw [List.getElem?_map, h2]; simp [h3]
    · have : (es.modify j fun e => { e with key := ek k, val := ev v }).toList.map (·.born) = es.toList.map (·.born) := by
        rw [Array.toList_modify]
        apply List.ext_getElem?
        intro i
        simp only [List.getElem?_map, List.getElem?_modify]
        by_cases hi : j = i
        · subst hi; cases es.toList[j]? <;> simp
        · simp [hi]
      rw [this]; exact hn
    · intro e he
      rw [Array.toList_modify] at he
      obtain ⟨i, hi⟩ := List.getElem?_of_mem he
      rw [List.getElem?_modify] at hi
      cases hx : es.toList[i]? with
      | none => simp [hx] at hi
      | some y =>
        simp [hx] at hi
        have := hc y (List.mem_of_getElem? hx)
        subst hi
        split <;> exact this

/-- The same, the new world behind a name. -/
theorem MapRep.update [DecidableEq κ] (h : MapRep w r ek ev ok l) (E : KeyEnc P K ek ok) {t e : TypeId} (ht : P.underlying t = some (.map K e)) {k : κ} (hk : ok k) (v : ν) :
    ∃ w1, (Instr.mapUpdate t (.map (some r)) (ek k) (ev v)).run P w = .ok () w1 ∧ Mods [r] w w1 ∧ w1.heap.size = w.heap.size ∧ MapRep w1 r ek ev ok (aPut l k v) := by
  obtain ⟨o, h1, h2⟩ := h.run_update E ht hk v
  exact ⟨_, h1, (Mods.refl _ _).setBlock (by simp) _, by simp [setBlock], h2⟩

theorem aDel_perm_erase [DecidableEq κ] {L : List (Value × Value)} {l : List (κ × ν)} (hn : (l.map (·.1)).Nodup) (hinj : ∀ a b, ek a = ek b → a = b)
    (hp : L.Perm (l.map fun p => (ek p.1, ev p.2))) {j : Nat} {k : κ} {u : ν} (hj : L[j]? = some (ek k, ev u)) (hg : aGet l k = some u) :
    (L.eraseIdx j).Perm ((aDel l k).map fun p => (ek p.1, ev p.2)) := by
  obtain ⟨A, B, hL, hA⟩ : ∃ A B, L = A ++ (ek k, ev u) :: B ∧ A.length = j := by
    have hjl := (List.getElem?_eq_some_iff.1 hj).1
    refine ⟨L.take j, L.drop (j + 1), ?_, by simp; omega⟩
    have h1 : L[j] = (ek k, ev u) := (List.getElem?_eq_some_iff.1 hj).2
    rw [← h1, List.getElem_cons_drop, List.take_append_drop]
  subst hL
  have he : (A ++ (ek k, ev u) :: B).eraseIdx j = A ++ B := by
    rw [← hA, List.eraseIdx_append_of_length_le (Nat.le_refl _)]; simp
  rw [he]
  obtain ⟨C, D, rfl⟩ := List.append_of_mem (aGet_mem hg)
  have hCk : ∀ p ∈ C, p.1 ≠ k := by
    intro p hp' e
    rw [List.map_append, List.nodup_append] at hn
    exact hn.2.2 p.1 (List.mem_map.2 ⟨p, hp', rfl⟩) k (by simp) e
  have hdel : aDel (C ++ (k, u) :: D) k = C ++ D := by
    clear hn hp hg hj
    induction C with
    | nil => simp [aDel]
    | cons y C ih =>
      obtain ⟨a, b⟩ := y
      have : a ≠ k := hCk (a, b) (by simp)
      simp only [List.cons_append, aDel, if_neg this]
      rw [ih (fun p hp => hCk p (by simp [hp]))]
  rw [hdel]
  have h2 : ((ek k, ev u) :: (A ++ B)).Perm ((ek k, ev u) :: ((C ++ D).map fun p => (ek p.1, ev p.2))) := by
    refine (List.perm_middle.symm.trans hp).trans ?_
    simp only [List.map_append, List.map_cons]
    exact List.perm_middle
  exact List.Perm.cons_inv h2

/-- 'delete(m, k)'. -/
theorem MapRep.run_delete [DecidableEq κ] (h : MapRep w r ek ev ok l) (E : KeyEnc P K ek ok) {t e kt ty : TypeId} (ht : P.underlying t = some (.map K e)) {k : κ} (hk : ok k) :
    ∃ o, (Builtin.delete_ #[t, kt] ty #[.map (some r), ek k]).run P w = .ok (.tuple #[]) (setBlock w r o) ∧ MapRep (setBlock w r o) r ek ev ok (aDel l k) := by
  have hlt := h.lt
  obtain ⟨es, clock, hb, hp, hn, hc⟩ := h.ex
  obtain ⟨es', clock', hb', hck, h1 | h1⟩ := h.find E hk
  · rw [hb] at hb'
    cases hb'
    obtain ⟨h1, h2, h3⟩ := h1
    refine ⟨.map es clock, ?_, fun p hp' => h.oks p (aDel_mem hp'), aDel_nodup h.nodup, es, clock, ?_, ?_, hn, hc⟩
    · simp [Builtin.delete_, run_underlying ht, MapKept.run_getObj_map hb, hck, h1, MapKept.run_setObj_map _ hb, Result.andThen, setBlock]
    · simp [setBlock, hlt]
    · rw [aDel_none h2]; exact hp
  · rw [hb] at hb'
    cases hb'
    obtain ⟨j, e0, u, h1, h2, h3, h4, h5⟩ := h1
    have hjl := (List.getElem?_eq_some_iff.1 h2).1
    have hsub : (es.eraseIdxIfInBounds j).toList = es.toList.eraseIdx j := by simp
    refine ⟨.map (es.eraseIdxIfInBounds j) clock, ?_, fun p hp' => h.oks p (aDel_mem hp'), aDel_nodup h.nodup, es.eraseIdxIfInBounds j, clock, ?_, ?_, ?_, ?_⟩
    · simp [Builtin.delete_, run_underlying ht, MapKept.run_getObj_map hb, hck, h1, MapKept.run_setObj_map _ hb, Result.andThen, setBlock]
    · simp [setBlock, hlt]
    · rw [hsub, ChangeMaps.map_eraseIdx]
      refine aDel_perm_erase h.nodup E.inj hp (u := u) ?_ h5
      rw [List.getElem?_map, h2]; simp [h3, h4]
    · rw [hsub]; exact hn.sublist ((List.eraseIdx_sublist _ _).map _)
    · intro e he
      rw [hsub] at he
      exact hc e ((List.eraseIdx_sublist _ _).mem he)

theorem MapRep.delete [DecidableEq κ] (h : MapRep w r ek ev ok l) (E : KeyEnc P K ek ok) {t e : TypeId} (ht : P.underlying t = some (.map K e)) {k : κ} (hk : ok k) :
    ∃ w1, (∀ kt ty, (Builtin.delete_ #[t, kt] ty #[.map (some r), ek k]).run P w = .ok (.tuple #[]) w1) ∧ Mods [r] w w1 ∧ w1.heap.size = w.heap.size ∧ MapRep w1 r ek ev ok (aDel l k) := by
  obtain ⟨o, h1, h2⟩ := h.run_delete (kt := 0) (ty := 0) E ht hk
  refine ⟨_, fun kt ty => ?_, (Mods.refl _ _).setBlock (by simp) o, by simp [setBlock], h2⟩
  exact h1

theorem run_delete_nil' {P : Program} {w : World} {t K e kt ty : TypeId} {ek : κ → Value} {ok : κ → Prop} (E : KeyEnc P K ek ok) (ht : P.underlying t = some (.map K e)) {k : κ} (hk : ok k) :
    (Builtin.delete_ #[t, kt] ty #[.map none, ek k]).run P w = .ok (.tuple #[]) w := by
  obtain ⟨kl, hkl⟩ := E.of k hk
  simp [Builtin.delete_, run_underlying ht, E.keyed.check w true hkl, Result.andThen]


/-! ### A range over a map that its rounds leave as it is -/

/-- Block it is an iterator over the map in block r; 'left' is still to come. -/
def IterRep (w : World) (it r : Nat) (ek : κ → Value) (ev : ν → Value) (left : List (κ × ν)) : Prop :=
  ∃ es clock since seen c0, w.heap[it]? = some (.mapIter (some r) since seen c0) ∧ w.heap[r]? = some (.map es clock) ∧ (∀ e ∈ es.toList, e.born < since) ∧ (since ≤ c0 ∧ since ≤ clock) ∧ (es.toList.map (·.born)).Nodup ∧
    ((es.toList.filter fun e => !seen.contains e.born).map fun e => (e.key, e.val)).Perm (left.map fun p => (ek p.1, ev p.2))

theorem IterRep.mods {it : Nat} {left : List (κ × ν)} {F : List Nat} (h : IterRep w it r ek ev left) (hm : Mods F w w') (h1 : it ∉ F) (h2 : r ∉ F) : IterRep w' it r ek ev left := by
  obtain ⟨es, clock, since, seen, c0, ha, hb, hc⟩ := h
  exact ⟨es, clock, since, seen, c0, hm.at ha h1, hm.at hb h2, hc⟩

theorem IterRep.perm {it : Nat} {left left' : List (κ × ν)} (h : IterRep w it r ek ev left) (hp : left.Perm left') : IterRep w it r ek ev left' := by
  obtain ⟨es, clock, since, seen, c0, ha, hb, h1, h2, h3, h4⟩ := h
  exact ⟨es, clock, since, seen, c0, ha, hb, h1, h2, h3, h4.trans (hp.map _)⟩

theorem MapRep.run_range (h : MapRep w r ek ev ok l) {t K e : TypeId} (ht : P.underlying t = some (.map K e)) :
    ∃ o, (Instr.range t (.map (some r))).run P w = .ok (.pointer (some ⟨w.heap.size, 0, none⟩)) (w.alloc o) ∧ IterRep (w.alloc o) w.heap.size r ek ev l := by
  have hlt := h.lt
  obtain ⟨es, clock, hb, hp, hn, hc⟩ := h.ex
  refine ⟨_, run_range_map w t K e r es clock ht hb, es, clock, clock, #[], clock, Go.heap_alloc_new w _, ?_, hc, ⟨Nat.le_refl _, Nat.le_refl _⟩, hn, ?_⟩
  · rw [Go.heap_alloc_old w _ hlt, hb]
  · have : (es.toList.filter fun e => !(#[] : Array Nat).contains e.born) = es.toList := List.filter_eq_self.2 fun e _ => by simp
    rw [this]; exact hp

theorem filter_push_seen (es : List MapEntry) (seen : Array Nat) (e : MapEntry) (he : e ∈ es) (hs : seen.contains e.born = false) (hn : (es.map (·.born)).Nodup) :
    (es.filter fun x => !seen.contains x.born).Perm (e :: es.filter fun x => !(seen.push e.born).contains x.born) := by
  induction es with
  | nil => cases he
  | cons x es ih =>
    have hn' := List.nodup_cons.1 hn
    rw [List.filter_cons, List.filter_cons]
    rcases List.mem_cons.1 he with rfl | h
    · have h1 : (!(seen.push e.born).contains e.born) = false := by simp
      rw [h1]
      simp only [hs, Bool.not_false, if_true, Bool.false_eq_true, if_false]
      have : es.filter (fun x => !seen.contains x.born) = es.filter (fun x => !(seen.push e.born).contains x.born) := by
        refine List.filter_congr fun y hy => ?_
        have hne : y.born ≠ e.born := fun e1 => hn'.1 (by show e.born ∈ _; rw [← e1]; exact List.mem_map.2 ⟨y, hy, rfl⟩)
        simp [hne]
      rw [this]
    · have hne : x.born ≠ e.born := fun e1 => hn'.1 (by show x.born ∈ _; rw [e1]; exact List.mem_map.2 ⟨e, h, rfl⟩)
      have h1 : (!(seen.push e.born).contains x.born) = !seen.contains x.born := by simp [hne]
      rw [h1]
      cases hx : !seen.contains x.born
      · simpa using ih h hn'.2
      · simp only [if_true]
        exact ((ih h hn'.2).cons x).trans (List.Perm.swap _ _ _)

theorem IterRep.run_next {it : Nat} {left : List (κ × ν)} (h : IterRep w it r ek ev left) (hne : it ≠ r) (ty : TypeId) :
    (left = [] ∧ (Instr.next (.pointer (some ⟨it, 0, none⟩)) false ty).run P w = .ok (.tuple #[.bool false]) w) ∨
    ∃ p left' w1 o, left.Perm (p :: left') ∧ (w1 = w ∨ w1 = w.drew) ∧ (Instr.next (.pointer (some ⟨it, 0, none⟩)) false ty).run P w = .ok (.tuple #[.bool true, ek p.1, ev p.2]) (setBlock w1 it o) ∧
      IterRep (setBlock w1 it o) it r ek ev left' ∧ (Instr.entry (.pointer (some ⟨it, 0, none⟩))).run P (setBlock w1 it o) = .ok (.tuple #[ek p.1, ev p.2]) (setBlock w1 it o) := by
  obtain ⟨es, clock, since, seen, c0, ha, hb, h1, h2, h3, h4⟩ := h
  rcases run_next_at (P := P) w ty it r since c0 seen es clock ha hb h1 h2.1 with ⟨h5, h6⟩ | ⟨e, he, w1, hw1, h6⟩
  · refine .inl ⟨?_, h6⟩
    have h7 : (es.toList.filter fun e => !seen.contains e.born) = [] := by
      have : (leftOf es seen).toList = [] := by
        apply List.eq_nil_of_length_eq_zero
        simpa using h5
      unfold leftOf at this
      rwa [Array.toList_filter] at this
    rw [h7] at h4
    have := h4.length_eq
    simp at this
    exact List.eq_nil_of_length_eq_zero this.symm
  · have he' : e ∈ es.toList.filter fun e => !seen.contains e.born := by
      unfold leftOf at he
      rwa [Array.toList_filter] at he
    have hes : e ∈ es.toList := (List.mem_filter.1 he').1
    have hsn : seen.contains e.born = false := by simpa using (List.mem_filter.1 he').2
    have hperm := filter_push_seen es.toList seen e hes hsn h3
    have hmem : (e.key, e.val) ∈ left.map fun p => (ek p.1, ev p.2) := h4.mem_iff.1 (List.mem_map.2 ⟨e, he', rfl⟩)
    obtain ⟨p, hp1, hp2⟩ := List.mem_map.1 hmem
    simp only [Prod.mk.injEq] at hp2
    obtain ⟨A, B, rfl⟩ := List.append_of_mem hp1
    have hw : w1.heap = w.heap := by rcases hw1 with rfl | rfl <;> rfl
    have hlt : it < w.heap.size := lt_of_heap ha
    have ha' : (setBlock w1 it (.mapIter (some r) since (seen.push e.born) clock)).heap[it]? = some (.mapIter (some r) since (seen.push e.born) clock) := by
      simp [setBlock, hw, hlt]
    have hb' : (setBlock w1 it (.mapIter (some r) since (seen.push e.born) clock)).heap[r]? = some (.map es clock) := by
      simp [setBlock, hw, hne, hb]
    refine .inr ⟨p, A ++ B, w1, _, List.perm_middle, hw1, by rw [hp2.1, hp2.2]; exact h6, ⟨es, clock, since, seen.push e.born, clock, ha', hb', h1, ⟨h2.2, h2.2⟩, h3, ?_⟩, by rw [hp2.1, hp2.2]; exact run_entry_at _ it r since seen es clock e ha' hb' hes h3⟩
    · have h7 := (hperm.map fun e => (e.key, e.val)).symm.trans h4
      simp only [List.map_cons] at h7
      have h8 : ((ek p.1, ev p.2) :: (es.toList.filter fun x => !(seen.push e.born).contains x.born).map fun e => (e.key, e.val)).Perm ((ek p.1, ev p.2) :: (A ++ B).map fun p => (ek p.1, ev p.2)) := by
        have h9 : ((A ++ p :: B).map fun p => (ek p.1, ev p.2)).Perm ((ek p.1, ev p.2) :: (A ++ B).map fun p => (ek p.1, ev p.2)) := by
          simp only [List.map_append, List.map_cons]
          exact List.perm_middle
        rw [hp2.1, hp2.2]
        rw [hp2.1, hp2.2] at h9
        exact h7.trans h9
      exact List.Perm.cons_inv h8


/-- How many entries an iterator has still to hand out. -/
def iterN (w : World) (it r : Nat) : Nat := match w.heap[it]?, w.heap[r]? with
  | some (.mapIter _ _ seen _), some (.map es _) => (es.toList.filter fun e => !seen.contains e.born).length
  | _, _ => 0

theorem IterRep.n {it : Nat} {left : List (κ × ν)} (h : IterRep w it r ek ev left) : iterN w it r = left.length := by
  obtain ⟨es, clock, since, seen, c0, ha, hb, h1, h2, h3, h4⟩ := h
  unfold iterN
  rw [ha, hb]
  have := h4.length_eq
  simpa using this

theorem IterRep.lt {it : Nat} {left : List (κ × ν)} (h : IterRep w it r ek ev left) : it < w.heap.size ∧ r < w.heap.size := by
  obtain ⟨es, clock, since, seen, c0, ha, hb, h1⟩ := h
  exact ⟨lt_of_heap ha, lt_of_heap hb⟩

theorem IterRep.ne_blk {it g : Nat} {left : List (κ × ν)} {t : TypeId} {cs : Array Value} (h : IterRep w it r ek ev left) (hb : Blk w g t cs) : g ≠ it := by
  rintro rfl
  obtain ⟨es, clock, since, seen, c0, ha, _⟩ := h
  unfold Blk at hb
  rw [hb] at ha
  cases ha

/-- 'next', the new world behind a name. -/
theorem IterRep.next {it : Nat} {left : List (κ × ν)} (h : IterRep w it r ek ev left) (hne : it ≠ r) :
    (left = [] ∧ ∀ ty, (Instr.next (.pointer (some ⟨it, 0, none⟩)) false ty).run P w = .ok (.tuple #[.bool false]) w) ∨
    ∃ p left' w1, left.Perm (p :: left') ∧ (∀ ty, (Instr.next (.pointer (some ⟨it, 0, none⟩)) false ty).run P w = .ok (.tuple #[.bool true, ek p.1, ev p.2]) w1) ∧
      IterRep w1 it r ek ev left' ∧ (Instr.entry (.pointer (some ⟨it, 0, none⟩))).run P w1 = .ok (.tuple #[ek p.1, ev p.2]) w1 ∧ Mods [it] w w1 ∧ w1.heap.size = w.heap.size := by
  rcases h.run_next (P := P) hne 0 with ⟨h1, h2⟩ | ⟨p, left', w1, o, h1, hw, h2, h3, h4⟩
  · exact .inl ⟨h1, fun ty => h2⟩
  · refine .inr ⟨p, left', _, h1, fun ty => h2, h3, h4, ?_, ?_⟩
    · rcases hw with rfl | rfl
      · exact (Mods.refl _ _).setBlock (by simp) _
      · exact (Mods.refl _ _).drew.setBlock (by simp) _
    · rcases hw with rfl | rfl <;> simp [setBlock]

end
end Go.Proofs.YtaiigmiiidldcaaGreatDoor

namespace Go.Proofs.YtaiigmiiidldcaaGreatDoor
open Go.RowKit

/-- A node. -/
structure Nd where
  id : Int
  kind : Int
  links : Int
  size : Int
  target : ByteArray
  parent : Int

def Nd.val (n : Nd) : Value := .agg #[.int .i64 n.id, .int .i64 n.kind, .int .i64 n.links, .int .i64 n.size, .string n.target, .int .i64 n.parent]
def Nd.cells (n : Nd) : Array Value := #[.int .i64 n.id, .int .i64 n.kind, .int .i64 n.links, .int .i64 n.size, .string n.target, .int .i64 n.parent]
def Nd.zero : Nd := ⟨0, 0, 0, 0, ByteArray.empty, 0⟩

/-- What may be a node. -/
structure NdOk (n : Nd) : Prop where
  id1 : 1 ≤ n.id
  id2 : n.id ≤ 16777215
  links1 : 0 ≤ n.links
  links2 : n.links ≤ 16
  size1 : 0 ≤ n.size
  size2 : n.size ≤ 16384
  kind : n.kind = 1 ∧ n.target = ByteArray.empty ∧ n.parent = 0 ∨
    n.kind = 2 ∧ n.size = 0 ∧ n.target = ByteArray.empty ∧ 1 ≤ n.parent ∧ n.parent ≤ 16777215 ∨
    n.kind = 3 ∧ n.size = 0 ∧ n.target ≠ ByteArray.empty ∧ n.target.size ≤ 88 ∧ n.parent = 0

/-- An entry. -/
structure Ent where
  name : ByteArray
  node : Int
  kind : Int

def Ent.val (e : Ent) : Value := .agg #[.string e.name, .int .i64 e.node, .int .i64 e.kind]
def Ent.cells (e : Ent) : Array Value := #[.string e.name, .int .i64 e.node, .int .i64 e.kind]
def Ent.zero : Ent := ⟨ByteArray.empty, 0, 0⟩

/-- What an int may be. -/
def okInt (n : Int) : Prop := -9223372036854775808 ≤ n ∧ n ≤ 9223372036854775807
def intV (n : Int) : Value := .int .i64 n
def okStr (s : ByteArray) : Prop := s.size ≤ 140737488351232
def strV (s : ByteArray) : Value := .string s

/-! ### errors: code 0 is none; 101 and on: package api's, in its order -/
def errV (T : TypeId) (A : Nat → Addr) (c : Nat) : Value := if c = 0 then .nilIface else .iface T (.pointer (some (A c)))

theorem errV_zero (T : TypeId) (A : Nat → Addr) : errV T A 0 = .nilIface := rfl
theorem errV_pos (T : TypeId) (A : Nat → Addr) {c : Nat} (h : c ≠ 0) : errV T A c = .iface T (.pointer (some (A c))) := if_neg h

end Go.Proofs.YtaiigmiiidldcaaGreatDoor

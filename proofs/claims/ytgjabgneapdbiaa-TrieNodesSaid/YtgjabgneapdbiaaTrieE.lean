/- Chapter 9 in plain lists: what is there, in order. No program in sight. -/
import Derived.Test.YtgjabgneapdbiaaTrieN
namespace Go.Proofs.Ytgjabgneapdbiaa
set_option linter.unusedSimpArgs false
set_option linter.unusedVariables false

instance (p q : PrefixM) : Decidable (befP p q) := by unfold befP; exact inferInstance
def SortedE (l : List EntM) : Prop := l.Pairwise befE
/-- Where a prefix stands, or would. -/
def posE (l : List EntM) (p : PrefixM) : Nat := l.findIdx (fun x => !decide (befP x.p p))
def hasE (l : List EntM) (p : PrefixM) : Bool := match l[posE l p]? with | some x => decide (x.p = p) | none => false
def putE (l : List EntM) (p : PrefixM) (v : Int) : List EntM := if hasE l p then l.set (posE l p) ⟨p, v⟩ else l.take (posE l p) ++ ⟨p, v⟩ :: l.drop (posE l p)
def delE (l : List EntM) (p : PrefixM) : List EntM := if hasE l p then l.take (posE l p) ++ l.drop (posE l p + 1) else l
def getE (l : List EntM) (p : PrefixM) : Option EntM := l.find? (fun x => decide (x.p = p))

theorem posE_le (l : List EntM) (p : PrefixM) : posE l p ≤ l.length := List.findIdx_le_length
theorem posE_before {l : List EntM} {p : PrefixM} {j : Nat} {x : EntM} (hj : j < posE l p) (hx : l[j]? = some x) : befP x.p p := by
  obtain ⟨h, rfl⟩ := List.getElem?_eq_some_iff.1 hx
  have := List.not_of_lt_findIdx hj
  simpa using this
theorem posE_at {l : List EntM} {p : PrefixM} {x : EntM} (hx : l[posE l p]? = some x) : ¬ befP x.p p := by
  obtain ⟨h, rfl⟩ := List.getElem?_eq_some_iff.1 hx
  have h2 : (!decide (befP l[posE l p].p p)) = true := @List.findIdx_getElem _ (fun x : EntM => !decide (befP x.p p)) l h
  intro h3
  rw [decide_eq_true h3] at h2
  cases h2
theorem posE_eq {l : List EntM} {p : PrefixM} {i : Nat} (hi : i ≤ l.length) (h1 : ∀ j x, j < i → l[j]? = some x → befP x.p p) (h2 : ∀ x, l[i]? = some x → ¬ befP x.p p) : posE l p = i := by
  rcases Nat.lt_trichotomy (posE l p) i with h | h | h
  · exfalso
    have hl : posE l p < l.length := by omega
    exact posE_at (List.getElem?_eq_getElem hl) (h1 _ _ h (List.getElem?_eq_getElem hl))
  · exact h
  · exfalso
    have hl : i < l.length := by have := posE_le l p; omega
    exact h2 _ (List.getElem?_eq_getElem hl) (posE_before h (List.getElem?_eq_getElem hl))
theorem SortedE.get {l : List EntM} (h : SortedE l) {i j : Nat} (hij : i < j) {x y : EntM} (hx : l[i]? = some x) (hy : l[j]? = some y) : befE x y := by
  obtain ⟨h1, rfl⟩ := List.getElem?_eq_some_iff.1 hx
  obtain ⟨h2, rfl⟩ := List.getElem?_eq_some_iff.1 hy
  exact List.pairwise_iff_getElem.1 h i j h1 h2 hij
theorem SortedE.uniq {l : List EntM} (h : SortedE l) {x y : EntM} (hx : x ∈ l) (hy : y ∈ l) (hp : x.p = y.p) : x = y := by
  obtain ⟨i, hi⟩ := List.getElem?_of_mem hx
  obtain ⟨j, hj⟩ := List.getElem?_of_mem hy
  rcases Nat.lt_trichotomy i j with e | e | e
  · have := h.get e hi hj; unfold befE at this; rw [hp] at this; exact absurd this (befP_irrefl _)
  · subst e; rw [hi] at hj; exact Option.some.inj hj
  · have := h.get e hj hi; unfold befE at this; rw [hp] at this; exact absurd this (befP_irrefl _)
theorem hasE_iff {l : List EntM} (h : SortedE l) (p : PrefixM) : hasE l p = true ↔ ∃ x ∈ l, x.p = p := by
  unfold hasE
  constructor
  · intro hh
    split at hh
    · rename_i x hx
      exact ⟨x, List.mem_of_getElem? hx, of_decide_eq_true hh⟩
    · simp at hh
  · rintro ⟨x, hx, rfl⟩
    obtain ⟨i, hi⟩ := List.getElem?_of_mem hx
    have hil := (List.getElem?_eq_some_iff.1 hi).1
    have hp : posE l x.p = i := posE_eq (by omega) (fun j y hj hy => h.get hj hy hi) (fun y hy => by rw [hi] at hy; obtain rfl := Option.some.inj hy; exact befP_irrefl _)
    rw [hp, hi]
    simp
theorem hasE_some {l : List EntM} {p : PrefixM} (h : hasE l p = true) : ∃ x, l[posE l p]? = some x ∧ x.p = p := by
  unfold hasE at h
  split at h
  · rename_i x hx
    exact ⟨x, hx, of_decide_eq_true h⟩
  · simp at h
theorem hasE_lt {l : List EntM} {p : PrefixM} (h : hasE l p = true) : posE l p < l.length := by
  obtain ⟨x, hx, _⟩ := hasE_some h
  exact (List.getElem?_eq_some_iff.1 hx).1
theorem eq_of_sorted : ∀ {l1 l2 : List EntM}, SortedE l1 → SortedE l2 → (∀ x, x ∈ l1 ↔ x ∈ l2) → l1 = l2
  | [], [], _, _, _ => rfl
  | [], b :: l2, _, _, h => by have := (h b).2 (by simp); simp at this
  | a :: l1, [], _, _, h => by have := (h a).1 (by simp); simp at this
  | a :: l1, b :: l2, h1, h2, h => by
    unfold SortedE at h1 h2
    rw [List.pairwise_cons] at h1 h2
    have hir : ∀ x : EntM, ¬ befE x x := fun x => befP_irrefl _
    have hab : a = b := by
      rcases List.mem_cons.1 ((h a).1 (by simp)) with e | e
      · exact e
      · rcases List.mem_cons.1 ((h b).2 (by simp)) with e2 | e2
        · exact e2.symm
        · exact (befP_asymm (h1.1 b e2) (h2.1 a e)).elim
    subst hab
    congr 1
    refine eq_of_sorted h1.2 h2.2 (fun x => ?_)
    constructor
    · intro hx
      rcases List.mem_cons.1 ((h x).1 (List.mem_cons_of_mem _ hx)) with e | e
      · subst e; exact (hir _ (h1.1 _ hx)).elim
      · exact e
    · intro hx
      rcases List.mem_cons.1 ((h x).2 (List.mem_cons_of_mem _ hx)) with e | e
      · subst e; exact (hir _ (h2.1 _ hx)).elim
      · exact e

theorem take_bef {l : List EntM} {p : PrefixM} {x : EntM} (hx : x ∈ l.take (posE l p)) : befP x.p p := by
  obtain ⟨j, hj⟩ := List.getElem?_of_mem hx
  rw [List.getElem?_take] at hj
  split at hj
  · rename_i hlt; exact posE_before hlt hj
  · simp at hj
theorem drop_bef {l : List EntM} (h : SortedE l) {p : PrefixM} (hn : hasE l p = false) {x : EntM} (hx : x ∈ l.drop (posE l p)) : befP p x.p := by
  obtain ⟨j, hj⟩ := List.getElem?_of_mem hx
  rw [List.getElem?_drop] at hj
  obtain ⟨hlen, _⟩ := List.getElem?_eq_some_iff.1 hj
  have hp : posE l p < l.length := by omega
  have hy := List.getElem?_eq_getElem hp
  have hns : ¬ (l[posE l p]).p = p := by
    unfold hasE at hn
    rw [hy] at hn
    exact of_decide_eq_false hn
  have hlt : befP p (l[posE l p]).p := by
    rcases befP_tri (l[posE l p]).p p with h1 | h1 | h1
    · exact absurd h1 (posE_at hy)
    · exact absurd h1 hns
    · exact h1
  cases j with
  | zero =>
    rw [Nat.add_zero, hy] at hj
    obtain rfl := Option.some.inj hj
    exact hlt
  | succ j => exact befP_trans hlt (h.get (by omega) hy hj)
theorem mem_split {l : List EntM} {p : PrefixM} {y : EntM} (hy : l[posE l p]? = some y) (x : EntM) : x ∈ l ↔ x ∈ l.take (posE l p) ∨ x = y ∨ x ∈ l.drop (posE l p + 1) := by
  obtain ⟨h, rfl⟩ := List.getElem?_eq_some_iff.1 hy
  conv => lhs; rw [← List.take_append_drop (posE l p) l, List.drop_eq_getElem_cons h]
  simp only [List.mem_append, List.mem_cons]
theorem put_E_mem {l : List EntM} (h : SortedE l) (p : PrefixM) (v : Int) (x : EntM) : x ∈ putE l p v ↔ x = ⟨p, v⟩ ∨ (x ∈ l ∧ x.p ≠ p) := by
  unfold putE
  cases hh : hasE l p with
  | true =>
    obtain ⟨y, hy, hyp⟩ := hasE_some hh
    have hlt := hasE_lt hh
    rw [if_pos rfl, List.set_eq_take_append_cons_drop, if_pos hlt, mem_split hy]
    simp only [List.mem_append, List.mem_cons]
    have n1 : x ∈ l.take (posE l p) → x.p ≠ p := fun hx e => by have := take_bef hx; rw [e] at this; exact befP_irrefl _ this
    have n2 : x ∈ l.drop (posE l p + 1) → x.p ≠ p := fun hx e => by
      obtain ⟨j, hj⟩ := List.getElem?_of_mem hx
      rw [List.getElem?_drop] at hj
      have := h.get (by omega) hy hj
      unfold befE at this
      rw [hyp, e] at this
      exact befP_irrefl _ this
    constructor
    · rintro (h | h | h)
      · exact .inr ⟨.inl h, n1 h⟩
      · exact .inl h
      · exact .inr ⟨.inr (.inr h), n2 h⟩
    · rintro (h | ⟨h | h | h, hne⟩)
      · exact .inr (.inl h)
      · exact .inl h
      · subst h; exact absurd hyp hne
      · exact .inr (.inr h)
  | false =>
    rw [if_neg (by simp)]
    have hm : x ∈ l ↔ x ∈ l.take (posE l p) ∨ x ∈ l.drop (posE l p) := by rw [← List.mem_append, List.take_append_drop]
    rw [hm]
    simp only [List.mem_append, List.mem_cons]
    have n1 : x ∈ l.take (posE l p) → x.p ≠ p := fun hx e => by have := take_bef hx; rw [e] at this; exact befP_irrefl _ this
    have n2 : x ∈ l.drop (posE l p) → x.p ≠ p := fun hx e => by have := drop_bef h hh hx; rw [e] at this; exact befP_irrefl _ this
    constructor
    · rintro (h | h | h)
      · exact .inr ⟨.inl h, n1 h⟩
      · exact .inl h
      · exact .inr ⟨.inr h, n2 h⟩
    · rintro (h | ⟨h | h, hne⟩)
      · exact .inr (.inl h)
      · exact .inl h
      · exact .inr (.inr h)
theorem put_E_sorted {l : List EntM} (h : SortedE l) (p : PrefixM) (v : Int) : SortedE (putE l p v) := by
  unfold putE
  cases hh : hasE l p with
  | true =>
    obtain ⟨y, hy, hyp⟩ := hasE_some hh
    rw [if_pos rfl]
    have h' := h
    unfold SortedE at *
    rw [List.pairwise_iff_getElem] at *
    obtain ⟨hi, rfl⟩ := List.getElem?_eq_some_iff.1 hy
    intro a b ha hb hab
    simp only [List.length_set] at ha hb
    simp only [List.getElem_set]
    split
    · split
      · omega
      · rename_i e _; have := h a b ha hb hab; unfold befE at *; subst e; rw [hyp] at this; exact this
    · split
      · rename_i e; have := h a b ha hb hab; unfold befE at *; subst e; rw [hyp] at this; exact this
      · exact h a b ha hb hab
  | false =>
    rw [if_neg (by simp)]
    unfold SortedE
    rw [List.pairwise_append, List.pairwise_cons]
    refine ⟨h.sublist (List.take_sublist _ _), ⟨fun x hx => drop_bef h hh hx, h.sublist (List.drop_sublist _ _)⟩, ?_⟩
    intro a ha b hb
    rcases List.mem_cons.1 hb with rfl | hb
    · exact take_bef ha
    · exact befP_trans (take_bef ha) (drop_bef h hh hb)
theorem del_E_mem {l : List EntM} (h : SortedE l) (p : PrefixM) (x : EntM) : x ∈ delE l p ↔ x ∈ l ∧ x.p ≠ p := by
  unfold delE
  cases hh : hasE l p with
  | true =>
    obtain ⟨y, hy, hyp⟩ := hasE_some hh
    rw [if_pos rfl, mem_split hy]
    simp only [List.mem_append]
    have n1 : x ∈ l.take (posE l p) → x.p ≠ p := fun hx e => by have := take_bef hx; rw [e] at this; exact befP_irrefl _ this
    have n2 : x ∈ l.drop (posE l p + 1) → x.p ≠ p := fun hx e => by
      obtain ⟨j, hj⟩ := List.getElem?_of_mem hx
      rw [List.getElem?_drop] at hj
      have := h.get (by omega) hy hj
      unfold befE at this
      rw [hyp, e] at this
      exact befP_irrefl _ this
    constructor
    · rintro (h | h)
      · exact ⟨.inl h, n1 h⟩
      · exact ⟨.inr (.inr h), n2 h⟩
    · rintro ⟨h | h | h, hne⟩
      · exact .inl h
      · subst h; exact absurd hyp hne
      · exact .inr h
  | false =>
    rw [if_neg (by simp)]
    constructor
    · intro hx
      refine ⟨hx, fun e => ?_⟩
      have := (hasE_iff h p).2 ⟨x, hx, e⟩
      rw [hh] at this; cases this
    · exact fun h => h.1
theorem del_E_sorted {l : List EntM} (h : SortedE l) (p : PrefixM) : SortedE (delE l p) := by
  unfold delE
  split
  · have hs : (l.take (posE l p) ++ l.drop (posE l p + 1)).Sublist l := by
      have h : (l.take (posE l p) ++ l.drop (posE l p + 1)).Sublist (l.take (posE l p) ++ l.drop (posE l p)) := List.Sublist.append (List.Sublist.refl _) (by
        rw [← List.drop_drop]; exact List.drop_sublist _ _)
      rwa [List.take_append_drop] at h
    exact h.sublist hs
  · exact h
theorem ents_put {t : T} (h : Good t) {p : PrefixM} (hp : okP p) (v : Int) (s : AlM) : (putT t p v s).t.ents = putE t.ents p v := by
  have hs := good_sorted h
  refine eq_of_sorted (good_sorted (good_put hp v s h).1) (put_E_sorted hs p v) (fun x => ?_)
  rw [mem_put hp v s h x, put_E_mem hs]
theorem ents_cut {t : T} (h : Good t) {p : PrefixM} (hp : okP p) (s : AlM) : (cutT t p s).t.ents = delE t.ents p ∧ (cutT t p s).was = hasE t.ents p := by
  have hs := good_sorted h
  obtain ⟨k1, k2, k3, k4, k5⟩ := cut_good hp s h
  refine ⟨eq_of_sorted (good_sorted k1) (del_E_sorted hs p) (fun x => by rw [k3, del_E_mem hs]), ?_⟩
  rw [Bool.eq_iff_iff, k4, hasE_iff hs]
theorem getE_some {l : List EntM} (h : SortedE l) {p : PrefixM} {x : EntM} : getE l p = some x ↔ x ∈ l ∧ x.p = p := by
  unfold getE
  constructor
  · intro hf
    exact ⟨List.mem_of_find?_eq_some hf, by have := List.find?_some hf; simpa using this⟩
  · rintro ⟨hx, rfl⟩
    cases hf : l.find? (fun y => decide (y.p = x.p)) with
    | none =>
      rw [List.find?_eq_none] at hf
      have := hf x hx
      simp at this
    | some y =>
      have h1 := List.mem_of_find?_eq_some hf
      have h2 : y.p = x.p := by have := List.find?_some hf; simpa using this
      rw [h.uniq h1 hx h2]
theorem getE_none {l : List EntM} {p : PrefixM} : getE l p = none ↔ ∀ x ∈ l, x.p ≠ p := by
  unfold getE
  rw [List.find?_eq_none]
  constructor
  · intro h x hx e; have := h x hx; simp [e] at this
  · intro h x hx; simp [h x hx]
theorem getE_pos {l : List EntM} (h : SortedE l) (p : PrefixM) : getE l p = if hasE l p then l[posE l p]? else none := by
  cases hh : hasE l p with
  | true =>
    obtain ⟨y, hy, hyp⟩ := hasE_some hh
    rw [if_pos rfl, hy, getE_some h]
    exact ⟨List.mem_of_getElem? hy, hyp⟩
  | false =>
    rw [if_neg (by simp), getE_none]
    intro x hx e
    have := (hasE_iff h p).2 ⟨x, hx, e⟩
    rw [hh] at this; cases this
end Go.Proofs.Ytgjabgneapdbiaa

/- rib: what the functions compute, and the tables in memory. -/
import Derived.Test.YtdmghildjadjeaaRibCmp
namespace Go.Proofs.Ytdmghildjadjeaa
open Go.RowKit Go.BigFrame
set_option linter.unusedSimpArgs false
set_option linter.unusedVariables false

def zeroR : RouteM := ⟨0, ⟨0, 0⟩, 0, 0, 0⟩
theorem RouteM.mem (x : RouteM) : ∀ u ∈ x.cells, u.oneCell' = true := by
  intro u hu
  simp only [RouteM.cells, List.mem_cons, List.not_mem_nil, or_false] at hu
  rcases hu with rfl | rfl | rfl | rfl | rfl | rfl <;> rfl
theorem RouteM.onea (x : RouteM) : x.cells.toArray.all (·.oneCell') = true := by
  rw [List.all_toArray]
  rfl
theorem route_info : (Try.prog.info? 26).map (fun i => (i.zero, i.size, i.bytes)) = some (some (.agg zeroR.cells.toArray), 6, 48) := by kernel_rfl
theorem own_at {α : Type} {w : World} {e : TypeId} {N : Nat} {cells : α → List Value} {s : SlV} {xs : List α} (h : OwnL w e N cells s xs) (hN : ∀ x, (cells x).length = N) {k : Nat} {x : α} (hx : xs[k]? = some x) :
    ∃ g, s.a = some ⟨g, 0, none⟩ ∧ k < s.len ∧ CellsAt w g (k * N) (cells x) ∧ ∃ junk, Blk w g (xs.flatMap cells ++ junk).toArray e := by
  obtain ⟨h1, h2⟩ := h
  have hk := (List.getElem?_eq_some_iff.1 hx).1
  rcases h2 with rfl | ⟨g, junk, ha, hb, _, _, _⟩
  · simp only at h1; omega
  · refine ⟨g, ha, by omega, fun j v hv => ?_, junk, hb⟩
    have hj : j < N := by rw [← hN x]; exact (List.getElem?_eq_some_iff.1 hv).1
    rw [hb.cell, List.getElem?_toArray, flat_get hN junk xs k x j hx hj, hv]

/-! ### What the functions compute -/
/-- Where a route stands, or would. -/
def posR (l : List RouteM) (r : RouteM) : Nat := l.findIdx (fun x => !decide (ltR x r))
def hasR (l : List RouteM) (r : RouteM) : Bool := match l[posR l r]? with | some x => decide (sameR x r) | none => false
def SortedR (l : List RouteM) : Prop := l.Pairwise ltR
def isR (r : RouteM) : Bool := decide (0 ≤ r.table ∧ r.table < 4 ∧ normP r.pfx = r.pfx ∧ 0 ≤ r.iface ∧ r.iface < 8 ∧ 0 ≤ r.metric ∧ r.metric ≤ 255)
structure AddedR where
  e : Int
  l : List RouteM
def putR (l : List RouteM) (r : RouteM) : List RouteM := if hasR l r then l.set (posR l r) r else l.take (posR l r) ++ r :: l.drop (posR l r)
def addR (l : List RouteM) (r : RouteM) : AddedR := if isR r = false then ⟨1, l⟩ else if hasR l r = false ∧ 256 ≤ l.length then ⟨6, l⟩ else ⟨0, putR l r⟩
def delR (l : List RouteM) (r : RouteM) : AddedR := if hasR l r then ⟨0, l.take (posR l r) ++ l.drop (posR l r + 1)⟩ else ⟨7, l⟩

theorem posR_le (l : List RouteM) (r : RouteM) : posR l r ≤ l.length := List.findIdx_le_length
theorem posR_before {l : List RouteM} {r : RouteM} {j : Nat} {x : RouteM} (hj : j < posR l r) (hx : l[j]? = some x) : ltR x r := by
  obtain ⟨h, rfl⟩ := List.getElem?_eq_some_iff.1 hx
  have := List.not_of_lt_findIdx hj
  simpa using this
theorem posR_at {l : List RouteM} {r : RouteM} {x : RouteM} (hx : l[posR l r]? = some x) : ¬ ltR x r := by
  obtain ⟨h, rfl⟩ := List.getElem?_eq_some_iff.1 hx
  have h2 : (!decide (ltR l[posR l r] r)) = true := @List.findIdx_getElem _ (fun x => !decide (ltR x r)) l h
  intro h3
  rw [decide_eq_true h3] at h2
  cases h2
/-- The first index from which on nothing stands before r. -/
theorem posR_eq {l : List RouteM} {r : RouteM} {i : Nat} (hi : i ≤ l.length) (h1 : ∀ j x, j < i → l[j]? = some x → ltR x r) (h2 : ∀ x, l[i]? = some x → ¬ ltR x r) : posR l r = i := by
  rcases Nat.lt_trichotomy (posR l r) i with h | h | h
  · exfalso
    have hl : posR l r < l.length := by omega
    exact posR_at (List.getElem?_eq_getElem hl) (h1 _ _ h (List.getElem?_eq_getElem hl))
  · exact h
  · exfalso
    have hl : i < l.length := by have := posR_le l r; omega
    exact h2 _ (List.getElem?_eq_getElem hl) (posR_before h (List.getElem?_eq_getElem hl))
theorem SortedR.get {l : List RouteM} (h : SortedR l) {i j : Nat} (hij : i < j) {x y : RouteM} (hx : l[i]? = some x) (hy : l[j]? = some y) : ltR x y := by
  obtain ⟨h1, rfl⟩ := List.getElem?_eq_some_iff.1 hx
  obtain ⟨h2, rfl⟩ := List.getElem?_eq_some_iff.1 hy
  exact List.pairwise_iff_getElem.1 h i j h1 h2 hij
theorem hasR_of {l : List RouteM} {r x : RouteM} (hx : l[posR l r]? = some x) : hasR l r = decide (sameR x r) := by unfold hasR; rw [hx]
theorem hasR_end {l : List RouteM} {r : RouteM} (hx : l[posR l r]? = none) : hasR l r = false := by unfold hasR; rw [hx]
theorem hasR_some {l : List RouteM} {r : RouteM} (h : hasR l r = true) : ∃ x, l[posR l r]? = some x ∧ sameR x r := by
  unfold hasR at h
  split at h
  · rename_i x hx
    exact ⟨x, hx, of_decide_eq_true h⟩
  · simp at h
theorem hasR_lt {l : List RouteM} {r : RouteM} (h : hasR l r = true) : posR l r < l.length := by
  obtain ⟨x, hx, _⟩ := hasR_some h
  exact (List.getElem?_eq_some_iff.1 hx).1

/-! ### The tables in memory -/
def gr (F : Nat → Prop) (w w' : World) : Nat → Prop := fun b => F b ∨ (w.heap.size ≤ b ∧ b < w'.heap.size)
/-- The program's table. -/
structure Rib (w : World) (F : Nat → Prop) (g : Nat) (l : List RouteM) : Prop where
  rep : ∃ (s : SlV), Blk w g #[.slice s.a s.len s.cap] 59 ∧ OwnL w 26 6 RouteM.cells s l ∧ ¬ ownB s g ∧ ∀ b, ownB s b → F b
  here : F g
  lt : ∀ b, F b → b < w.heap.size
  sorted : SortedR l
  len : l.length ≤ 256
  wf : ∀ r ∈ l, r.wf
  is : ∀ r ∈ l, isR r = true
/-- The document's table. -/
structure Doc (w : World) (F : Nat → Prop) (g : Nat) (l : List RouteM) : Prop where
  rep : ∃ (s : SlV), Blk w g #[.slice s.a s.len s.cap] 50 ∧ OwnL w 26 6 RouteM.cells s l ∧ ∀ b, ownB s b → F b
  here : F g
  lt : ∀ b, F b → b < w.heap.size
  len : l.length ≤ 256
  wf : ∀ r ∈ l, r.wf
theorem Rib.fr {w w' : World} {F S : Nat → Prop} {g : Nat} {l : List RouteM} (h : Rib w F g l) (f : Fr S w w') (hs : ∀ b, F b → ¬ S b) : Rib w' F g l := by
  obtain ⟨⟨s, h1, h2, h4, h5⟩, h6, h7, h8, h9, h10, h11⟩ := h
  exact ⟨⟨s, h1.fr f (hs g h6), h2.fr f (fun b hb => hs b (h5 b hb)), h4, h5⟩, h6, fun b hb => f.lt (h7 b hb), h8, h9, h10, h11⟩
theorem Doc.fr {w w' : World} {F S : Nat → Prop} {g : Nat} {l : List RouteM} (h : Doc w F g l) (f : Fr S w w') (hs : ∀ b, F b → ¬ S b) : Doc w' F g l := by
  obtain ⟨⟨s, h1, h2, h5⟩, h6, h7, h9, h10⟩ := h
  exact ⟨⟨s, h1.fr f (hs g h6), h2.fr f (fun b hb => hs b (h5 b hb)), h5⟩, h6, fun b hb => f.lt (h7 b hb), h9, h10⟩
theorem Rib.frN {w w' : World} {F : Nat → Prop} {g : Nat} {l : List RouteM} (h : Rib w F g l) (f : Fr noB w w') : Rib w' F g l := h.fr f (fun _ _ h => h)
theorem Doc.frN {w w' : World} {F : Nat → Prop} {g : Nat} {l : List RouteM} (h : Doc w F g l) (f : Fr noB w w') : Doc w' F g l := h.fr f (fun _ _ h => h)
theorem Rib.same {w w' : World} {F : Nat → Prop} {g : Nat} {l : List RouteM} (h : Rib w F g l) (hw : Fr noB w w') : Rib w' (gr F w w') g l ∧ Fr F w w' := by
  refine ⟨?_, hw.mono (fun _ _ h => h.elim)⟩
  obtain ⟨⟨s, h1, h2, h4, h5⟩, h6, h7, h8, h9, h10, h11⟩ := h.frN hw
  exact ⟨⟨s, h1, h2, h4, fun b hb => .inl (h5 b hb)⟩, .inl h6, fun b hb => by rcases hb with hb | hb; exact h7 b hb; exact hb.2, h8, h9, h10, h11⟩
theorem Doc.same {w w' : World} {F : Nat → Prop} {g : Nat} {l : List RouteM} (h : Doc w F g l) (hw : Fr noB w w') : Doc w' (gr F w w') g l ∧ Fr F w w' := by
  refine ⟨?_, hw.mono (fun _ _ h => h.elim)⟩
  obtain ⟨⟨s, h1, h2, h5⟩, h6, h7, h9, h10⟩ := h.frN hw
  exact ⟨⟨s, h1, h2, fun b hb => .inl (h5 b hb)⟩, .inl h6, fun b hb => by rcases hb with hb | hb; exact h7 b hb; exact hb.2, h9, h10⟩
/-- A change of the table alone. -/
def RibTo (w : World) (F : Nat → Prop) (g : Nat) (l' : List RouteM) (v : Value) (e : Ending) (w' : World) : Prop := e = .returned v ∧ Rib w' (gr F w w') g l' ∧ Fr F w w'
def DocTo (w : World) (F : Nat → Prop) (g : Nat) (l' : List RouteM) (v : Value) (e : Ending) (w' : World) : Prop := e = .returned v ∧ Doc w' (gr F w w') g l' ∧ Fr F w w'

/-! ### What a change keeps -/
theorem set_sorted {l : List RouteM} (h : SortedR l) {i : Nat} {x r : RouteM} (hx : l[i]? = some x) (hs : sameR x r) : SortedR (l.set i r) := by
  unfold SortedR at *
  rw [List.pairwise_iff_getElem] at *
  obtain ⟨hi, rfl⟩ := List.getElem?_eq_some_iff.1 hx
  intro a b ha hb hab
  simp only [List.length_set] at ha hb
  simp only [List.getElem_set]
  have h1 := ltR_same hs (c := l[a]'ha)
  have h2 := ltR_same hs (c := l[b]'hb)
  split
  · split
    · omega
    · subst_vars; exact h2.1.1 (h _ _ _ _ hab)
  · split
    · subst_vars; exact h1.2.1 (h _ _ _ _ hab)
    · exact h _ _ _ _ hab
theorem ins_sorted {l : List RouteM} (h : SortedR l) {r : RouteM} (hn : hasR l r = false) : SortedR (l.take (posR l r) ++ r :: l.drop (posR l r)) := by
  have h1 : ∀ x ∈ l.take (posR l r), ltR x r := by
    intro x hx
    obtain ⟨j, hj⟩ := List.getElem?_of_mem hx
    rw [List.getElem?_take] at hj
    split at hj
    · rename_i hlt; exact posR_before hlt hj
    · simp at hj
  have h2 : ∀ x ∈ l.drop (posR l r), ltR r x := by
    intro x hx
    obtain ⟨j, hj⟩ := List.getElem?_of_mem hx
    rw [List.getElem?_drop] at hj
    obtain ⟨hlen, _⟩ := List.getElem?_eq_some_iff.1 hj
    have hp : posR l r < l.length := by omega
    have hy := List.getElem?_eq_getElem hp
    have hns : ¬ sameR (l[posR l r]) r := by have := hasR_of hy; rw [hn] at this; simpa using this.symm
    have hlt : ltR r (l[posR l r]) := by rcases not_ltR.1 (posR_at hy) with h | h; exact absurd h hns; exact h
    cases j with
    | zero =>
      rw [Nat.add_zero, hy] at hj
      obtain rfl := Option.some.inj hj
      exact hlt
    | succ j => exact ltR_trans hlt (h.get (by omega) hy hj)
  unfold SortedR at *
  rw [List.pairwise_append, List.pairwise_cons]
  refine ⟨h.sublist (List.take_sublist _ _), ⟨h2, h.sublist (List.drop_sublist _ _)⟩, ?_⟩
  intro a ha b hb
  rcases List.mem_cons.1 hb with rfl | hb
  · exact h1 a ha
  · exact ltR_trans (h1 a ha) (h2 b hb)
theorem del_sublist (l : List RouteM) (i : Nat) : (l.take i ++ l.drop (i + 1)).Sublist l := by
  have h : (l.take i ++ l.drop (i + 1)).Sublist (l.take i ++ l.drop i) := List.Sublist.append (List.Sublist.refl _) (by
    rw [← List.drop_drop]; exact List.drop_sublist _ _)
  rwa [List.take_append_drop] at h
end Go.Proofs.Ytdmghildjadjeaa

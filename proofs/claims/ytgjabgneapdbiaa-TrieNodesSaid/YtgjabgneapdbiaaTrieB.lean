/- Chapter 9's tree in memory. -/
import Derived.Test.YtgjabgneapdbiaaTrieM
import Derived.Test.YtgjabgneapdbiaaCopy
namespace Go.Proofs.Ytgjabgneapdbiaa
open Go.RowKit Go.BigFrame
set_option linter.unusedSimpArgs false
set_option linter.unusedVariables false

def gr (F : Nat → Prop) (w w' : World) : Nat → Prop := fun b => F b ∨ (w.heap.size ≤ b ∧ b < w'.heap.size)
theorem own_at {α : Type} {w : World} {e : TypeId} {N : Nat} {cells : α → List Value} {s : SlV} {xs : List α} (h : OwnL w e N cells s xs) (hN : ∀ x, (cells x).length = N) {k : Nat} {x : α} (hx : xs[k]? = some x) :
    ∃ g, s.a = some ⟨g, 0, none⟩ ∧ k < s.len ∧ CellsAt w g (k * N) (cells x) ∧ ∃ junk, Blk w g (xs.flatMap cells ++ junk).toArray e := by
  obtain ⟨h1, h2⟩ := h
  have hk := (List.getElem?_eq_some_iff.1 hx).1
  rcases h2 with rfl | ⟨g, junk, ha, hb, _, _, _⟩
  · simp only at h1; omega
  · refine ⟨g, ha, by omega, fun j v hv => ?_, junk, hb⟩
    have hj : j < N := by rw [← hN x]; exact (List.getElem?_eq_some_iff.1 hv).1
    rw [hb.cell, List.getElem?_toArray, flat_get hN junk xs k x j hx hj, hv]
theorem gr_trans {F : Nat → Prop} {a b c : World} (h : a.heap.size ≤ b.heap.size) (k : b.heap.size ≤ c.heap.size) : gr (gr F a b) b c = gr F a c := by
  funext x
  unfold gr
  apply propext
  constructor
  · rintro ((h1 | ⟨h1, h2⟩) | ⟨h1, h2⟩)
    · exact .inl h1
    · exact .inr ⟨h1, by omega⟩
    · exact .inr ⟨by omega, h2⟩
  · rintro (h1 | ⟨h1, h2⟩)
    · exact .inl (.inl h1)
    · by_cases h3 : x < b.heap.size
      · exact .inl (.inr ⟨h1, h3⟩)
      · exact .inr ⟨by omega, h2⟩
/-- What a part may write is what the whole may, or new. -/
theorem Fr.gr {F : Nat → Prop} {a b c : World} (h : Fr F a b) (k : Fr (gr F a b) b c) : Fr F a c :=
  h.trans k (fun _ _ h => h) (fun x hx h => by rcases h with h | h; exact h; omega)
theorem own_ne_blk {α : Type} {w : World} {e t : TypeId} {N : Nat} {cells : α → List Value} {s : SlV} {xs : List α} {g : Nat} {cs : Array Value} (hb : Blk w g cs t) (ho : OwnL w e N cells s xs) (ht : t ≠ e) : ¬ ownB s g := by
  rintro ⟨a, ha, rfl⟩
  rcases ho.2 with rfl | ⟨g', junk, ha', hb', _⟩
  · simp at ha
  · rw [ha] at ha'
    obtain rfl := Option.some.inj ha'
    unfold Blk at hb hb'
    rw [hb] at hb'
    simp only [Option.some.injEq, Obj.cells.injEq] at hb'
    exact ht hb'.2.1
theorem own_ne_own {α β : Type} {w : World} {e t : TypeId} {N M : Nat} {cells : α → List Value} {cells' : β → List Value} {s s' : SlV} {xs : List α} {ys : List β} (h : OwnL w t M cells' s' ys) (ho : OwnL w e N cells s xs) (ht : t ≠ e) (b : Nat) (hb : ownB s' b) : ¬ ownB s b := by
  obtain ⟨a, ha, rfl⟩ := hb
  rcases h.2 with rfl | ⟨g', junk, ha', hb', _⟩
  · simp at ha
  · rw [ha] at ha'
    obtain rfl := Option.some.inj ha'
    exact own_ne_blk hb' ho ht
theorem own_shrink {α : Type} {w : World} {e : TypeId} {N : Nat} {cells : α → List Value} {g len cap k : Nat} {xs : List α} (h : OwnL w e N cells ⟨some ⟨g, 0, none⟩, len, cap⟩ xs) (hk : k ≤ len) : OwnL w e N cells ⟨some ⟨g, 0, none⟩, k, cap⟩ (xs.take k) := by
  obtain ⟨h1, h2⟩ := h
  rcases h2 with h2 | ⟨g', junk, ha, hb, hl, hc, hm⟩
  · simp at h2
  · simp only at h1 hl hc
    refine ⟨by simp only [List.length_take]; omega, .inr ⟨g', (xs.drop k).flatMap cells ++ junk, ha, ?_, ?_, by simp only; omega, hm⟩⟩
    · rw [← List.append_assoc, ← List.flatMap_append, List.take_append_drop]; exact hb
    · rw [← List.append_assoc, ← List.flatMap_append, List.take_append_drop]; exact hl
theorem own_nil_or {α : Type} {w : World} {e : TypeId} {N : Nat} {cells : α → List Value} {sa : Option Addr} {sl sc : Nat} {l : List α} (h : OwnL w e N cells ⟨sa, sl, sc⟩ l) : (sa = none ∧ sl = 0 ∧ sc = 0) ∨ ∃ g, sa = some ⟨g, 0, none⟩ := by
  rcases h.2 with h | ⟨g, _, h, _⟩
  · simp only [SlV.mk.injEq] at h; exact .inl h
  · exact .inr ⟨g, h⟩

/-! ### Nodes -/
structure NodeM where
  p : PrefixM
  v : Int
  th : Bool
  l : Nat
  r : Nat
  deriving Inhabited, DecidableEq
def NodeM.cells (x : NodeM) : List Value := [.int .u32 (x.p.addr : Nat), .int .i64 x.p.len, .int .i64 x.v, .bool x.th, .int .i64 (x.l : Nat), .int .i64 (x.r : Nat)]
theorem NodeM.length (x : NodeM) : x.cells.length = 6 := rfl
theorem NodeM.mem (x : NodeM) : ∀ u ∈ x.cells, u.oneCell' = true := by
  intro u hu
  simp only [NodeM.cells, List.mem_cons, List.not_mem_nil, or_false] at hu
  rcases hu with rfl | rfl | rfl | rfl | rfl | rfl <;> rfl
def zeroN : NodeM := ⟨⟨0, 0⟩, 0, false, 0, 0⟩
theorem node_info : (Try.prog.info? 87).map (fun i => (i.zero, i.size, i.bytes)) = some (some (.agg zeroN.cells.toArray), 6, 48) := by kernel_rfl
def icells (n : Nat) : List Value := [.int .i64 (n : Nat)]
theorem icells_length (x : Nat) : (icells x).length = 1 := rfl
theorem icells_mem (x : Nat) : ∀ u ∈ icells x, u.oneCell' = true := by
  intro u hu
  simp only [icells, List.mem_singleton] at hu
  subst hu; rfl
theorem int_info : (Try.prog.info? 3).map (fun i => (i.zero, i.size, i.bytes)) = some (some (.int .i64 0), 1, 8) := by kernel_rfl
abbrev OwnN (w : World) (s : SlV) (xs : List NodeM) : Prop := OwnL w 87 6 NodeM.cells s xs
abbrev OwnI (w : World) (s : SlV) (xs : List Nat) : Prop := OwnL w 3 1 icells s xs

structure TrieAt (w : World) (F : Nat → Prop) (g : Nat) (N : List NodeM) (fr : List Nat) (root many : Nat) : Prop where
  rep : ∃ sn sf : SlV, Blk w g #[.slice sn.a sn.len sn.cap, .slice sf.a sf.len sf.cap, .int .i64 (root : Nat), .int .i64 (many : Nat)] 80 ∧ OwnN w sn N ∧ OwnI w sf fr ∧ (∀ b, ownB sn b → F b) ∧ ∀ b, ownB sf b → F b
  here : F g
  lt : ∀ b, F b → b < w.heap.size
  len : N.length ≤ 1000000
  flen : fr.length ≤ 1000000
  blen : root ≤ 1000000 ∧ many ≤ 1000000
theorem TrieAt.fr {w w' : World} {F S : Nat → Prop} {g root many : Nat} {N : List NodeM} {fr : List Nat} (h : TrieAt w F g N fr root many) (f : Fr S w w') (hs : ∀ b, F b → ¬ S b) : TrieAt w' F g N fr root many := by
  obtain ⟨⟨sn, sf, h1, h2, h3, h4, h5⟩, h6, h7, h8, h9, h10⟩ := h
  exact ⟨⟨sn, sf, h1.fr f (hs g h6), h2.fr f (fun b hb => hs b (h4 b hb)), h3.fr f (fun b hb => hs b (h5 b hb)), h4, h5⟩, h6, fun b hb => f.lt (h7 b hb), h8, h9, h10⟩
theorem TrieAt.frN {w w' : World} {F : Nat → Prop} {g root many : Nat} {N : List NodeM} {fr : List Nat} (h : TrieAt w F g N fr root many) (f : Fr noB w w') : TrieAt w' F g N fr root many := h.fr f (fun _ _ h => h)
theorem TrieAt.grow {w w' : World} {F : Nat → Prop} {g root many : Nat} {N : List NodeM} {fr : List Nat} (h : TrieAt w' F g N fr root many) (hs : w.heap.size ≤ w'.heap.size) (hw : ∀ b, F b → b < w.heap.size) : TrieAt w' (gr F w w') g N fr root many := by
  obtain ⟨⟨sn, sf, h1, h2, h3, h4, h5⟩, h6, h7, h8, h9, h10⟩ := h
  exact ⟨⟨sn, sf, h1, h2, h3, fun b hb => .inl (h4 b hb), fun b hb => .inl (h5 b hb)⟩, .inl h6, fun b hb => by rcases hb with hb | hb; exact h7 b hb; exact hb.2, h8, h9, h10⟩
theorem TrieAt.same {w w' : World} {F : Nat → Prop} {g root many : Nat} {N : List NodeM} {fr : List Nat} (h : TrieAt w F g N fr root many) (hw : Fr noB w w') : TrieAt w' (gr F w w') g N fr root many ∧ Fr F w w' :=
  ⟨(h.frN hw).grow hw.size h.lt, hw.mono (fun _ _ h => h.elim)⟩

/-- A tree lies in the nodes. -/
def RepT (N : List NodeM) : T → Prop
  | .nil => True
  | .node i p v th l r => 0 < i ∧ N[i]? = some ⟨p, v, th, l.id, r.id⟩ ∧ RepT N l ∧ RepT N r
theorem RepT.keep {N N' : List NodeM} : ∀ {t : T}, RepT N t → (∀ i ∈ t.ids, N'[i]? = N[i]?) → RepT N' t
  | .nil, _, _ => trivial
  | .node i p v th l r, h, hk => by
    obtain ⟨h1, h2, h3, h4⟩ := h
    refine ⟨h1, (hk i (by simp [T.ids])).trans h2, h3.keep (fun j hj => hk j (by simp [T.ids, hj])), h4.keep (fun j hj => hk j (by simp [T.ids, hj]))⟩
theorem RepT.lt {N : List NodeM} : ∀ {t : T}, RepT N t → ∀ i ∈ t.ids, 0 < i ∧ i < N.length
  | .nil, _, i, hi => by simp [T.ids] at hi
  | .node i p v th l r, h, j, hj => by
    obtain ⟨h1, h2, h3, h4⟩ := h
    simp only [T.ids, List.mem_cons, List.mem_append] at hj
    rcases hj with rfl | hj | hj
    · exact ⟨h1, (List.getElem?_eq_some_iff.1 h2).1⟩
    · exact h3.lt j hj
    · exact h4.lt j hj
theorem id_nil {N : List NodeM} {t : T} (h : RepT N t) : t.id = 0 ↔ t.isNil = true := by
  cases t with
  | nil => simp [T.id, T.isNil]
  | node i p v th l r => have := h.1; simp [T.id, T.isNil]; omega
theorem id_mem {t : T} (h : t.isNil = false) : t.id ∈ t.ids := by
  cases t with
  | nil => simp [T.isNil] at h
  | node i p v th l r => simp [T.id, T.ids]
/-- Nodes and free numbers, each once. -/
structure AlOk (N : List NodeM) (fr : List Nat) (ids : List Nat) : Prop where
  nodup : (ids ++ fr).Nodup
  bd : ∀ i ∈ fr, 0 < i ∧ i < N.length
/-- The nodes behind one that was laid. -/
def layN (N : List NodeM) (fr : List Nat) (n : NodeM) : List NodeM := match fr.getLast? with | some i => N.set i n | none => N ++ [n]
end Go.Proofs.Ytgjabgneapdbiaa

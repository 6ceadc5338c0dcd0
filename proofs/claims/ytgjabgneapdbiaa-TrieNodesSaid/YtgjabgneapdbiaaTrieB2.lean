/- Chapter 9's tree in memory: what is read and written of it. -/
import Derived.Test.YtgjabgneapdbiaaTrieLay
namespace Go.Proofs.Ytgjabgneapdbiaa
open Go.RowKit Go.BigFrame
set_option linter.unusedSimpArgs false
set_option linter.unusedVariables false

/-- Worlds in which something holds. -/
structure Holds (p : World → Prop) where
  v : World
  has : p v
theorem GrowS.cell {S : Nat → Prop} {w : World} {b o : Nat} {v : Value} (h : w.cell? ⟨b, o, none⟩ = some v) (hs : ¬ S b) (z : GrowS S w) : z.v.cell? ⟨b, o, none⟩ = some v := (z.fr.cell (World.block_lt_of_cell? _ _ h) hs).trans h
theorem node_pfx {w : World} {b o : Nat} {x : NodeM} (h : CellsAt w b o x.cells) : CellsAt w b o x.p.cells := fun j v hj => by
  have hl : j < 2 := by rw [← PrefixM.length x.p]; exact (List.getElem?_eq_some_iff.1 hj).1
  have e : x.cells = x.p.cells ++ [.int .i64 x.v, .bool x.th, .int .i64 (x.l : Nat), .int .i64 (x.r : Nat)] := rfl
  exact h j v (by rw [e, List.getElem?_append_left (by rw [PrefixM.length]; exact hl)]; exact hj)
theorem pfx_now {w : World} {b o : Nat} {p : PrefixM} (h : CellsAt w b o p.cells) : w.cell? ⟨b, o, none⟩ = some (.int .u32 (p.addr : Nat)) ∧ w.cell? ⟨b, o + 1, none⟩ = some (.int .i64 p.len) := ⟨h 0 _ rfl, h 1 _ rfl⟩

/-- What is known of a node's elements. -/
structure NodeAt (w : World) (F : Nat → Prop) (g : Nat) (N : List NodeM) (fr : List Nat) (root many : Nat) (i : Nat) (x : NodeM) (gn nl nc : Nat) : Prop where
  len : nl = N.length
  lt : i < nl
  nlm : nl ≤ 1000000
  head : w.cell? ⟨g, 0, none⟩ = some (.slice (some ⟨gn, 0, none⟩) nl nc)
  cells : CellsAt w gn (i * 6) x.cells
  free : ∀ j, w.frozen? ⟨gn, j, none⟩ = false
  foot : F gn
  ne : gn ≠ g
  block : gn < w.heap.size
  set : ∀ j u (x' : NodeM), j < 6 → x'.cells = x.cells.set j u → TrieAt (w.setCell ⟨gn, i * 6 + j, none⟩ u) F g (N.set i x') fr root many
  hs : Fr (oneB gn) w w
theorem TrieAt.node {w : World} {F : Nat → Prop} {g root many : Nat} {N : List NodeM} {fr : List Nat} (h : TrieAt w F g N fr root many) {i : Nat} {x : NodeM} (hx : N[i]? = some x) : ∃ gn nl nc, NodeAt w F g N fr root many i x gn nl nc := by
  obtain ⟨⟨⟨na, nl, nc⟩, sf, h1, h2, h3, h4, h5⟩, h6, h7, h8, h9, h10⟩ := h
  obtain ⟨gn, rfl, hin, hcn, junk, hbk⟩ := own_at h2 NodeM.length hx
  have hne : gn ≠ g := fun e => by subst e; exact own_ne_blk h1 h2 (by decide) ⟨_, rfl, rfl⟩
  have hlen : nl = N.length := h2.1
  refine ⟨gn, nl, nc, hlen, hin, by omega, h1.cell 0, hcn, fun j => hbk.free j, h4 gn ⟨_, rfl, rfl⟩, hne, hbk.lt, fun j u x' hj hc => ?_, Fr.refl _ _⟩
  have hs : Fr (oneB gn) w (w.setCell ⟨gn, i * 6 + j, none⟩ u) := (Fr.refl (oneB gn) _).setCell (p := ⟨gn, i * 6 + j, none⟩) (.inr rfl) _
  refine ⟨⟨⟨some ⟨gn, 0, none⟩, nl, nc⟩, sf, h1.fr hs (fun e => hne e.symm), h2.setField NodeM.length rfl hx hj hc, h3.fr hs (fun b hb e => by unfold oneB at e; subst e; exact own_ne_own h3 h2 (by decide) b hb ⟨_, rfl, rfl⟩), h4, h5⟩, h6, fun b hb => hs.lt (h7 b hb), by rw [List.length_set]; exact h8, h9, h10⟩
theorem TrieAt.root_cell {w : World} {F : Nat → Prop} {g root many : Nat} {N : List NodeM} {fr : List Nat} (h : TrieAt w F g N fr root many) : w.cell? ⟨g, 2, none⟩ = some (.int .i64 (root : Nat)) ∧ w.cell? ⟨g, 3, none⟩ = some (.int .i64 (many : Nat)) ∧ (∀ j, w.frozen? ⟨g, j, none⟩ = false) ∧ g < w.heap.size := by
  obtain ⟨⟨sn, sf, h1, h2, h3, h4, h5⟩, h6, h7, h8, h9⟩ := h
  exact ⟨h1.cell 2, h1.cell 3, fun j => h1.free j, h1.lt⟩
theorem TrieAt.mono {w : World} {F F' : Nat → Prop} {g root many : Nat} {N : List NodeM} {fr : List Nat} (h : TrieAt w F g N fr root many) (hs : ∀ b, F b → F' b) (hl : ∀ b, F' b → b < w.heap.size) : TrieAt w F' g N fr root many := by
  obtain ⟨⟨sn, sf, h1, h2, h3, h4, h5⟩, h6, h7, h8, h9, h10⟩ := h
  exact ⟨⟨sn, sf, h1, h2, h3, fun b hb => hs b (h4 b hb), fun b hb => hs b (h5 b hb)⟩, hs g h6, hl, h8, h9, h10⟩
/-- Behind a later world's change. -/
theorem TrieAt.later {w w2 w3 : World} {F : Nat → Prop} {g root many : Nat} {N : List NodeM} {fr : List Nat} (h : TrieAt w3 (gr F w2 w3) g N fr root many) (hF : ∀ b, F b → b < w.heap.size) (h12 : w.heap.size ≤ w2.heap.size) (h23 : w2.heap.size ≤ w3.heap.size) : TrieAt w3 (gr F w w3) g N fr root many := by
  refine h.mono (fun b hb => ?_) (fun b hb => ?_)
  · rcases hb with hb | hb
    · exact .inl hb
    · exact .inr ⟨by omega, hb.2⟩
  · rcases hb with hb | hb
    · have := hF b hb; omega
    · exact hb.2
theorem TrieAt.later' {w w3 : World} {F G : Nat → Prop} {g root many : Nat} {N : List NodeM} {fr : List Nat} (h : TrieAt w3 G g N fr root many) (hG : ∀ b, G b → F b ∨ (w.heap.size ≤ b ∧ b < w3.heap.size)) (hF : ∀ b, F b → b < w.heap.size) (h13 : w.heap.size ≤ w3.heap.size) : TrieAt w3 (gr F w w3) g N fr root many :=
  h.mono hG (fun b hb => by rcases hb with hb | hb; have := hF b hb; omega; exact hb.2)
theorem TrieAt.set_many {w : World} {F : Nat → Prop} {g root many : Nat} {N : List NodeM} {fr : List Nat} (h : TrieAt w F g N fr root many) {m' : Nat} {v : Value} (hv : v = .int .i64 (m' : Nat)) (hm : m' ≤ 1000000) : TrieAt (w.setCell ⟨g, 3, none⟩ v) F g N fr root m' := by
  subst hv
  obtain ⟨⟨sn, sf, h1, h2, h3, h4, h5⟩, h6, h7, h8, h9, h10⟩ := h
  have hs : Fr (oneB g) w (w.setCell ⟨g, 3, none⟩ (.int .i64 (m' : Nat))) := (Fr.refl (oneB g) _).setCell (p := ⟨g, 3, none⟩) (.inr rfl) _
  exact ⟨⟨sn, sf, h1.set 3 _, h2.fr hs (fun b hb e => by unfold oneB at e; subst e; exact own_ne_blk h1 h2 (by decide) hb), h3.fr hs (fun b hb e => by unfold oneB at e; subst e; exact own_ne_blk h1 h3 (by decide) hb), h4, h5⟩, h6, fun b hb => hs.lt (h7 b hb), h8, h9, h10.1, hm⟩
theorem TrieAt.set_root {w : World} {F : Nat → Prop} {g root many : Nat} {N : List NodeM} {fr : List Nat} (h : TrieAt w F g N fr root many) {m' : Nat} {v : Value} (hv : v = .int .i64 (m' : Nat)) (hm : m' ≤ 1000000) : TrieAt (w.setCell ⟨g, 2, none⟩ v) F g N fr m' many := by
  subst hv
  obtain ⟨⟨sn, sf, h1, h2, h3, h4, h5⟩, h6, h7, h8, h9, h10⟩ := h
  have hs : Fr (oneB g) w (w.setCell ⟨g, 2, none⟩ (.int .i64 (m' : Nat))) := (Fr.refl (oneB g) _).setCell (p := ⟨g, 2, none⟩) (.inr rfl) _
  exact ⟨⟨sn, sf, h1.set 2 _, h2.fr hs (fun b hb e => by unfold oneB at e; subst e; exact own_ne_blk h1 h2 (by decide) hb), h3.fr hs (fun b hb e => by unfold oneB at e; subst e; exact own_ne_blk h1 h3 (by decide) hb), h4, h5⟩, h6, fun b hb => hs.lt (h7 b hb), h8, h9, hm, h10.2⟩

/-! ### Laid nodes -/
theorem layN_length (N : List NodeM) (fr : List Nat) (n : NodeM) : (layN N fr n).length = (layS ⟨N.length, fr⟩).n := by
  unfold layN layS
  split <;> rename_i h <;> simp only at h ⊢
  · simp [h]
  · simp [h]
theorem layN_at {N : List NodeM} {fr : List Nat} (n : NodeM) (hfr : ∀ i ∈ fr, i < N.length) : (layN N fr n)[layA ⟨N.length, fr⟩]? = some n := by
  unfold layN layA
  split <;> rename_i h <;> simp only at h ⊢
  · obtain ⟨ys, e⟩ := List.getLast?_eq_some_iff.1 h
    rename_i i
    have := hfr i (by rw [e]; simp)
    simp [h, this]
  · simp [h]
theorem layN_other {N : List NodeM} {fr : List Nat} (n : NodeM) {i : Nat} (hi : i < N.length) (hf : i ∉ fr) : (layN N fr n)[i]? = N[i]? := by
  unfold layN
  split <;> rename_i h
  · obtain ⟨ys, e⟩ := List.getLast?_eq_some_iff.1 h
    rename_i j
    have hne : j ≠ i := fun hj => hf (by rw [e, hj]; simp)
    rw [List.getElem?_set_ne hne]
  · rw [List.getElem?_append_left hi]
theorem lay_pos {N : List NodeM} {fr : List Nat} (h0 : 0 < N.length) (hfr : ∀ i ∈ fr, 0 < i) : 0 < layA ⟨N.length, fr⟩ := by
  unfold layA
  split <;> rename_i h <;> simp only at h
  · obtain ⟨ys, e⟩ := List.getLast?_eq_some_iff.1 h
    rename_i i
    exact hfr i (by rw [e]; simp)
  · exact h0
theorem lay_fresh {N : List NodeM} {fr : List Nat} {ids : List Nat} (hn : (ids ++ fr).Nodup) (hb : ∀ i ∈ ids, i < N.length) : layA ⟨N.length, fr⟩ ∉ ids := by
  unfold layA
  split <;> rename_i h <;> simp only at h
  · obtain ⟨ys, e⟩ := List.getLast?_eq_some_iff.1 h
    rename_i i
    intro hi
    rw [List.nodup_append] at hn
    exact hn.2.2 i hi i (by rw [e]; simp) rfl
  · intro hi; exact Nat.lt_irrefl _ (hb _ hi)
theorem lay_free_sub {N : List NodeM} {fr : List Nat} : ∀ i ∈ (layS ⟨N.length, fr⟩).free, i ∈ fr := by
  unfold layS
  split
  · intro i hi; exact List.dropLast_subset _ hi
  · intro i hi; exact hi
theorem lay_free_nodup {N : List NodeM} {fr : List Nat} (hn : fr.Nodup) (hb : ∀ i ∈ fr, i < N.length) : layA ⟨N.length, fr⟩ ∉ (layS ⟨N.length, fr⟩).free := by
  unfold layA layS
  cases h : fr.getLast? with
  | some i =>
    obtain ⟨ys, e⟩ := List.getLast?_eq_some_iff.1 h
    subst e
    simp only [List.dropLast_concat]
    intro hi
    rw [List.nodup_append] at hn
    exact hn.2.2 i hi i (by simp) rfl
  | none =>
    have e : fr = [] := by simpa using h
    subst e; simp
end Go.Proofs.Ytgjabgneapdbiaa

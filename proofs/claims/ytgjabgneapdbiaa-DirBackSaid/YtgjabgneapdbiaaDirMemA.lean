/- Chapter 10's tables in memory. dir.painted, owned, at; the two tests that paint is given. -/
import Derived.Test.YtgjabgneapdbiaaDirPlain
import Derived.Test.YtgjabgneapdbiaaDirMap
import Derived.Test.YtgjabgneapdbiaaTrieLaid
import Derived.Test.YtgjabgneapdbiaaTrieGet
namespace Go.Proofs.Ytgjabgneapdbiaa
open Go.RowKit Go.BigFrame
set_option linter.unusedSimpArgs false
set_option linter.unusedVariables false
attribute [local irreducible] wpMix wpAnyG

def PlM.cells (x : PlM) : List Value := [.int .i64 x.v, .int .i16 (x.deep : Nat), .int .i32 (x.block : Nat)]
theorem PlM.length (x : PlM) : x.cells.length = 3 := rfl
theorem PlM.mem (x : PlM) : ∀ u ∈ x.cells, u.oneCell' = true := by
  intro u hu
  simp only [PlM.cells, List.mem_cons, List.not_mem_nil, or_false] at hu
  rcases hu with rfl | rfl | rfl <;> rfl
def blkC (f : Nat → PlM) : List Value := ((List.range 256).map f).flatMap PlM.cells
theorem blkC_length (f : Nat → PlM) : (blkC f).length = 768 := by
  unfold blkC
  rw [flat_length PlM.length, List.length_map, List.length_range]
theorem blkC_mem (f : Nat → PlM) : ∀ u ∈ blkC f, u.oneCell' = true := flat_mem PlM.mem _
def frC (n : Nat) : List Value := [.int .i32 (n : Nat)]
theorem frC_length (n : Nat) : (frC n).length = 1 := rfl
theorem frC_mem (n : Nat) : ∀ u ∈ frC n, u.oneCell' = true := by
  intro u hu
  simp only [frC, List.mem_singleton] at hu
  subst hu; rfl
def dirC (gt : Nat) (d : Int) (st sb sf : SlV) (gm : Nat) (most : Int) : List Value :=
  [.pointer (some ⟨gt, 0, none⟩), .int .u32 d, .int .i32 0, .int .u32 0, .slice st.a st.len st.cap, .slice sb.a sb.len sb.cap, .slice sf.a sf.len sf.cap, .map (some gm), .int .i64 most]

theorem map_upf (f : Nat → PlM) (i : Nat) (x : PlM) : (List.range 256).map (upf f i x) = ((List.range 256).map f).set i x := by
  apply List.ext_getElem?
  intro j
  rw [List.getElem?_set, List.getElem?_map]
  by_cases hj : j < 256
  · rw [List.getElem?_range hj]
    by_cases e : i = j
    · subst e; simp [upf, hj]
    · simp [upf, e, Ne.symm e, hj]
  · rw [List.getElem?_eq_none (by simpa using hj)]
    split
    · rename_i e
      split
      · rename_i h; simp at h; omega
      · rfl
    · rw [List.getElem?_map, List.getElem?_eq_none (by simpa using hj)]; rfl
theorem blkC_get {f : Nat → PlM} {i : Nat} (hi : i < 256) : ((List.range 256).map f)[i]? = some (f i) := by
  rw [List.getElem?_map, List.getElem?_range hi]; rfl
theorem blkC_put (f : Nat → PlM) {i : Nat} (hi : i < 256) (x : PlM) : blkC (upf f i x) = (blkC f).take (i * 3) ++ x.cells ++ (blkC f).drop (i * 3 + 3) := by
  have h := flat_setN PlM.length [] ((List.range 256).map f) i (by simpa using hi) (x' := x)
  simp only [List.append_nil] at h
  unfold blkC
  rw [map_upf, ← h]
theorem blkC_put1 (f : Nat → PlM) {i : Nat} (hi : i < 256) (k : Nat) : blkC (upf f i { f i with block := k }) = (blkC f).set (i * 3 + 2) (.int .i32 (k : Nat)) := by
  have h := flat_set1 PlM.length (x' := { f i with block := k }) (u := .int .i32 (k : Nat)) (j := 2) [] ((List.range 256).map f) i (f i) (blkC_get hi) (by decide) rfl
  simp only [List.append_nil] at h
  unfold blkC
  rw [map_upf, ← h]

section
variable {α : Type} {w : World} {e : TypeId} {N : Nat} {cells : α → List Value} {s : SlV} {xs : List α}
theorem flat_setSub (hN : ∀ x, (cells x).length = N) {x' : α} {ns : List Value} {j : Nat} (hj : j + ns.length ≤ N) (junk : List Value) : ∀ (xs : List α) (k : Nat) (x : α), xs[k]? = some x → cells x' = (cells x).take j ++ ns ++ (cells x).drop (j + ns.length) →
    (xs.flatMap cells ++ junk).take (k * N + j) ++ ns ++ (xs.flatMap cells ++ junk).drop (k * N + j + ns.length) = (xs.set k x').flatMap cells ++ junk
  | [], k, x, h, _ => by simp at h
  | y :: ys, 0, x, h, hc => by
    simp only [List.getElem?_cons_zero, Option.some.injEq] at h
    subst h
    rw [Nat.zero_mul, Nat.zero_add, List.set_cons_zero, List.flatMap_cons, List.flatMap_cons, hc, List.append_assoc (cells y), List.take_append_of_le_length (by rw [hN]; omega), List.drop_append_of_le_length (by rw [hN]; omega)]
    simp only [List.append_assoc]
  | y :: ys, k + 1, x, h, hc => by
    simp only [List.getElem?_cons_succ] at h
    have ih := flat_setSub hN hj junk ys k x h hc
    have e1 : (k + 1) * N + j = N + (k * N + j) := by rw [Nat.add_mul]; omega
    rw [List.set_cons_succ, List.flatMap_cons, List.flatMap_cons, List.append_assoc (cells y), List.append_assoc (cells y), ← ih, e1, Nat.add_assoc N]
    have t1 : (cells y ++ (ys.flatMap cells ++ junk)).take (N + (k * N + j)) = cells y ++ (ys.flatMap cells ++ junk).take (k * N + j) := by
      rw [← hN y, List.take_length_add_append]
    have t2 : (cells y ++ (ys.flatMap cells ++ junk)).drop (N + (k * N + j + ns.length)) = (ys.flatMap cells ++ junk).drop (k * N + j + ns.length) := by
      rw [← hN y, List.drop_length_add_append]
    rw [t1, t2]
    simp only [List.append_assoc]
/-- A store of a struct into a part of an element. -/
theorem OwnL.setSub (h : OwnL w e N cells s xs) (hN : ∀ x, (cells x).length = N) {g : Nat} (hg : s.a = some ⟨g, 0, none⟩) {k : Nat} {x x' : α} (hx : xs[k]? = some x) {j : Nat} {ns : List Value} (hj : j + ns.length ≤ N) (hc : cells x' = (cells x).take j ++ ns ++ (cells x).drop (j + ns.length))
    {t : TypeId} {P : Program} (hi : (P.info? t).map (·.size) = some ns.length) (h1c : ∀ u ∈ ns, u.oneCell' = true) :
    ∃ w', (storeVar t ⟨g, k * N + j, none⟩ (.agg ns.toArray)).run P w = .ok () w' ∧ OwnL w' e N cells s (xs.set k x') ∧ Fr (oneB g) w w' ∧ w'.heap.size = w.heap.size := by
  obtain ⟨h1, h2⟩ := h
  rcases h2 with rfl | ⟨g', junk, ha, hb, hl, hle, hcm⟩
  · simp at hg
  · rw [hg] at ha
    simp only [Option.some.injEq, Addr.mk.injEq, and_true] at ha
    subst ha
    have hk : k < xs.length := (List.getElem?_eq_some_iff.1 hx).1
    have hfl : (xs.flatMap cells).length = xs.length * N := flat_length hN xs
    have hkN : k * N + N ≤ xs.length * N := by rw [← Nat.succ_mul]; exact Nat.mul_le_mul_right _ hk
    have hst := run_storeCells_at P g (k * N + j) e ns 0 _ w hb (by rw [Nat.add_zero, List.size_toArray, List.length_append, hfl]; omega) h1c
    refine ⟨w.setRow g ((xs.set k x').flatMap cells ++ junk).toArray, ?_, ⟨by rw [List.length_set]; exact h1, .inr ⟨g, junk, hg, hb.setRow, ?_, hle, hcm⟩⟩, (Fr.refl (oneB g) _).setRow (.inr (show oneB g g from rfl)) _, size_setRow _ _ _⟩
    · cases hq : P.info? t with
      | none => simp [hq] at hi
      | some i =>
        have hsz : i.size = ns.length := by simpa [hq] using hi
        simp only [Nat.add_zero] at hst
        rw [flat_setSub hN hj junk xs k x hx hc] at hst
        simp [storeVar, sizeOf, typeInfo, hq, Value.cells, hsz, hst]
    · rw [List.length_append, flat_length hN, List.length_set, ← flat_length hN, ← List.length_append]; exact hl
end

/-- The tables, the map of owners and the Dir itself, in blocks of their own. -/
structure CoreAt (w : World) (C : Nat → Prop) (g gt : Nat) (most : Int) (st sb sf : SlV) (gm : Nat) (X : TS) (nb : Nat) : Prop where
  blk : Blk w g (dirC gt 1 st sb sf gm most).toArray 106
  tab : OwnL w 111 3 PlM.cells st X.S.tab
  bls : OwnL w 117 768 blkC sb X.S.blk
  fre : OwnL w 21 1 frC sf X.S.free
  map : KMapS PrefixM.cells w gm X.n X.own
  here : C g ∧ C gm ∧ (∀ b, ownB st b → C b) ∧ (∀ b, ownB sb b → C b) ∧ ∀ b, ownB sf b → C b
  lt : ∀ b, C b → b < w.heap.size
  len : X.S.tab.length = 65536 ∧ X.S.blk.length ≤ nb ∧ X.S.free.length ≤ nb ∧ nb ≤ 1000000
  pos : ∀ o c, X.own o = some c → 1 ≤ c ∧ c ≤ nb
theorem CoreAt.fr {w w' : World} {C S : Nat → Prop} {g gt gm nb : Nat} {most : Int} {st sb sf : SlV} {X : TS} (h : CoreAt w C g gt most st sb sf gm X nb) (f : Fr S w w') (hs : ∀ b, C b → ¬ S b) : CoreAt w' C g gt most st sb sf gm X nb := by
  obtain ⟨h1, h2, h3, h4, h5, ⟨k1, k2, k3, k4, k5⟩, h7, h8, h9⟩ := h
  exact ⟨h1.fr f (hs _ k1), h2.fr f (fun b hb => hs b (k3 b hb)), h3.fr f (fun b hb => hs b (k4 b hb)), h4.fr f (fun b hb => hs b (k5 b hb)), h5.fr f (hs _ k2), ⟨k1, k2, k3, k4, k5⟩, fun b hb => f.lt (h7 b hb), h8, h9⟩
theorem CoreAt.frN {w w' : World} {C : Nat → Prop} {g gt gm nb : Nat} {most : Int} {st sb sf : SlV} {X : TS} (h : CoreAt w C g gt most st sb sf gm X nb) (f : Fr noB w w') : CoreAt w' C g gt most st sb sf gm X nb := h.fr f (fun _ _ h => h)
/-- A place's address. -/
def adr (st sb : SlV) : Loc → Option Addr
  | .t h => st.a.map (fun a => ⟨a.block, h * 3, none⟩)
  | .b n i => sb.a.map (fun a => ⟨a.block, n * 768 + i * 3, none⟩)
theorem CoreAt.tabAt {w : World} {C : Nat → Prop} {g gt gm nb : Nat} {most : Int} {st sb sf : SlV} {X : TS} (h : CoreAt w C g gt most st sb sf gm X nb) : ∃ gT, st.a = some ⟨gT, 0, none⟩ ∧ st.len = 65536 ∧ gT ≠ g ∧ gT < w.heap.size := by
  obtain ⟨x, hx⟩ : ∃ x, X.S.tab[0]? = some x := ⟨_, List.getElem?_eq_getElem (by rw [h.len.1]; decide)⟩
  obtain ⟨gT, h1, h2, h3, h4⟩ := own_at h.tab PlM.length hx
  refine ⟨gT, h1, h.tab.1.trans h.len.1, fun e => ?_, h.tab.lt gT ⟨_, h1, rfl⟩⟩
  subst e
  obtain ⟨_, hb⟩ := h.tab
  rcases hb with rfl | ⟨g', junk, ha, hb, _⟩
  · simp at h1
  · rw [h1] at ha
    simp only [Option.some.injEq, Addr.mk.injEq, and_true] at ha
    subst ha
    have := hb.symm.trans h.blk
    simp at this
theorem CoreAt.blsAt {w : World} {C : Nat → Prop} {g gt gm nb : Nat} {most : Int} {st sb sf : SlV} {X : TS} (h : CoreAt w C g gt most st sb sf gm X nb) {n : Nat} (hn : n < X.S.blk.length) : ∃ gB, sb.a = some ⟨gB, 0, none⟩ ∧ gB ≠ g ∧ gB < w.heap.size := by
  obtain ⟨x, hx⟩ : ∃ x, X.S.blk[n]? = some x := ⟨_, List.getElem?_eq_getElem hn⟩
  obtain ⟨gB, h1, h2, h3, h4⟩ := own_at h.bls blkC_length hx
  refine ⟨gB, h1, fun e => ?_, h.bls.lt gB ⟨_, h1, rfl⟩⟩
  subst e
  obtain ⟨_, hb⟩ := h.bls
  rcases hb with rfl | ⟨g', junk, ha, hb, _⟩
  · simp at h1
  · rw [h1] at ha
    simp only [Option.some.injEq, Addr.mk.injEq, and_true] at ha
    subst ha
    have := hb.symm.trans h.blk
    simp at this
theorem bls_get {S : DS} {n : Nat} (hn : n < S.blk.length) : S.blk[n]? = some (S.b n) := by
  simp [DS.b, hn]
theorem tab_get {S : DS} {h : Nat} (hh : h < S.tab.length) : S.tab[h]? = some (S.t h) := by
  simp [DS.t, hh]
/-- A place in memory. -/
theorem CoreAt.get {w : World} {C : Nat → Prop} {g gt gm nb : Nat} {most : Int} {st sb sf : SlV} {X : TS} (h : CoreAt w C g gt most st sb sf gm X nb) {L : Loc} (hL : X.S.has L) :
    ∃ b off, adr st sb L = some ⟨b, off, none⟩ ∧ CellsAt w b off (X.S.get L).cells ∧ C b ∧ b ≠ g ∧ (∀ j, w.frozen? ⟨b, j, none⟩ = false) := by
  cases L with
  | t h' =>
    obtain ⟨gT, h1, _, h3, _⟩ := h.tabAt
    obtain ⟨gT', h1', _, h2, _⟩ := own_at h.tab PlM.length (tab_get hL)
    rw [h1] at h1'
    simp only [Option.some.injEq, Addr.mk.injEq, and_true] at h1'
    subst h1'
    refine ⟨gT, h' * 3, by unfold adr; rw [h1]; rfl, h2, h.here.2.2.1 _ ⟨_, h1, rfl⟩, h3, fun j => ?_⟩
    obtain ⟨_, hb⟩ := h.tab
    rcases hb with rfl | ⟨g', junk, ha, hb, _⟩
    · simp at h1
    · rw [h1] at ha
      simp only [Option.some.injEq, Addr.mk.injEq, and_true] at ha
      subst ha
      exact hb.free j
  | b n i =>
    obtain ⟨hn, hi⟩ := hL
    obtain ⟨gB, h1, h3, _⟩ := h.blsAt hn
    obtain ⟨gB', h1', _, h2, _⟩ := own_at h.bls blkC_length (bls_get hn)
    rw [h1] at h1'
    simp only [Option.some.injEq, Addr.mk.injEq, and_true] at h1'
    subst h1'
    refine ⟨gB, n * 768 + i * 3, by unfold adr; rw [h1]; rfl, ?_, h.here.2.2.2.1 _ ⟨_, h1, rfl⟩, h3, fun j => ?_⟩
    · intro j v hj
      have hj3 : j < 3 := (List.getElem?_eq_some_iff.1 hj).1
      have hg := flat_get PlM.length [] ((List.range 256).map (X.S.b n)) i _ j (blkC_get hi) hj3
      rw [List.append_nil] at hg
      rw [Nat.add_assoc]
      exact h2 (i * 3 + j) v (by unfold blkC; rw [hg]; exact hj)
    · obtain ⟨_, hb⟩ := h.bls
      rcases hb with rfl | ⟨g', junk, ha, hb, _⟩
      · simp at h1
      · rw [h1] at ha
        simp only [Option.some.injEq, Addr.mk.injEq, and_true] at ha
        subst ha
        exact hb.free j
theorem own_other {α : Type} {w w' : World} {e : TypeId} {N : Nat} {cells : α → List Value} {s : SlV} {xs : List α} (h : OwnL w e N cells s xs) {b : Nat} {cs : Array Value} {t : TypeId} (hb : Blk w b cs t) (hne : t ≠ e) (f : Fr (oneB b) w w') : OwnL w' e N cells s xs := by
  refine h.fr f ?_
  rintro b' ⟨a, ha, rfl⟩ e'
  unfold oneB at e'
  obtain ⟨_, h2⟩ := h
  rcases h2 with rfl | ⟨g', junk, ha', hb', _⟩
  · simp at ha
  · rw [ha] at ha'
    obtain rfl := Option.some.inj ha'
    simp only at e'
    subst e'
    have := hb'.symm.trans hb
    simp only [Option.some.injEq, Obj.cells.injEq] at this
    exact hne this.2.1.symm
theorem map_other {w w' : World} {gm n : Nat} {f : OwnF} (h : KMapS PrefixM.cells w gm n f) {b : Nat} {cs : Array Value} {t : TypeId} (hb : Blk w b cs t) (hf : Fr (oneB b) w w') : KMapS PrefixM.cells w' gm n f := by
  refine h.fr hf (fun e => ?_)
  unfold oneB at e
  subst e
  obtain ⟨es, c, m, h1, _⟩ := h
  have := h1.symm.trans hb
  simp at this
theorem own_blk {α : Type} {w : World} {e : TypeId} {N : Nat} {cells : α → List Value} {s : SlV} {xs : List α} (h : OwnL w e N cells s xs) {g : Nat} (hg : s.a = some ⟨g, 0, none⟩) : ∃ cs, Blk w g cs e := by
  obtain ⟨_, h2⟩ := h
  rcases h2 with rfl | ⟨g', junk, ha, hb, _⟩
  · simp at hg
  · rw [hg] at ha
    simp only [Option.some.injEq, Addr.mk.injEq, and_true] at ha
    subst ha
    exact ⟨_, hb⟩
def TS.putS (X : TS) (L : Loc) (x : PlM) : TS := { X with S := X.S.put L x }
theorem put_lens (S : DS) (L : Loc) (x : PlM) : (S.put L x).tab.length = S.tab.length ∧ (S.put L x).blk.length = S.blk.length ∧ (S.put L x).free = S.free := by
  cases L <;> simp [DS.put]
/-- A store of a whole place. -/
theorem CoreAt.put {w : World} {C : Nat → Prop} {g gt gm nb : Nat} {most : Int} {st sb sf : SlV} {X : TS} (h : CoreAt w C g gt most st sb sf gm X nb) {L : Loc} (hL : X.S.has L) (x : PlM) :
    ∃ b off w', adr st sb L = some ⟨b, off, none⟩ ∧ (storeVar 111 ⟨b, off, none⟩ (.agg x.cells.toArray)).run Try.prog w = .ok () w' ∧ CoreAt w' C g gt most st sb sf gm (X.putS L x) nb ∧ Fr (oneB b) w w' ∧ C b ∧ w'.heap.size = w.heap.size := by
  obtain ⟨k1, k2, k3⟩ := put_lens X.S L x
  have hlen : (X.S.put L x).tab.length = 65536 ∧ (X.S.put L x).blk.length ≤ nb ∧ (X.S.put L x).free.length ≤ nb ∧ nb ≤ 1000000 := by rw [k1, k2, k3]; exact h.len
  cases L with
  | t h' =>
    obtain ⟨gT, h1, _, h3, _⟩ := h.tabAt
    obtain ⟨w', hr, ho, hf, hsz⟩ := h.tab.setElem PlM.length h1 hL (x' := x) (t := 111) (P := Try.prog) (by kernel_rfl) x.mem
    obtain ⟨cs, hb⟩ := own_blk h.tab h1
    have hc : C gT := h.here.2.2.1 _ ⟨_, h1, rfl⟩
    exact ⟨gT, h' * 3, w', by unfold adr; rw [h1]; rfl, hr, ⟨h.blk.fr hf (fun e => h3 (by unfold oneB at e; exact e.symm)), ho, own_other h.bls hb (by decide) hf, own_other h.fre hb (by decide) hf, map_other h.map hb hf, h.here, fun b hb => by rw [hsz]; exact h.lt b hb, hlen, h.pos⟩, hf, hc, hsz⟩
  | b n i =>
    obtain ⟨hn, hi⟩ := hL
    obtain ⟨gB, h1, h3, _⟩ := h.blsAt hn
    obtain ⟨w', hr, ho, hf, hsz⟩ := h.bls.setSub blkC_length h1 (bls_get hn) (x' := upf (X.S.b n) i x) (j := i * 3) (ns := x.cells) (by rw [PlM.length]; omega) (blkC_put _ hi x) (t := 111) (P := Try.prog) (by kernel_rfl) x.mem
    obtain ⟨cs, hb⟩ := own_blk h.bls h1
    have hc : C gB := h.here.2.2.2.1 _ ⟨_, h1, rfl⟩
    exact ⟨gB, n * 768 + i * 3, w', by unfold adr; rw [h1]; rfl, hr, ⟨h.blk.fr hf (fun e => h3 (by unfold oneB at e; exact e.symm)), own_other h.tab hb (by decide) hf, ho, own_other h.fre hb (by decide) hf, map_other h.map hb hf, h.here, fun b hb => by rw [hsz]; exact h.lt b hb, hlen, h.pos⟩, hf, hc, hsz⟩
/-- A store of a place's block number. -/
theorem CoreAt.putB {w : World} {C : Nat → Prop} {g gt gm nb : Nat} {most : Int} {st sb sf : SlV} {X : TS} (h : CoreAt w C g gt most st sb sf gm X nb) {L : Loc} (hL : X.S.has L) (k : Nat) {b off : Nat} (ha : adr st sb L = some ⟨b, off, none⟩) :
    CoreAt (w.setCell ⟨b, off + 2, none⟩ (.int .i32 (k : Nat))) C g gt most st sb sf gm (X.putS L { X.S.get L with block := k }) nb ∧ C b ∧ Fr (oneB b) w (w.setCell ⟨b, off + 2, none⟩ (.int .i32 (k : Nat))) := by
  obtain ⟨k1, k2, k3⟩ := put_lens X.S L { X.S.get L with block := k }
  have hlen : (X.S.put L { X.S.get L with block := k }).tab.length = 65536 ∧ (X.S.put L { X.S.get L with block := k }).blk.length ≤ nb ∧ (X.S.put L { X.S.get L with block := k }).free.length ≤ nb ∧ nb ≤ 1000000 := by rw [k1, k2, k3]; exact h.len
  have hf : Fr (oneB b) w (w.setCell ⟨b, off + 2, none⟩ (.int .i32 (k : Nat))) := (Fr.refl (oneB b) _).setCell (p := ⟨b, off + 2, none⟩) (.inr rfl) _
  have hsz : (w.setCell ⟨b, off + 2, none⟩ (.int .i32 (k : Nat))).heap.size = w.heap.size := by simp
  cases L with
  | t h' =>
    obtain ⟨gT, h1, _, h3, _⟩ := h.tabAt
    unfold adr at ha
    rw [h1] at ha
    simp only [Option.map_some, Option.some.injEq, Addr.mk.injEq, and_true] at ha
    obtain ⟨rfl, rfl⟩ := ha
    obtain ⟨cs, hb⟩ := own_blk h.tab h1
    have ho := h.tab.setField PlM.length h1 (tab_get hL) (x' := { X.S.get (.t h') with block := k }) (j := 2) (u := .int .i32 (k : Nat)) (by decide) rfl
    exact ⟨⟨h.blk.fr hf (fun e => h3 (by unfold oneB at e; exact e.symm)), ho, own_other h.bls hb (by decide) hf, own_other h.fre hb (by decide) hf, map_other h.map hb hf, h.here, fun b hb => by rw [hsz]; exact h.lt b hb, hlen, h.pos⟩, h.here.2.2.1 _ ⟨_, h1, rfl⟩, hf⟩
  | b n i =>
    obtain ⟨hn, hi⟩ := hL
    obtain ⟨gB, h1, h3, _⟩ := h.blsAt hn
    unfold adr at ha
    rw [h1] at ha
    simp only [Option.map_some, Option.some.injEq, Addr.mk.injEq, and_true] at ha
    obtain ⟨rfl, rfl⟩ := ha
    obtain ⟨cs, hb⟩ := own_blk h.bls h1
    have ho := h.bls.setField blkC_length h1 (bls_get hn) (x' := upf (X.S.b n) i { X.S.b n i with block := k }) (j := i * 3 + 2) (u := .int .i32 (k : Nat)) (by omega) (blkC_put1 _ hi k)
    rw [← Nat.add_assoc] at ho
    exact ⟨⟨h.blk.fr hf (fun e => h3 (by unfold oneB at e; exact e.symm)), own_other h.tab hb (by decide) hf, ho, own_other h.fre hb (by decide) hf, map_other h.map hb hf, h.here, fun b hb => by rw [hsz]; exact h.lt b hb, hlen, h.pos⟩, h.here.2.2.2.1 _ ⟨_, h1, rfl⟩, hf⟩
end Go.Proofs.Ytgjabgneapdbiaa

namespace Go.Proofs.Ytgjabgneapdbiaa
open Go.RowKit Go.BigFrame
set_option linter.unusedSimpArgs false
set_option linter.unusedVariables false
attribute [local irreducible] wpMix wpAnyG

theorem PlM.onea (x : PlM) : x.cells.toArray.all (·.oneCell') = true := by
  rw [List.all_toArray]
  rfl
set_option maxRecDepth 100000 in
set_option maxHeartbeats 1000000 in
theorem dir_painted (p : PrefixM) (hb : 0 ≤ p.len ∧ p.len ≤ 32) (v : Int) (w : World) :
    Calls Try.prog 66 #[.agg p.cells.toArray, .int .i64 v] w fun e w' => e = .returned (.agg (paintTo p v).cells.toArray) ∧ Fr noB w w' := by
  obtain ⟨a, len⟩ := p
  obtain ⟨k, rfl⟩ : ∃ k : Nat, len = (k : Int) := ⟨len.toNat, by simp only at hb; omega⟩
  have hk : k ≤ 32 := by simp only at hb; omega
  have hpt : paintTo ⟨a, (k : Int)⟩ v = ⟨v, k + 1, 0⟩ := by unfold paintTo; simp only [PlM.mk.injEq, true_and, and_true]; omega
  rw [hpt]
  clear hb hpt
  go_enter Try.func66, Try.ntmps66
  go_upto_region 1 with (fail)
  refine wp_gen (fun W => CellsAt W w.heap.size 0 (PrefixM.mk a (k : Int)).cells ∧ Blk W (w.heap.size + 1) zPl.cells.toArray 111 ∧ Fr noB w W) ⟨cells_new _ _ _ rfl |>.alloc _, ?_, ((Fr.refl _ _).alloc _).alloc _⟩ ?_
  · have h := Blk.alloc_new (w.alloc (.cells (PrefixM.mk a (k : Int)).cells.toArray 28)) zPl.cells.toArray 111
    rw [World.size_alloc] at h
    exact h
  rintro w1 ⟨hc, hb, hf⟩
  have c1 : w1.cell? ⟨w.heap.size, 1, none⟩ = some (.int .i64 (k : Int)) := by have := hc 1 _ rfl; rwa [Nat.zero_add] at this
  have HB := hide hb; have Hf := hide hf
  clear hc hb hf
  go_wp2_with (first | (refine wpList_build_as rfl 111 _ rfl (PlM.mk v (k + 1) 0).cells.toArray (by kernel_rfl) ?_) | (refine wpList_store_row rfl 111 (.tmp 4) (.tmp 10) rfl _ (PlM.mk v (k + 1) 0).cells.toArray rfl rfl _ _ HB.out (by kernel_rfl) rfl (PlM.onea _) ?_))
  exact bodyPost_ret (results_s Try.results66 _ _ _ 0 (PlM.mk v (k + 1) 0).cells _ rfl (Blk.cells (HB.out.setRow)) Try.underlying111 rfl (by kernel_rfl)) rfl ⟨rfl, Hf.out.setRow (.inl (by omega)) _⟩

theorem norm16 {a : Nat} (ha : a < 4294967296) : normP ⟨a, 16⟩ = oh (a / 65536) := by
  unfold normP oh
  simp only
  rw [normN_eq _ _ ha]
  rfl
theorem norm24 {a : Nat} (ha : a < 4294967296) : normP ⟨a, 24⟩ = ob (a / 256) := by
  unfold normP ob
  simp only
  rw [normN_eq _ _ ha]
  rfl
def ownedU (p : PrefixM) : Nat → List PrefixM
  | 0 => []
  | 1 => if 16 < p.len then [oh (p.addr / 65536)] else []
  | _ => ownedL p
def OwdAt (p : PrefixM) (w0 : World) (lv kv : Value) (wr : World) : Prop := ∃ (k : Nat) (s : SlV), k ≤ 2 ∧ kv = .int .i64 k ∧ lv = .slice s.a s.len s.cap ∧ NewP w0 wr s (ownedU p k) ∧ Fr noB w0 wr
set_option maxRecDepth 100000 in
set_option maxHeartbeats 4000000 in
theorem dir_owned (p : PrefixM) (hp : p.wf) (w : World) :
    Calls Try.prog 64 #[.agg p.cells.toArray] w (ListTo w (ownedL p)) := by
  have hpa := hp.1
  have Hp := hide hp
  clear hp
  go_enter Try.func64, Try.ntmps64
  go_upto_region 2 with (fail)
  refine wp_gen (fun W => CellsAt W w.heap.size 0 p.cells ∧ Fr noB w W) ⟨by (repeat (first | assumption | exact cells_new _ _ _ (by simp) | refine CellsAt.alloc ?_ _ | refine CellsAt.drew ?_ | refine CellsAt.drewN ?_ _)), (Fr.refl _ _).alloc _⟩ ?_
  rintro w1 ⟨hc1, hf1⟩
  have Hc1 := hide hc1; have Hf1 := hide hf1
  clear hc1 hf1
  go_wp2_with (refine wpList_buildSlice rfl 48 2 _ rfl #[(0, .int .i64 16), (1, .int .i64 24)] (by kernel_rfl) Try.underlying48 (.int .i64 0) 1 (by kernel_rfl) #[.int .i64 16, .int .i64 24] (by decide) (by decide) (by kernel_rfl) ?_)
  refine wp_gen (fun W => CellsAt W w1.heap.size 0 [.int .i64 16, .int .i64 24] ∧ Fr noB w1 W) ⟨cells_new _ _ _ rfl, (Fr.refl _ _).alloc _⟩ ?_
  rintro w2 ⟨hc2, hf2⟩
  have Hc2 := hide hc2; have Hf2 := hide (Hf1.out.tr hf2); have Hp2 := hide (Hc1.out.fr hf2 (fun h => h))
  clear hc2 hf2
  go_loopw [3, 8] (OwdAt p w2) (fun _ k _ => 2 - (intOf k).toNat)
  case atStart => exact ⟨0, ⟨none, 0, 0⟩, by omega, rfl, rfl, NewL.nil _ _ _ _ _, Fr.refl _ _⟩
  case round =>
    obtain ⟨k, ⟨ta, tl, tc⟩, hk, rfl, rfl, hnew, hf3⟩ := hrel
    have Hnew := hide hnew; have Hf3 := hide hf3
    have Hp3 := hide (Hp2.out.fr hf3 (fun h => h))
    have p0 : wr.cell? ⟨w.heap.size, 0, none⟩ = some (.int .u32 (p.addr : Nat)) := by have := Hp3.out 0 _ rfl; rwa [Nat.zero_add] at this
    have p1 : wr.cell? ⟨w.heap.size, 1, none⟩ = some (.int .i64 p.len) := by have := Hp3.out 1 _ rfl; rwa [Nat.zero_add] at this
    have c0 : wr.cell? ⟨w1.heap.size, 0, none⟩ = some (.int .i64 16) := by have := (Hc2.out.fr hf3 (fun h => h)) 0 _ rfl; rwa [Nat.zero_add] at this
    have c1 : wr.cell? ⟨w1.heap.size, 1, none⟩ = some (.int .i64 24) := by have := (Hc2.out.fr hf3 (fun h => h)) 1 _ rfl; rwa [Nat.zero_add] at this
    have htl : tl ≤ 2 := by
      have h : tl = _ := hnew.len
      have : (ownedU p k).length ≤ 2 := by
        unfold ownedU ownedL
        split
        · simp
        · split <;> simp
        · rw [List.length_append]
          have h1 : (if 16 < p.len then [oh (p.addr / 65536)] else []).length ≤ 1 := by split <;> simp
          have h2 : (if 24 < p.len then [ob (p.addr / 256)] else []).length ≤ 1 := by split <;> simp
          omega
      omega
    clear hnew hf3
    match k, hk with
    | 0, _ =>
      by_cases h16 : p.len > 16
      · have Hn := hide (show (PrefixM.mk p.addr 16).wf from ⟨hpa, by unfold i64b; simp only; omega⟩)
        go_wp2_with (refine wpList_build_as rfl 28 _ rfl (PrefixM.mk p.addr 16).cells.toArray (by kernel_rfl) ?_)
        refine (addr_Norm ⟨p.addr, 16⟩ Hn.out _).mono ?_
        rintro e w4 ⟨rfl, hf4⟩
        rw [norm16 hpa]
        have Hf4 := hide (Hf3.out.tr hf4); have Hnew4 := hide (Hnew.out.fr hf4)
        have hpre : (ownedU p 0).length = 0 := rfl
        clear hf4 p0 p1 c0 c1
        go_wp2_with (first | (refine wpList_buildSlice rfl 41 1 _ rfl #[(0, .agg (oh (p.addr / 65536)).cells.toArray)] (by kernel_rfl) Try.underlying41 (.agg (PrefixM.mk 0 0).cells.toArray) 2 (by kernel_rfl) (oh (p.addr / 65536)).cells.toArray (by decide) (by decide) (by kernel_rfl) ?_) | (refine wpList_append_newD (w0 := w2) (N := 2) (cells := PrefixM.cells) (xs := ownedU p 0) (s := ⟨ta, tl, tc⟩) (q := ⟨some ⟨w4.heap.size, 0, none⟩, 1, 1⟩) (ys := [oh (p.addr / 65536)]) (ok := fun _ => True) rfl (.tmp 16) (.tmp 22) 41 rfl Try.underlying41 _ 16 pfx_info (by kernel_rfl) (by decide) PrefixM.length PrefixM.mem rfl (Hnew4.out.fr ((Fr.refl noB w4).alloc _)) (Hf4.out.alloc _) rfl (slof_one PrefixM.length _ trivial) (fun h => by cases h) (by rw [hpre]; simp only [List.length_singleton, maxLen]; omega) (by rw [hpre]; simp only [List.length_singleton]; omega) ?_; intro s5 w5 hn5 hf5 hf5' hd5; have Hn5 := hide hn5; have Hf5 := hide hf5; clear hn5 hf5 hf5' hd5; obtain ⟨s5a, s5l, s5c⟩ := s5))
        go_roundw
        case rel => exact ⟨1, ⟨s5a, s5l, s5c⟩, by omega, by go_num, rfl, by have h := Hn5.out; rw [show ownedU p 1 = [oh (p.addr / 65536)] from if_pos (by omega)]; exact h, Hf5.out⟩
        case measure => simp [intOf]
      · go_wp2_with fail
        go_roundw
        case rel => exact ⟨1, ⟨ta, tl, tc⟩, by omega, by go_num, rfl, by have h := Hnew.out; rw [show ownedU p 1 = [] from if_neg (by omega)]; exact h, Hf3.out⟩
        case measure => simp [intOf]
    | 1, _ =>
      by_cases h24 : p.len > 24
      · have Hn := hide (show (PrefixM.mk p.addr 24).wf from ⟨hpa, by unfold i64b; simp only; omega⟩)
        go_wp2_with (refine wpList_build_as rfl 28 _ rfl (PrefixM.mk p.addr 24).cells.toArray (by kernel_rfl) ?_)
        refine (addr_Norm ⟨p.addr, 24⟩ Hn.out _).mono ?_
        rintro e w4 ⟨rfl, hf4⟩
        rw [norm24 hpa]
        have Hf4 := hide (Hf3.out.tr hf4); have Hnew4 := hide (Hnew.out.fr hf4)
        have hpre : (ownedU p 1).length ≤ 1 := by unfold ownedU; simp only; split <;> simp
        clear hf4 p0 p1 c0 c1
        go_wp2_with (first | (refine wpList_buildSlice rfl 41 1 _ rfl #[(0, .agg (ob (p.addr / 256)).cells.toArray)] (by kernel_rfl) Try.underlying41 (.agg (PrefixM.mk 0 0).cells.toArray) 2 (by kernel_rfl) (ob (p.addr / 256)).cells.toArray (by decide) (by decide) (by kernel_rfl) ?_) | (refine wpList_append_newD (w0 := w2) (N := 2) (cells := PrefixM.cells) (xs := ownedU p 1) (s := ⟨ta, tl, tc⟩) (q := ⟨some ⟨w4.heap.size, 0, none⟩, 1, 1⟩) (ys := [ob (p.addr / 256)]) (ok := fun _ => True) rfl (.tmp 16) (.tmp 22) 41 rfl Try.underlying41 _ 16 pfx_info (by kernel_rfl) (by decide) PrefixM.length PrefixM.mem rfl (Hnew4.out.fr ((Fr.refl noB w4).alloc _)) (Hf4.out.alloc _) rfl (slof_one PrefixM.length _ trivial) (fun h => by cases h) (by simp only [List.length_singleton, maxLen]; omega) (by simp only [List.length_singleton]; omega) ?_; intro s5 w5 hn5 hf5 hf5' hd5; have Hn5 := hide hn5; have Hf5 := hide hf5; clear hn5 hf5 hf5' hd5; obtain ⟨s5a, s5l, s5c⟩ := s5))
        go_roundw
        case rel => exact ⟨2, ⟨s5a, s5l, s5c⟩, by omega, by go_num, rfl, by have h := Hn5.out; rw [show ownedU p 2 = ownedU p 1 ++ [ob (p.addr / 256)] from by unfold ownedU ownedL; simp only; rw [if_pos (show 24 < p.len by omega)]]; exact h, Hf5.out⟩
        case measure => simp [intOf]
      · go_wp2_with fail
        go_roundw
        case rel => exact ⟨2, ⟨ta, tl, tc⟩, by omega, by go_num, rfl, by have h := Hnew.out; rw [show ownedU p 2 = ownedU p 1 from by unfold ownedU ownedL; simp only; rw [if_neg (show ¬ 24 < p.len by omega), List.append_nil]]; exact h, Hf3.out⟩
        case measure => simp [intOf]
    | 2, _ =>
      clear p0 p1 c0 c1
      go_wp2_with fail
      go_ret
      exact ⟨⟨ta, tl, tc⟩, rfl, ⟨Hnew.out.1, fun b hb => by have := Hnew.out.2 b hb; have := Hf2.out.size; omega⟩, Hf2.out.tr Hf3.out⟩

/-! ### at -/
set_option maxRecDepth 100000 in
set_option maxHeartbeats 4000000 in
theorem dir_at (w : World) (C : Nat → Prop) (g gt : Nat) (most : Int) (st sb sf : SlV) (gm : Nat) (X : TS) (nb : Nat) (h : CoreAt w C g gt most st sb sf gm X nb) (h' : Nat) (hh : h' < 65536) :
    Calls Try.prog 83 #[.pointer (some ⟨g, 0, none⟩), .agg (oh h').cells.toArray] w fun e w' => ∃ b off, adr st sb (.t h') = some ⟨b, off, none⟩ ∧ e = .returned (.pointer (some ⟨b, off, none⟩)) ∧ Fr noB w w' := by
  have H := hide h
  obtain ⟨gT, hst, hsl, _⟩ := h.tabAt
  obtain ⟨sa, sl, sc⟩ := st
  simp only at hst hsl
  subst hst; subst hsl
  have Hb := hide h.blk
  clear h
  go_enter Try.func83, Try.ntmps83
  go_upto_region 1 with (fail)
  refine wp_gen (fun W => CellsAt W w.heap.size 0 (oh h').cells ∧ Fr noB w W) ⟨by (repeat (first | assumption | exact cells_new _ _ _ (by simp) | refine CellsAt.alloc ?_ _ | refine CellsAt.drew ?_ | refine CellsAt.drewN ?_ _)), (Fr.refl _ _).alloc _⟩ ?_
  rintro w1 ⟨hc1, hf1⟩
  have Hf1 := hide hf1
  have p0 : ∀ z : Grow w1, z.v.cell? ⟨w.heap.size, 0, none⟩ = some (.int .u32 ((h' * 65536 : Nat) : Int)) := fun z => by have := (hc1.fr z.fr (fun h => h)) 0 _ rfl; rwa [Nat.zero_add] at this
  have p1 : w1.drew.cell? ⟨w.heap.size, 1, none⟩ = some (.int .i64 16) := by have := (hc1.fr (Fr.refl noB w1).drew (fun h => h)) 1 _ rfl; rwa [Nat.zero_add] at this
  have d4 : ∀ z : Grow w1, z.v.cell? ⟨g, 4, none⟩ = some (.slice (some ⟨gT, 0, none⟩) 65536 sc) := fun z => by rw [(Hb.out.fr (hf1.tr z.fr) (fun h => h)).cell 4]; rfl
  clear hc1 hf1
  refine wp_region_mix (fun W => ∃ z : Grow w1, W = z.v) (by kernel_rfl) (by kernel_rfl) (inGrow (Fr.refl _ _).drew) ?_
  have hmul : ((h' : Int) * 3).toNat = h' * 3 := by omega
  have hlt : (h' : Int) < 65536 := by omega
  repeat (first | (refine wpMix_skip rfl ?_; simp only [Act.put, List.setIfInBounds_toArray, List.set_cons_succ, List.set_cons_zero]) | (refine wpMix_calm rfl rfl (fun K hK => ?_); go_big_quiet_op; refine hK _ ?_; clear hK K))
  refine wpMix_nil ?_
  clear p0 d4
  go_wp2_with fail
  go_ret
  exact ⟨gT, h' * 3, rfl, rfl, Hf1.out.drew⟩

theorem shr_nat (a k : Nat) : (a : Int) / ((2 ^ k : Nat) : Int) = ((a / 2 ^ k : Nat) : Int) := by simp
theorem and255 {a : Nat} (ha : a < 4294967296) : bits BinOp.and IntKind.u32 ((a : Nat) : Int) 255 = ((a % 256 : Nat) : Int) := by
  rw [show (255 : Int) = ((255 : Nat) : Int) from rfl, u32_and_nat _ _ ha (by decide), show (255 : Nat) = 2 ^ 8 - 1 from rfl, Nat.and_two_pow_sub_one_eq_mod]
set_option maxRecDepth 100000 in
set_option maxHeartbeats 4000000 in
theorem dir_at2 (w : World) (C : Nat → Prop) (g gt : Nat) (most : Int) (st sb sf : SlV) (gm : Nat) (X : TS) (nb : Nat) (h : CoreAt w C g gt most st sb sf gm X nb) (b : Nat) (hb : b < 16777216) (h1 : (X.S.t (b / 256)).block ≠ 0) (h2 : (X.S.t (b / 256)).block - 1 < X.S.blk.length) :
    Calls Try.prog 83 #[.pointer (some ⟨g, 0, none⟩), .agg (ob b).cells.toArray] w fun e w' => ∃ bb off, adr st sb (.b ((X.S.t (b / 256)).block - 1) (b % 256)) = some ⟨bb, off, none⟩ ∧ e = .returned (.pointer (some ⟨bb, off, none⟩)) ∧ Fr noB w w' := by
  have H := hide h
  obtain ⟨gT, hst, hsl, _⟩ := h.tabAt
  obtain ⟨gB, hsb, _⟩ := h.blsAt h2
  have hbl : sb.len = X.S.blk.length := h.bls.1
  have hnb := h.len
  obtain ⟨tb, toff, hta, htc, _⟩ := h.get (L := .t (b / 256)) (show b / 256 < X.S.tab.length by rw [hnb.1]; omega)
  obtain ⟨sa, sl, sc⟩ := st
  obtain ⟨ba, bl, bc⟩ := sb
  simp only at hst hsl hsb hbl
  subst hst; subst hsl; subst hsb
  unfold adr at hta
  simp only [Option.map_some, Option.some.injEq, Addr.mk.injEq, and_true] at hta
  obtain ⟨rfl, rfl⟩ := hta
  obtain ⟨n, hn⟩ : ∃ n, (X.S.t (b / 256)).block = n + 1 := ⟨(X.S.t (b / 256)).block - 1, by omega⟩
  rw [hn, Nat.add_sub_cancel] at h2 ⊢
  have hx : X.S.get (.t (b / 256)) = X.S.t (b / 256) := rfl
  rw [hx] at htc
  have tc2 : ∀ W, Fr noB w W → W.cell? ⟨gT, b / 256 * 3 + 2, none⟩ = some (.int .i32 ((n + 1 : Nat) : Int)) := fun W hW => by have := (htc.fr hW (fun h => h)) 2 _ rfl; rw [hn] at this; exact this
  have Htc := hide tc2
  have Hb := hide h.blk
  have hn1 : n ≤ 1000000 := by omega
  have hnl : n < bl := by omega
  have e1 : b * 256 / 65536 = b / 256 := by omega
  have e2 : b * 256 / 256 % 256 = b % 256 := by omega
  have ha : b * 256 < 4294967296 := by omega
  obtain ⟨a, hab⟩ : ∃ a, a = b * 256 := ⟨_, rfl⟩
  have hob : (ob b).cells.toArray = (PrefixM.mk a 24).cells.toArray := by rw [hab]; rfl
  rw [hob]
  rw [← hab] at e1 e2 ha
  obtain ⟨hh, hhe⟩ : ∃ hh, hh = b / 256 := ⟨_, rfl⟩
  obtain ⟨jj, hje⟩ : ∃ jj, jj = b % 256 := ⟨_, rfl⟩
  rw [← hhe] at Htc e1
  rw [← hje] at e2 ⊢
  have hhl : hh < 65536 := by omega
  have hjl : jj < 256 := by omega
  have s1 := hide (show (a : Int) / 65536 = (hh : Int) from by rw [show (65536 : Int) = ((65536 : Nat) : Int) from rfl, ← Int.natCast_ediv, e1])
  have s2 := hide (show bits BinOp.and IntKind.u32 ((a : Int) / 256) 255 = (jj : Int) from by
    rw [show (a : Int) / 256 = ((a / 256 : Nat) : Int) from by rw [show (256 : Int) = ((256 : Nat) : Int) from rfl, ← Int.natCast_ediv], and255 (by omega), e2])
  clear h htc hx hn hab hob hhe hje e1 e2 tc2 h1
  go_enter Try.func83, Try.ntmps83
  go_upto_region 1 with (fail)
  refine wp_gen (fun W => CellsAt W w.heap.size 0 (PrefixM.mk a 24).cells ∧ Fr noB w W) ⟨by (repeat (first | assumption | exact cells_new _ _ _ (by simp) | refine CellsAt.alloc ?_ _ | refine CellsAt.drew ?_ | refine CellsAt.drewN ?_ _)), (Fr.refl _ _).alloc _⟩ ?_
  rintro w1 ⟨hc1, hf1⟩
  have Hf1 := hide hf1
  have p0 : ∀ z : Grow w1, z.v.cell? ⟨w.heap.size, 0, none⟩ = some (.int .u32 ((a : Nat) : Int)) := fun z => by have := (hc1.fr z.fr (fun h => h)) 0 _ rfl; rwa [Nat.zero_add] at this
  have p1 : w1.drew.cell? ⟨w.heap.size, 1, none⟩ = some (.int .i64 24) := by have := (hc1.fr (Fr.refl noB w1).drew (fun h => h)) 1 _ rfl; rwa [Nat.zero_add] at this
  have d4 : ∀ z : Grow w1, z.v.cell? ⟨g, 4, none⟩ = some (.slice (some ⟨gT, 0, none⟩) 65536 sc) := fun z => by rw [(Hb.out.fr (hf1.tr z.fr) (fun h => h)).cell 4]; rfl
  have d5 : ∀ z : Grow w1, z.v.cell? ⟨g, 5, none⟩ = some (.slice (some ⟨gB, 0, none⟩) bl bc) := fun z => by rw [(Hb.out.fr (hf1.tr z.fr) (fun h => h)).cell 5]; rfl
  have t2 : ∀ z : Grow w1, z.v.cell? ⟨gT, hh * 3 + 2, none⟩ = some (.int .i32 ((n + 1 : Nat) : Int)) := fun z => Htc.out _ (hf1.tr z.fr)
  clear hc1 hf1
  refine wp_region_mix (fun W => ∃ z : Grow w1, W = z.v) (by kernel_rfl) (by kernel_rfl) (inGrow (Fr.refl _ _).drew) ?_
  have hmul : ((hh : Int) * 3).toNat = hh * 3 := by omega
  have hlt : (hh : Int) < 65536 := by omega
  iterate 7 (first | (refine wpMix_skip rfl ?_; simp only [Act.put, List.setIfInBounds_toArray, List.set_cons_succ, List.set_cons_zero]) | (refine wpMix_calm rfl rfl (fun K hK => ?_); go_big_quiet_op; refine hK _ ?_; clear hK K))
  rw [s1.out]
  repeat (first | (refine wpMix_skip rfl ?_; simp only [Act.put, List.setIfInBounds_toArray, List.set_cons_succ, List.set_cons_zero]) | (refine wpMix_calm rfl rfl (fun K hK => ?_); go_big_quiet_op; refine hK _ ?_; clear hK K))
  refine wpMix_nil ?_
  go_upto_region 3 with (fail)
  clear p1
  refine wp_region_mix (fun W => ∃ z : Grow w1, W = z.v) (by kernel_rfl) (by kernel_rfl) (inGrow (Fr.refl _ _).drew.drew) ?_
  have hmul2 : ((n : Int) * 768).toNat = n * 768 := by omega
  have hmul3 : ((jj : Int) * 3).toNat = jj * 3 := by omega
  have hjj : (jj : Int) < 256 := by omega
  iterate 13 (first | (refine wpMix_skip rfl ?_; simp only [Act.put, List.setIfInBounds_toArray, List.set_cons_succ, List.set_cons_zero]) | (refine wpMix_calm rfl rfl (fun K hK => ?_); go_big_quiet_op; refine hK _ ?_; clear hK K))
  rw [s2.out]
  repeat (first | (refine wpMix_skip rfl ?_; simp only [Act.put, List.setIfInBounds_toArray, List.set_cons_succ, List.set_cons_zero]) | (refine wpMix_calm rfl rfl (fun K hK => ?_); go_big_quiet_op; refine hK _ ?_; clear hK K))
  refine wpMix_nil ?_
  clear p0 d4 d5 t2
  go_wp2_with fail
  go_ret
  exact ⟨gB, n * 768 + jj * 3, rfl, rfl, Hf1.out.drew.drew⟩
end Go.Proofs.Ytgjabgneapdbiaa

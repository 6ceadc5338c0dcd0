/- A Dir as a whole: its trie, its tables, its map; how many blocks are owned. A Dir as a whole; its table is there once Set was called. -/
import Derived.Test.YtgjabgneapdbiaaDirOnce
import Derived.Test.YtgjabgneapdbiaaDirOwn
import Derived.Test.YtgjabgneapdbiaaDirDis
namespace Go.Proofs.Ytgjabgneapdbiaa
open Go.RowKit Go.BigFrame
set_option linter.unusedSimpArgs false
set_option linter.unusedVariables false
attribute [local irreducible] wpMix wpAnyG
attribute [local irreducible] tabN

/-! ### How many blocks are owned -/
def addD (xs : List Nat) (n : Nat) : List Nat := if n ∈ xs then xs else xs ++ [n]
theorem addD_mem (xs : List Nat) (n k : Nat) : k ∈ addD xs n ↔ k ∈ xs ∨ k = n := by
  unfold addD
  split
  · rename_i h
    exact ⟨.inl, fun h' => h'.elim id (fun e => e ▸ h)⟩
  · simp
theorem addD_nodup {xs : List Nat} (h : xs.Nodup) (n : Nat) : (addD xs n).Nodup := by
  unfold addD
  split
  · exact h
  · rename_i hn
    rw [List.nodup_append]
    exact ⟨h, by simp, fun a ha b hb e => by simp only [List.mem_singleton] at hb; subst hb; subst e; exact hn ha⟩
def hsF (hs : List Nat) (x : EntM) : List Nat := if 16 < x.p.len then addD hs (x.p.addr / 65536) else hs
def bsF (bs : List Nat) (x : EntM) : List Nat := if 24 < x.p.len then addD bs (x.p.addr / 256) else bs
def hsL (l : List EntM) : List Nat := l.foldl hsF []
def bsL (l : List EntM) : List Nat := l.foldl bsF []
def ownN (l : List EntM) : Nat := (hsL l).length + (bsL l).length
theorem hs_fold : ∀ (l : List EntM) (hs : List Nat), hs.Nodup → (l.foldl hsF hs).Nodup ∧ ∀ k, k ∈ l.foldl hsF hs ↔ k ∈ hs ∨ ∃ x ∈ l, 16 < x.p.len ∧ x.p.addr / 65536 = k
  | [], hs, h => ⟨h, fun k => by simp⟩
  | x :: l, hs, h => by
    rw [List.foldl_cons]
    have hn : (hsF hs x).Nodup := by unfold hsF; split; exact addD_nodup h _; exact h
    obtain ⟨h1, h2⟩ := hs_fold l (hsF hs x) hn
    refine ⟨h1, fun k => ?_⟩
    rw [h2]
    unfold hsF
    simp only [List.mem_cons, exists_eq_or_imp]
    split
    · rename_i hx
      rw [addD_mem]
      constructor
      · rintro ((a | a) | a)
        · exact .inl a
        · exact .inr (.inl ⟨hx, a.symm⟩)
        · exact .inr (.inr a)
      · rintro (a | a | a)
        · exact .inl (.inl a)
        · exact .inl (.inr a.2.symm)
        · exact .inr a
    · rename_i hx
      constructor
      · rintro (a | a)
        · exact .inl a
        · exact .inr (.inr a)
      · rintro (a | a | a)
        · exact .inl a
        · exact absurd a.1 hx
        · exact .inr a
theorem bs_fold : ∀ (l : List EntM) (hs : List Nat), hs.Nodup → (l.foldl bsF hs).Nodup ∧ ∀ k, k ∈ l.foldl bsF hs ↔ k ∈ hs ∨ ∃ x ∈ l, 24 < x.p.len ∧ x.p.addr / 256 = k
  | [], hs, h => ⟨h, fun k => by simp⟩
  | x :: l, hs, h => by
    rw [List.foldl_cons]
    have hn : (bsF hs x).Nodup := by unfold bsF; split; exact addD_nodup h _; exact h
    obtain ⟨h1, h2⟩ := bs_fold l (bsF hs x) hn
    refine ⟨h1, fun k => ?_⟩
    rw [h2]
    unfold bsF
    simp only [List.mem_cons, exists_eq_or_imp]
    split
    · rename_i hx
      rw [addD_mem]
      constructor
      · rintro ((a | a) | a)
        · exact .inl a
        · exact .inr (.inl ⟨hx, a.symm⟩)
        · exact .inr (.inr a)
      · rintro (a | a | a)
        · exact .inl (.inl a)
        · exact .inl (.inr a.2.symm)
        · exact .inr a
    · rename_i hx
      constructor
      · rintro (a | a)
        · exact .inl a
        · exact .inr (.inr a)
      · rintro (a | a | a)
        · exact .inl a
        · exact absurd a.1 hx
        · exact .inr a
theorem nodup_le {α : Type} [DecidableEq α] : ∀ (a b : List α), a.Nodup → (∀ x ∈ a, x ∈ b) → a.length ≤ b.length
  | [], b, _, _ => Nat.zero_le _
  | x :: a, b, hn, h => by
    rw [List.nodup_cons] at hn
    have hx := h x (List.mem_cons_self ..)
    have ih := nodup_le a (b.erase x) hn.2 (fun y hy => (List.mem_erase_of_ne (fun (e : y = x) => hn.1 (by rw [← e]; exact hy))).2 (h y (List.mem_cons_of_mem _ hy)))
    rw [List.length_erase_of_mem hx] at ih
    have := List.length_pos_of_mem hx
    rw [List.length_cons]
    omega
def ownersL (l : List EntM) : List PrefixM := (hsL l).map oh ++ (bsL l).map ob
theorem owners_mem (l : List EntM) (o : PrefixM) : o ∈ ownersL l ↔ cnt l o ≠ 0 := by
  have h1 := (hs_fold l [] (by simp)).2
  have h2 := (bs_fold l [] (by simp)).2
  rw [Nat.ne_zero_iff_zero_lt, cnt_pos]
  unfold ownersL hsL bsL
  rw [List.mem_append, List.mem_map, List.mem_map]
  constructor
  · rintro (⟨k, hk, rfl⟩ | ⟨k, hk, rfl⟩)
    · rcases (h1 k).1 hk with h | ⟨x, hx, h3, h4⟩
      · simp at h
      · exact ⟨x, hx, mem_oh.2 ⟨h3, h4⟩⟩
    · rcases (h2 k).1 hk with h | ⟨x, hx, h3, h4⟩
      · simp at h
      · exact ⟨x, hx, mem_ob.2 ⟨h3, h4⟩⟩
  · rintro ⟨x, hx, ho⟩
    unfold ownedL at ho
    rw [List.mem_append] at ho
    rcases ho with ho | ho
    · split at ho
      · rename_i h16
        simp only [List.mem_singleton] at ho
        exact .inl ⟨_, (h1 _).2 (.inr ⟨x, hx, h16, rfl⟩), ho.symm⟩
      · simp at ho
    · split at ho
      · rename_i h24
        simp only [List.mem_singleton] at ho
        exact .inr ⟨_, (h2 _).2 (.inr ⟨x, hx, h24, rfl⟩), ho.symm⟩
      · simp at ho
theorem map_nodup_of {α β : Type} (f : α → β) (hf : ∀ a b, f a = f b → a = b) : ∀ (l : List α), l.Nodup → (l.map f).Nodup
  | [], _ => by simp
  | x :: l, h => by
    rw [List.nodup_cons] at h
    rw [List.map_cons, List.nodup_cons]
    refine ⟨fun hm => ?_, map_nodup_of f hf l h.2⟩
    obtain ⟨y, hy, e⟩ := List.mem_map.1 hm
    exact h.1 (hf _ _ e ▸ hy)
theorem owners_nodup (l : List EntM) : (ownersL l).Nodup := by
  unfold ownersL
  rw [List.nodup_append]
  refine ⟨map_nodup_of _ (fun a b e => oh_inj.1 e) _ (hs_fold l [] (by simp)).1, map_nodup_of _ (fun a b e => ob_inj.1 e) _ (bs_fold l [] (by simp)).1, ?_⟩
  intro a ha b hb e
  obtain ⟨k, _, rfl⟩ := List.mem_map.1 ha
  obtain ⟨j, _, rfl⟩ := List.mem_map.1 hb
  exact oh_ob _ _ e
theorem owners_len (l : List EntM) : (ownersL l).length = ownN l := by unfold ownersL ownN; simp
/-- The map has as many entries as blocks are owned. -/
theorem own_count {w : World} {gm n : Nat} {f : OwnF} (h : KMapS PrefixM.cells w gm n f) {l : List EntM} (hc : CntIs l f) : n = ownN l := by
  obtain ⟨es, c, m, h1, h2, h3, h4, h5, _⟩ := h
  have hm : ∀ o, o ∈ m.map (·.1) ↔ o ∈ ownersL l := fun o => by
    rw [owners_mem]
    have e := hc o
    rw [← h5 o] at e
    constructor
    · intro hin
      obtain ⟨q, hq, rfl⟩ := List.mem_map.1 hin
      intro h0
      rw [if_pos h0, Option.map_eq_none_iff, List.find?_eq_none] at e
      exact e q hq (by simp)
    · intro h0
      rw [if_neg h0] at e
      obtain ⟨q, hq, _⟩ := Option.map_eq_some_iff.1 e
      have hk := List.find?_some hq
      simp only [decide_eq_true_eq] at hk
      rw [hk]
      exact List.mem_map.2 ⟨q, List.mem_of_find?_eq_some hq, rfl⟩
  have l1 := nodup_le _ _ h3 (fun x hx => (hm x).1 hx)
  have l2 := nodup_le _ _ (owners_nodup l) (fun x hx => (hm x).2 hx)
  rw [List.length_map] at l1 l2
  rw [← owners_len, ← h4]
  omega
/-! ### A Dir with no prefix -/
def X0 : TS := ⟨⟨List.replicate 65536 zPl, [], []⟩, fun _ => none, 0⟩
theorem X0_t (h : Nat) : X0.S.t h = zPl := by
  show (List.replicate 65536 zPl).getD h zPl = zPl
  generalize 65536 = n
  simp only [List.getD_eq_getElem?_getD, List.getElem?_replicate]
  split <;> rfl
theorem X0_len : X0.S.tab.length = 65536 := List.length_replicate
theorem X0_free : X0.S.free = [] := rfl
theorem X0_own (o : PrefixM) : X0.own o = none := rfl
theorem inv0 : Inv X0 [] := by
  have hb : ∀ h, (X0.S.t h).block = 0 := fun h => by rw [X0_t]; rfl
  refine ⟨⟨fun _ => .no, ⟨X0_len, fun h _ k => absurd (hb h) k, fun b _ k => absurd (hb _) k, fun a _ k => absurd (hb _) k, fun n hn => by rw [X0_free] at hn; simp at hn, by rw [X0_free]; simp, fun _ _ => rfl⟩⟩, ⟨fun h _ => ?_, fun b _ k => absurd (hb _) k, fun b _ k => absurd (X0_own _) k⟩, fun o => by rw [X0_own]; simp [cnt], fun a ha => ?_⟩
  · rw [hb, X0_own]; simp
  · have : X0.S.lk a = zPl := by rw [lk_eq, if_pos (hb _), X0_t]
    rw [this]
    have hl : longE [] a = none := by simp [longE, pathX]
    rw [hl]
    rfl
end Go.Proofs.Ytgjabgneapdbiaa

namespace Go.Proofs.Ytgjabgneapdbiaa
open Go.RowKit Go.BigFrame
set_option linter.unusedSimpArgs false
set_option linter.unusedVariables false
attribute [local irreducible] wpMix wpAnyG
attribute [local irreducible] tabN

/-- The tables of a Dir, made or not yet. -/
inductive CoreL (w : World) (C : Nat → Prop) (g gt : Nat) (most : Int) (l : List EntM) (nb : Nat) : Prop
  | made (st sb sf : SlV) (gm : Nat) (X : TS) (h : CoreAt w C g gt most st sb sf gm X nb) (i : Inv X l)
  | bare (gm : Nat) (hb : Blk w g (dirC gt 0 nilS nilS nilS gm most).toArray 106) (hm : KMapS PrefixM.cells w gm 0 (fun _ => none)) (hc : C g ∧ C gm) (hlt : ∀ b, C b → b < w.heap.size) (hl : l = []) (hnb : nb ≤ 1000000)
structure DirRep (w : World) (D : Nat → Prop) (g : Nat) (most : Int) (l : List EntM) (m nb : Nat) : Prop where
  rep : ∃ (Ft C : Nat → Prop) (gt : Nat), Trie w Ft gt l m ∧ CoreL w C g gt most l nb ∧ (∀ b, Ft b → ¬ C b) ∧ (∀ b, Ft b → D b) ∧ ∀ b, C b → D b
  lt : ∀ b, D b → b < w.heap.size
theorem CoreL.fr {w w' : World} {C S : Nat → Prop} {g gt nb : Nat} {most : Int} {l : List EntM} (h : CoreL w C g gt most l nb) (f : Fr S w w') (hs : ∀ b, C b → ¬ S b) : CoreL w' C g gt most l nb := by
  cases h with
  | made st sb sf gm X h i => exact .made st sb sf gm X (h.fr f hs) i
  | bare gm hb hm hc hlt hl hnb => exact .bare gm (hb.fr f (hs _ hc.1)) (hm.fr f (hs _ hc.2)) hc (fun b k => f.lt (hlt b k)) hl hnb
theorem CoreL.here {w : World} {C : Nat → Prop} {g gt nb : Nat} {most : Int} {l : List EntM} (h : CoreL w C g gt most l nb) : C g ∧ (∀ b, C b → b < w.heap.size) := by
  cases h with
  | made st sb sf gm X h i => exact ⟨h.here.1, h.lt⟩
  | bare gm hb hm hc hlt hl hnb => exact ⟨hc.1, hlt⟩
theorem DirRep.fr {w w' : World} {D S : Nat → Prop} {g m nb : Nat} {most : Int} {l : List EntM} (h : DirRep w D g most l m nb) (f : Fr S w w') (hs : ∀ b, D b → ¬ S b) : DirRep w' D g most l m nb := by
  obtain ⟨⟨Ft, C, gt, h1, h2, h3, h4, h5⟩, h6⟩ := h
  exact ⟨⟨Ft, C, gt, h1.fr f (fun b hb => hs b (h4 b hb)), h2.fr f (fun b hb => hs b (h5 b hb)), h3, h4, h5⟩, fun b k => f.lt (h6 b k)⟩
theorem DirRep.mono {w : World} {D D' : Nat → Prop} {g m nb : Nat} {most : Int} {l : List EntM} (h : DirRep w D g most l m nb) (h1 : ∀ b, D b → D' b) (h2 : ∀ b, D' b → b < w.heap.size) : DirRep w D' g most l m nb := by
  obtain ⟨⟨Ft, C, gt, k1, k2, k3, k4, k5⟩, k6⟩ := h
  exact ⟨⟨Ft, C, gt, k1, k2, k3, fun b hb => h1 b (k4 b hb), fun b hb => h1 b (k5 b hb)⟩, h2⟩
theorem DirRep.same {w w' : World} {D : Nat → Prop} {g m nb : Nat} {most : Int} {l : List EntM} (h : DirRep w D g most l m nb) (f : Fr noB w w') : DirRep w' (gr D w w') g most l m nb ∧ Fr D w w' :=
  ⟨(h.fr f (fun _ _ h => h)).mono (fun b hb => .inl hb) (fun b hb => by
    rcases hb with k | k
    · exact f.lt (h.lt b k)
    · exact k.2), f.mono (fun _ _ h => h.elim)⟩
/-- The entries of the map, and what is counted. -/
theorem CoreL.head {w : World} {C : Nat → Prop} {g gt nb : Nat} {most : Int} {l : List EntM} (h : CoreL w C g gt most l nb) : w.cell? ⟨g, 0, none⟩ = some (.pointer (some ⟨gt, 0, none⟩)) ∧ ∃ gm f, w.cell? ⟨g, 7, none⟩ = some (.map (some gm)) ∧ KMapS PrefixM.cells w gm (ownN l) f ∧ CntIs l f := by
  cases h with
  | made st sb sf gm X h i =>
    refine ⟨h.blk.cell 0, gm, X.own, h.blk.cell 7, ?_, i.cnt⟩
    have e := own_count h.map i.cnt
    rw [← e]
    exact h.map
  | bare gm hb hm hc hlt hl hnb =>
    subst hl
    exact ⟨hb.cell 0, gm, _, hb.cell 7, hm, fun o => by simp [cnt]⟩
/-- once.Do of a Dir: its table is there. -/
theorem dir_once (w : World) (C : Nat → Prop) (c g gt : Nat) (most : Int) (l : List EntM) (nb : Nat) (h : CoreL w C g gt most l nb) (hc : w.cell? ⟨c, 0, none⟩ = some (.pointer (some ⟨g, 0, none⟩))) (hcl : c < w.heap.size) (hcC : ¬ C c) :
    Calls Try.prog 62 #[.pointer (some ⟨g, 1, none⟩), .func (.func 63) #[] #[.pointer (some ⟨c, 0, none⟩)]] w fun e w' => e = .returned (.tuple #[]) ∧ (∃ st sb sf gm X, CoreAt w' (gr C w w') g gt most st sb sf gm X nb ∧ Inv X l) ∧ Fr C w w' := by
  cases h with
  | made st sb sf gm X h i =>
    refine (once_again w g 1 (by decide) _ (h.blk.cell 1)).mono ?_
    rintro e w' ⟨rfl, rfl⟩
    exact ⟨rfl, ⟨st, sb, sf, gm, X, h.since (fun b hb => .inl hb) h.lt (Nat.le_refl _), i⟩, Fr.refl _ _⟩
  | bare gm hb hm hC hlt hl hnb =>
    subst hl
    refine (once_first w c g gt gm most hb hc (hlt g hC.1) hcl (fun e => hcC (e ▸ hC.1))).mono ?_
    rintro e w' ⟨rfl, gT, hgT, h1, h2, h3⟩
    have hgm : ¬ oneB g gm := fun e => by
      unfold oneB at e
      exact blk_ne_map hb hm.kmap e.symm
    refine ⟨rfl, ⟨⟨some ⟨gT, 0, none⟩, 65536, 65536⟩, nilS, nilS, gm, X0, ⟨h1, h2, OwnL.nil _ _ _ _, OwnL.nil _ _ _ _, hm.fr h3 hgm, ⟨.inl hC.1, .inl hC.2, fun b hb => ?_, fun b hb => ?_, fun b hb => ?_⟩, fun b hb => ?_, ⟨X0_len, Nat.zero_le _, Nat.zero_le _, hnb⟩, fun o c e => by rw [X0_own] at e; simp at e⟩, inv0⟩, h3.mono (fun b _ e => by unfold oneB at e; rw [e]; exact hC.1)⟩
    · have hl2 := h2.lt b hb
      obtain ⟨a, ha, rfl⟩ := hb
      simp only [Option.some.injEq] at ha
      subst ha
      exact .inr ⟨hgT, hl2⟩
    · obtain ⟨a, ha, _⟩ := hb; simp [nilS] at ha
    · obtain ⟨a, ha, _⟩ := hb; simp [nilS] at ha
    · rcases hb with k | k
      · exact h3.lt (hlt b k)
      · exact k.2
/-! ### What Set answers -/
def needN (l : List EntM) (p : PrefixM) : Nat := (ownedL p).countP (fun o => decide (cnt l o = 0))
def dirX (most : Int) (l : List EntM) (p : PrefixM) (v : Int) : StepE :=
  if p = normP p ∧ 0 ≤ v then (if hasE l p = true ∨ (needN l p : Int) ≤ most - (ownN l : Int) then ⟨0, putE l p v⟩ else ⟨6, l⟩) else ⟨1, l⟩
end Go.Proofs.Ytgjabgneapdbiaa

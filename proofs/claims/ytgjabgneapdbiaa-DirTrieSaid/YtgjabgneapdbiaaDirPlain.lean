/- Chapter 10's tables as plain functions: places, painting, blocks. No program in sight. Chapter 10's tables: where an address leads, which blocks are whose; what painting does to it. No program in sight. Chapter 10's tables: a block comes, a block goes. No program in sight. Chapter 10: what holds of the tables between two calls; Set and Del keep it. No program in sight. -/
import Derived.Test.YtgjabgneapdbiaaTriePlain
namespace Go.Proofs.Ytgjabgneapdbiaa
set_option linter.unusedSimpArgs false
set_option linter.unusedVariables false

/-- A place: a number, how deep it was painted, a block's number and one. -/
structure PlM where
  v : Int
  deep : Nat
  block : Nat
  deriving Inhabited, DecidableEq
def zPl : PlM := ⟨0, 0, 0⟩
def zf : Nat → PlM := fun _ => zPl
structure DS where
  tab : List PlM
  blk : List (Nat → PlM)
  free : List Nat
inductive Loc where
  | t (h : Nat)
  | b (n i : Nat)
  deriving DecidableEq
def DS.t (S : DS) (h : Nat) : PlM := S.tab.getD h zPl
def DS.b (S : DS) (n : Nat) : Nat → PlM := S.blk.getD n zf
def DS.get (S : DS) : Loc → PlM
  | .t h => S.t h
  | .b n i => S.b n i
def upf (f : Nat → PlM) (i : Nat) (x : PlM) : Nat → PlM := fun j => if j = i then x else f j
def DS.put (S : DS) : Loc → PlM → DS
  | .t h, x => { S with tab := S.tab.set h x }
  | .b n i, x => { S with blk := S.blk.set n (upf (S.b n) i x) }
def DS.has (S : DS) : Loc → Prop
  | .t h => h < S.tab.length
  | .b n i => n < S.blk.length ∧ i < 256

/-! ### Painting -/
def one1 (tp : PlM) (fit : Nat → Bool) (r : Bool) (x : PlM) : PlM := if r && decide (x.block = 0) && fit x.deep then tp else x
def pnt (R : Loc → Bool) (tp : PlM) (fit : Nat → Bool) (S : DS) : DS :=
  { S with tab := S.tab.mapIdx (fun h x => one1 tp fit (R (.t h)) x), blk := S.blk.mapIdx (fun n f => fun i => one1 tp fit (R (.b n i)) (f i)) }
theorem pnt_len (R : Loc → Bool) (tp : PlM) (fit : Nat → Bool) (S : DS) : (pnt R tp fit S).tab.length = S.tab.length ∧ (pnt R tp fit S).blk.length = S.blk.length := by simp [pnt]
theorem pnt_free (R : Loc → Bool) (tp : PlM) (fit : Nat → Bool) (S : DS) : (pnt R tp fit S).free = S.free := rfl
theorem pnt_get {R : Loc → Bool} {tp : PlM} {fit : Nat → Bool} {S : DS} {L : Loc} (h : S.has L) : (pnt R tp fit S).get L = one1 tp fit (R L) (S.get L) := by
  cases L with
  | t h' =>
    simp only [DS.has] at h
    simp [DS.get, DS.t, pnt, h]
  | b n i =>
    obtain ⟨h1, h2⟩ := h
    simp [DS.get, DS.b, pnt, h1]
theorem one1_block {tp : PlM} (ht : tp.block = 0) (fit : Nat → Bool) (r : Bool) (x : PlM) : (one1 tp fit r x).block = x.block := by
  unfold one1
  split
  · rename_i h
    simp only [Bool.and_eq_true, decide_eq_true_eq] at h
    rw [ht, h.1.2]
  · rfl
theorem one1_two {tp : PlM} (ht : tp.block = 0) (fit : Nat → Bool) (r r' : Bool) (x : PlM) : one1 tp fit r' (one1 tp fit r x) = one1 tp fit (r || r') x := by
  unfold one1
  by_cases h1 : (r && decide (x.block = 0) && fit x.deep) = true
  · rw [if_pos h1]
    simp only [Bool.and_eq_true, decide_eq_true_eq] at h1
    obtain ⟨⟨a, b⟩, c⟩ := h1
    simp [a, b, c]
  · rw [if_neg h1]
    cases r with
    | false => simp
    | true =>
      simp only [Bool.true_and] at h1
      have h2 : (decide (x.block = 0) && fit x.deep) = false := by simpa using h1
      simp only [Bool.true_or, Bool.true_and, h2, Bool.and_assoc, Bool.and_false]
theorem pnt_pnt {tp : PlM} (ht : tp.block = 0) (fit : Nat → Bool) (R R' : Loc → Bool) (S : DS) : pnt R' tp fit (pnt R tp fit S) = pnt (fun L => R L || R' L) tp fit S := by
  unfold pnt
  congr 1
  · simp only [List.mapIdx_mapIdx]
    congr 1
    funext h x
    exact one1_two ht fit _ _ x
  · simp only [List.mapIdx_mapIdx]
    congr 1
    funext n f
    simp only [Function.comp]
    funext i
    exact one1_two ht fit _ _ (f i)
theorem mapIdx_same {α : Type} (l : List α) : l.mapIdx (fun _ x => x) = l := List.ext_getElem (by simp) (fun i h1 h2 => by simp)
theorem pnt_none (tp : PlM) (fit : Nat → Bool) (S : DS) : pnt (fun _ => false) tp fit S = S := by
  unfold pnt
  obtain ⟨a, b, c⟩ := S
  congr 1
  · simp only [one1, Bool.false_and, Bool.false_eq_true, if_false]; exact mapIdx_same a
  · simp only [one1, Bool.false_and, Bool.false_eq_true, if_false]; exact mapIdx_same b
theorem pnt_congr {tp : PlM} {fit : Nat → Bool} {S : DS} {R R' : Loc → Bool} (h : ∀ L, S.has L ∨ (∃ n i, L = .b n i) → (S.get L).block = 0 → R L = R' L) : pnt R tp fit S = pnt R' tp fit S := by
  have key : ∀ (x : PlM) (r r' : Bool), (x.block = 0 → r = r') → one1 tp fit r x = one1 tp fit r' x := fun x r r' hr => by
    unfold one1
    by_cases hb : x.block = 0
    · rw [hr hb]
    · simp [hb]
  unfold pnt
  congr 1
  · apply List.ext_getElem (by simp)
    intro i h1 h2
    simp only [List.length_mapIdx] at h1 h2
    simp only [List.getElem_mapIdx]
    refine key _ _ _ (fun hb => h (.t i) (.inl h1) ?_)
    simpa [DS.get, DS.t, h1] using hb
  · apply List.ext_getElem (by simp)
    intro n h1 h2
    simp only [List.length_mapIdx] at h1 h2
    simp only [List.getElem_mapIdx]
    funext i
    refine key _ _ _ (fun hb => h (.b n i) (.inr ⟨n, i, rfl⟩) ?_)
    simpa [DS.get, DS.b, h1] using hb
theorem pnt_block {tp : PlM} (ht : tp.block = 0) (fit : Nat → Bool) (R : Loc → Bool) (S : DS) (L : Loc) : ((pnt R tp fit S).get L).block = (S.get L).block := by
  cases L with
  | t h =>
    by_cases hh : h < S.tab.length
    · rw [pnt_get (L := .t h) hh, one1_block ht]
    · simp [DS.get, DS.t, pnt, hh]
  | b n i =>
    by_cases hh : n < S.blk.length
    · simp only [DS.get, DS.b, pnt]
      simp [hh, one1_block ht]
    · simp [DS.get, DS.b, pnt, hh]

/-- The places that a place stands for: itself, or all of its block's. -/
def under (S : DS) : Nat → Loc → Loc → Bool
  | 0, L, K => decide (K = L)
  | d + 1, L, K => decide (K = L) || (decide ((S.get L).block ≠ 0) && (List.range 256).any (fun i => under S d (.b ((S.get L).block - 1) i) K))
theorem under_pnt {tp : PlM} (ht : tp.block = 0) (fit : Nat → Bool) (R : Loc → Bool) (S : DS) : ∀ (d : Nat) (L K : Loc), under (pnt R tp fit S) d L K = under S d L K
  | 0, _, _ => rfl
  | d + 1, L, K => by
    simp only [under, pnt_block ht]
    congr 2
    congr 1
    funext i
    exact under_pnt ht fit R S d _ K
/-- How many blocks may lie below a place. -/
def Deep (S : DS) : Nat → Loc → Prop
  | 0, L => S.has L ∧ (S.get L).block = 0
  | d + 1, L => S.has L ∧ ((S.get L).block ≠ 0 → ∀ i, i < 256 → Deep S d (.b ((S.get L).block - 1) i))
theorem Deep.has {S : DS} : ∀ {d : Nat} {L : Loc}, Deep S d L → S.has L
  | 0, _, h => h.1
  | d + 1, _, h => h.1
theorem has_pnt {R : Loc → Bool} {tp : PlM} {fit : Nat → Bool} {S : DS} {L : Loc} : (pnt R tp fit S).has L ↔ S.has L := by
  cases L with
  | t h => simp [DS.has, pnt]
  | b n i => simp [DS.has, pnt]
theorem Deep.pnt {tp : PlM} (ht : tp.block = 0) (fit : Nat → Bool) (R : Loc → Bool) {S : DS} : ∀ {d : Nat} {L : Loc}, Deep S d L → Deep (pnt R tp fit S) d L
  | 0, L, h => ⟨has_pnt.2 h.1, by rw [pnt_block ht]; exact h.2⟩
  | d + 1, L, h => ⟨has_pnt.2 h.1, by rw [pnt_block ht]; exact fun hb i hi => (h.2 hb i hi).pnt ht fit R⟩
/-- A place that is none's is painted by itself. -/
theorem pnt_leaf {tp : PlM} {fit : Nat → Bool} {S : DS} {d : Nat} {L : Loc} (hl : S.has L) (hb : (S.get L).block = 0) : pnt (under S d L) tp fit S = if fit (S.get L).deep then S.put L tp else S := by
  have hu : under S d L = fun K => decide (K = L) := by
    cases d with
    | zero => rfl
    | succ d => funext K; simp [under, hb]
  rw [hu]
  have hx : ∀ K, one1 tp fit (decide (K = L)) (S.get K) = if K = L ∧ fit (S.get L).deep = true then tp else S.get K := fun K => by
    unfold one1
    by_cases hk : K = L
    · subst hk; simp [hb]
    · simp [hk]
  cases L with
  | t h =>
    simp only [DS.has] at hl
    have hbl : S.blk.mapIdx (fun n f => fun i => one1 tp fit (decide (Loc.b n i = Loc.t h)) (f i)) = S.blk := by
      simp only [one1, reduceCtorEq, decide_false, Bool.false_and, Bool.false_eq_true, if_false]; exact mapIdx_same _
    have htb : S.tab.mapIdx (fun h' x => one1 tp fit (decide (Loc.t h' = Loc.t h)) x) = if fit (S.get (.t h)).deep then S.tab.set h tp else S.tab := by
      by_cases hf : fit (S.get (.t h)).deep = true
      · rw [if_pos hf]
        refine List.ext_getElem (by simp) (fun i h1 h2 => ?_)
        simp only [List.length_mapIdx] at h1
        have := hx (.t i)
        rw [hf] at this
        simp only [List.getElem_mapIdx, List.getElem_set]
        simp only [DS.get, DS.t, List.getD_eq_getElem?_getD, List.getElem?_eq_getElem h1, Option.getD_some, and_true] at this
        rw [this]
        by_cases e : i = h
        · subst e; simp
        · simp [e, Ne.symm e]
      · rw [if_neg hf]
        refine List.ext_getElem (by simp) (fun i h1 h2 => ?_)
        have := hx (.t i)
        simp only [List.getElem_mapIdx]
        simp only [DS.get, DS.t, List.getD_eq_getElem?_getD, List.getElem?_eq_getElem h2, Option.getD_some] at this
        simp only [DS.get, DS.t] at hf
        rw [this, if_neg (fun h => hf h.2)]
    unfold pnt
    rw [hbl, htb]
    split <;> rfl
  | b n i =>
    obtain ⟨h1, h2⟩ := hl
    have htb : S.tab.mapIdx (fun h' x => one1 tp fit (decide (Loc.t h' = Loc.b n i)) x) = S.tab := by
      simp only [one1, reduceCtorEq, decide_false, Bool.false_and, Bool.false_eq_true, if_false]; exact mapIdx_same _
    have hbl : S.blk.mapIdx (fun n' f => fun i' => one1 tp fit (decide (Loc.b n' i' = Loc.b n i)) (f i')) = if fit (S.get (.b n i)).deep then S.blk.set n (upf (S.b n) i tp) else S.blk := by
      have hn : S.b n = S.blk[n] := by simp [DS.b, h1]
      by_cases hf : fit (S.get (.b n i)).deep = true
      · rw [if_pos hf]
        refine List.ext_getElem (by simp) (fun m k1 k2 => ?_)
        simp only [List.length_mapIdx] at k1
        simp only [List.getElem_mapIdx, List.getElem_set]
        funext j
        have := hx (.b m j)
        rw [hf] at this
        simp only [DS.get, DS.b, List.getD_eq_getElem?_getD, List.getElem?_eq_getElem k1, Option.getD_some, and_true] at this
        rw [this]
        by_cases e : n = m
        · subst e
          rw [if_pos rfl]
          simp only [upf, hn, Loc.b.injEq, true_and]
        · rw [if_neg e, if_neg (fun h => e (by injection h with h _; exact h.symm))]
      · rw [if_neg hf]
        refine List.ext_getElem (by simp) (fun m k1 k2 => ?_)
        simp only [List.getElem_mapIdx]
        funext j
        have := hx (.b m j)
        simp only [DS.get, DS.b, List.getD_eq_getElem?_getD, List.getElem?_eq_getElem k2, Option.getD_some] at this
        simp only [DS.get, DS.b] at hf
        rw [this, if_neg (fun h => hf h.2)]
    unfold pnt
    rw [htb, hbl]
    split <;> rfl
end Go.Proofs.Ytgjabgneapdbiaa

namespace Go.Proofs.Ytgjabgneapdbiaa
set_option linter.unusedSimpArgs false
set_option linter.unusedVariables false

def DS.v1 (S : DS) (b : Nat) : PlM := S.b ((S.t (b / 256)).block - 1) (b % 256)
def DS.v2 (S : DS) (a : Nat) : PlM := S.b ((S.v1 (a / 256)).block - 1) (a % 256)
/-- The place that an address leads to. -/
def DS.lf (S : DS) (a : Nat) : Loc :=
  if (S.t (a / 65536)).block = 0 then .t (a / 65536) else if (S.v1 (a / 256)).block = 0 then .b ((S.t (a / 65536)).block - 1) (a / 256 % 256) else .b ((S.v1 (a / 256)).block - 1) (a % 256)
def DS.lk (S : DS) (a : Nat) : PlM := S.get (S.lf a)
/-- Whose a block is. -/
inductive Lb where
  | no
  | h (n : Nat)
  | b (n : Nat)
  deriving DecidableEq
structure Wf (S : DS) (lab : Nat → Lb) : Prop where
  len : S.tab.length = 65536
  w0 : ∀ h, h < 65536 → (S.t h).block ≠ 0 → (S.t h).block - 1 < S.blk.length ∧ lab ((S.t h).block - 1) = .h h
  w1 : ∀ b, b < 16777216 → (S.t (b / 256)).block ≠ 0 → (S.v1 b).block ≠ 0 → (S.v1 b).block - 1 < S.blk.length ∧ lab ((S.v1 b).block - 1) = .b b
  w2 : ∀ a, a < 4294967296 → (S.t (a / 65536)).block ≠ 0 → (S.v1 (a / 256)).block ≠ 0 → (S.v2 a).block = 0
  fr : ∀ n ∈ S.free, n < S.blk.length ∧ lab n = .no
  nd : S.free.Nodup
  hi : ∀ n, S.blk.length ≤ n → lab n = .no

theorem div256 (a : Nat) : a / 256 / 256 = a / 65536 := by omega
theorem Wf.leaf {S : DS} {lab : Nat → Lb} (h : Wf S lab) {a : Nat} (ha : a < 4294967296) : S.has (S.lf a) ∧ (S.lk a).block = 0 := by
  unfold DS.lk DS.lf
  split
  · rename_i h0
    exact ⟨by rw [DS.has, h.len]; omega, h0⟩
  · rename_i h0
    have k0 := h.w0 (a / 65536) (by omega) h0
    split
    · rename_i h1
      refine ⟨⟨k0.1, by omega⟩, ?_⟩
      unfold DS.v1 at h1
      rw [div256] at h1
      exact h1
    · rename_i h1
      have k1 := h.w1 (a / 256) (by omega) (by rw [div256]; exact h0) h1
      exact ⟨⟨k1.1, by omega⟩, h.w2 a ha h0 h1⟩

theorem pnt_t {tp : PlM} (ht : tp.block = 0) (fit : Nat → Bool) (R : Loc → Bool) (S : DS) (h : Nat) : ((pnt R tp fit S).t h).block = (S.t h).block := pnt_block ht fit R S (.t h)
theorem pnt_v1 {tp : PlM} (ht : tp.block = 0) (fit : Nat → Bool) (R : Loc → Bool) (S : DS) (b : Nat) : ((pnt R tp fit S).v1 b).block = (S.v1 b).block := by
  unfold DS.v1; rw [pnt_t ht]; exact pnt_block ht fit R S (.b _ _)
theorem pnt_v2 {tp : PlM} (ht : tp.block = 0) (fit : Nat → Bool) (R : Loc → Bool) (S : DS) (a : Nat) : ((pnt R tp fit S).v2 a).block = (S.v2 a).block := by
  unfold DS.v2; rw [pnt_v1 ht]; exact pnt_block ht fit R S (.b _ _)
theorem pnt_lf {tp : PlM} (ht : tp.block = 0) (fit : Nat → Bool) (R : Loc → Bool) (S : DS) (a : Nat) : (pnt R tp fit S).lf a = S.lf a := by
  unfold DS.lf; rw [pnt_t ht, pnt_v1 ht]
theorem pnt_wf {S : DS} {lab : Nat → Lb} (h : Wf S lab) {tp : PlM} (ht : tp.block = 0) (fit : Nat → Bool) (R : Loc → Bool) : Wf (pnt R tp fit S) lab := by
  obtain ⟨a, b⟩ := pnt_len R tp fit S
  refine ⟨a.trans h.len, fun h' k => ?_, fun b' k => ?_, fun a' k => ?_, fun n hn => ?_, h.nd, fun n hn => h.hi n (by omega)⟩
  · rw [pnt_t ht, b]; exact h.w0 h' k
  · rw [pnt_t ht, pnt_v1 ht, b]; exact h.w1 b' k
  · rw [pnt_t ht, pnt_v1 ht, pnt_v2 ht]; exact h.w2 a' k
  · rw [b]; exact h.fr n hn
theorem pnt_lk {S : DS} {lab : Nat → Lb} (h : Wf S lab) {tp : PlM} (ht : tp.block = 0) (fit : Nat → Bool) (R : Loc → Bool) {a : Nat} (ha : a < 4294967296) : (pnt R tp fit S).lk a = if (R (S.lf a) && fit (S.lk a).deep) = true then tp else S.lk a := by
  unfold DS.lk
  rw [pnt_lf ht, pnt_get (h.leaf ha).1]
  have := (h.leaf ha).2
  unfold DS.lk at this
  unfold one1
  rw [this]
  simp

/-! ### A prefix's places -/
def Rp (S : DS) (p : PrefixM) (K : Loc) : Bool :=
  if p.len ≤ 16 then (List.range (2 ^ (16 - heldN p.len))).any (fun i => under S 2 (.t (p.addr / 65536 + i)) K)
  else if p.len ≤ 24 then (List.range (2 ^ (24 - heldN p.len))).any (fun i => under S 1 (.b ((S.t (p.addr / 65536)).block - 1) (p.addr / 256 % 256 + i)) K)
  else (List.range (2 ^ (32 - heldN p.len))).any (fun i => under S 0 (.b ((S.v1 (p.addr / 256)).block - 1) (p.addr % 256 + i)) K)
theorem under0 (S : DS) (L K : Loc) : under S 0 L K = true ↔ K = L := by simp [under]
theorem under1 (S : DS) (L K : Loc) : under S 1 L K = true ↔ K = L ∨ ((S.get L).block ≠ 0 ∧ ∃ i, i < 256 ∧ K = .b ((S.get L).block - 1) i) := by
  simp [under]
theorem under2 (S : DS) (L K : Loc) : under S 2 L K = true ↔ K = L ∨ ((S.get L).block ≠ 0 ∧ ∃ i, i < 256 ∧ under S 1 (.b ((S.get L).block - 1) i) K = true) := by
  rw [show under S 2 L K = (decide (K = L) || (decide ((S.get L).block ≠ 0) && (List.range 256).any (fun i => under S 1 (.b ((S.get L).block - 1) i) K))) from rfl]
  simp only [Bool.or_eq_true, Bool.and_eq_true, decide_eq_true_eq, List.any_eq_true, List.mem_range]
theorem any_range (n : Nat) (f : Nat → Bool) : (List.range n).any f = true ↔ ∃ i, i < n ∧ f i = true := by simp

/-- An interval in units. -/
theorem in_unit {p : PrefixM} (hp : okP p) {j : Nat} (hj : heldN p.len + j ≤ 32) (a : Nat) : inP p a ↔ ∃ i, i < 2 ^ (32 - j - heldN p.len) ∧ a / 2 ^ j = p.addr / 2 ^ j + i := by
  have h1 := hp.mul
  have e : szP p = 2 ^ (32 - j - heldN p.len) * 2 ^ j := by unfold szP; rw [← Nat.pow_add]; congr 1; omega
  have hu : 0 < 2 ^ j := Nat.two_pow_pos j
  generalize hm : 2 ^ (32 - j - heldN p.len) = m at *
  generalize hn : 2 ^ j = u at *
  have e2 : p.addr = p.addr / szP p * m * u := by rw [Nat.mul_assoc, ← e]; exact h1
  generalize p.addr / szP p = k at *
  have e3 : p.addr / u = k * m := by rw [e2, Nat.mul_div_cancel _ hu]
  unfold inP
  rw [e3, e, e2]
  have d1 := Nat.div_add_mod a u
  have d2 := Nat.mod_lt a hu
  generalize a / u = q at *
  generalize a % u = r at *
  constructor
  · rintro ⟨h2, h3⟩
    have h4 : k * m ≤ q := by
      rcases Nat.lt_or_ge q (k * m) with h | h
      · exfalso
        have := Nat.mul_le_mul_right u (Nat.succ_le_of_lt h)
        rw [Nat.succ_mul, Nat.mul_comm q u] at this
        omega
      · exact h
    refine ⟨q - k * m, ?_, by omega⟩
    rcases Nat.lt_or_ge (q - k * m) m with h | h
    · exact h
    · exfalso
      have := Nat.mul_le_mul_right u (show k * m + m ≤ q by omega)
      rw [Nat.add_mul, Nat.mul_comm q u] at this
      omega
  · rintro ⟨i, hi, rfl⟩
    have h5 := Nat.mul_le_mul_right u (show i + 1 ≤ m from hi)
    rw [Nat.add_mul, Nat.one_mul] at h5
    rw [Nat.mul_add, Nat.mul_comm u (k * m), Nat.mul_comm u i] at d1
    omega
/-- A prefix in one block does not leave it. -/
theorem in_block {p : PrefixM} (hp : okP p) {j : Nat} (hj : heldN p.len + j ≤ 32) (hl : 24 - j ≤ heldN p.len) (hj8 : j ≤ 24) {i : Nat} (hi : i < 2 ^ (32 - j - heldN p.len)) :
    p.addr / 2 ^ j % 256 + i < 256 ∧ (p.addr / 2 ^ j + i) / 256 = p.addr / 2 ^ j / 256 ∧ (p.addr / 2 ^ j + i) % 256 = p.addr / 2 ^ j % 256 + i := by
  have h1 := hp.mul
  have e : szP p = 2 ^ (32 - j - heldN p.len) * 2 ^ j := by unfold szP; rw [← Nat.pow_add]; congr 1; omega
  have hu : 0 < 2 ^ j := Nat.two_pow_pos j
  have e4 : ∃ c, 256 = 2 ^ (32 - j - heldN p.len) * c := by
    refine ⟨2 ^ (8 - (32 - j - heldN p.len)), ?_⟩
    rw [← Nat.pow_add]
    have : 32 - j - heldN p.len + (8 - (32 - j - heldN p.len)) = 8 := by omega
    rw [this]
  generalize hm : 2 ^ (32 - j - heldN p.len) = m at *
  have hmp : 0 < m := by omega
  have e2 : p.addr / 2 ^ j = p.addr / szP p * m := by
    have : p.addr = p.addr / szP p * m * 2 ^ j := by rw [Nat.mul_assoc, ← e]; exact h1
    conv => lhs; rw [this]
    exact Nat.mul_div_cancel _ hu
  rw [e2]
  generalize p.addr / szP p = k
  obtain ⟨c, hc⟩ := e4
  have d1 := Nat.div_add_mod (k * m) 256
  have d2 := Nat.mod_lt (k * m) (show 0 < 256 by decide)
  generalize hq : k * m / 256 = q at *
  generalize hr : k * m % 256 = r at *
  -- r is a multiple of m
  have hrm : r = (k - c * q) * m := by
    have h3 : 256 * q = c * q * m := by rw [hc, Nat.mul_comm m c, Nat.mul_assoc, Nat.mul_assoc, Nat.mul_comm m q]
    rw [Nat.sub_mul]
    omega
  have hr2 : k - c * q < c := by
    rcases Nat.lt_or_ge (k - c * q) c with h | h
    · exact h
    · exfalso
      have := Nat.mul_le_mul_right m h
      rw [← hrm, Nat.mul_comm c m, ← hc] at this
      omega
  have h6 := Nat.mul_le_mul_right m (Nat.succ_le_of_lt hr2)
  rw [Nat.succ_mul, ← hrm, Nat.mul_comm c m, ← hc] at h6
  omega

theorem shape1 {S : DS} {n j : Nat} {K : Loc} (h : under S 1 (.b n j) K = true) : ∃ m i, K = .b m i := by
  rcases (under1 S _ _).1 h with h | ⟨_, i, _, h⟩
  · exact ⟨_, _, h⟩
  · exact ⟨_, _, h⟩
/-- An address lies in a prefix just where its place is one of the prefix's. -/
theorem Rp_leaf {S : DS} {lab : Nat → Lb} (h : Wf S lab) {p : PrefixM} (hp : okP p) (h16 : 16 < p.len → (S.t (p.addr / 65536)).block ≠ 0) (h24 : 24 < p.len → (S.v1 (p.addr / 256)).block ≠ 0) {a : Nat} (ha : a < 4294967296) :
    Rp S p (S.lf a) = true ↔ inP p a := by
  have hc := hp.cast
  have hb := hp.bd
  have hplt := hp.lt
  have e16 : (2 : Nat) ^ 16 = 65536 := rfl
  have e8 : (2 : Nat) ^ 8 = 256 := rfl
  have e0 : (2 : Nat) ^ 0 = 1 := rfl
  have hpp : p.addr / 256 / 256 = p.addr / 65536 := div256 _
  have haa : a / 256 / 256 = a / 65536 := div256 _
  by_cases l16 : p.len ≤ 16
  · -- the first table
    have hin := in_unit hp (j := 16) (by omega) a
    rw [e16, show 32 - 16 - heldN p.len = 16 - heldN p.len by omega] at hin
    unfold Rp
    rw [if_pos l16, any_range, hin]
    have htop : ∀ i, i < 2 ^ (16 - heldN p.len) → p.addr / 65536 + i < 65536 := fun i hi => by
      have h1 := (in_unit hp (j := 16) (by omega) (65536 * (p.addr / 65536 + i))).2 (by
        rw [e16, show 32 - 16 - heldN p.len = 16 - heldN p.len by omega]
        exact ⟨i, hi, Nat.mul_div_cancel_left _ (by decide)⟩)
      have h2 := hp.top
      have h3 := h1.2
      omega
    constructor
    · rintro ⟨i, hi, hu⟩
      refine ⟨i, hi, ?_⟩
      have hwi := htop i hi
      rcases (under2 S _ _).1 hu with hK | ⟨hbl, j', hj', hu1⟩
      · unfold DS.lf at hK
        split at hK
        · injection hK
        · split at hK <;> cases hK
      · have k0 := h.w0 _ hwi hbl
        unfold DS.lf at hu1
        split at hu1
        · obtain ⟨m, j, hK⟩ := shape1 hu1; cases hK
        · rename_i g0
          have l0 := h.w0 (a / 65536) (by omega) g0
          split at hu1
          · rcases (under1 S _ _).1 hu1 with hK | ⟨hb1, i', _, hK⟩
            · injection hK with hK _
              have : lab ((S.t (a / 65536)).block - 1) = .h (p.addr / 65536 + i) := by rw [hK]; exact k0.2
              rw [l0.2] at this
              injection this
            · injection hK with hK _
              have e1 : S.v1 ((p.addr / 65536 + i) * 256 + j') = S.get (.b ((S.get (.t (p.addr / 65536 + i))).block - 1) j') := by
                unfold DS.v1
                rw [show ((p.addr / 65536 + i) * 256 + j') / 256 = p.addr / 65536 + i by omega, show ((p.addr / 65536 + i) * 256 + j') % 256 = j' by omega]
                rfl
              have k1 := h.w1 ((p.addr / 65536 + i) * 256 + j') (by omega) (by rw [show ((p.addr / 65536 + i) * 256 + j') / 256 = p.addr / 65536 + i by omega]; exact hbl) (by rw [e1]; exact hb1)
              rw [e1, ← hK, l0.2] at k1
              exact absurd k1.2 (by simp)
          · rename_i g1
            have l1 := h.w1 (a / 256) (by omega) (by rw [haa]; exact g0) g1
            rcases (under1 S _ _).1 hu1 with hK | ⟨hb1, i', _, hK⟩
            · injection hK with hK _
              have : lab ((S.v1 (a / 256)).block - 1) = .h (p.addr / 65536 + i) := by rw [hK]; exact k0.2
              rw [l1.2] at this
              cases this
            · injection hK with hK _
              have e1 : S.v1 ((p.addr / 65536 + i) * 256 + j') = S.get (.b ((S.get (.t (p.addr / 65536 + i))).block - 1) j') := by
                unfold DS.v1
                rw [show ((p.addr / 65536 + i) * 256 + j') / 256 = p.addr / 65536 + i by omega, show ((p.addr / 65536 + i) * 256 + j') % 256 = j' by omega]
                rfl
              have k1 := h.w1 ((p.addr / 65536 + i) * 256 + j') (by omega) (by rw [show ((p.addr / 65536 + i) * 256 + j') / 256 = p.addr / 65536 + i by omega]; exact hbl) (by rw [e1]; exact hb1)
              rw [e1, ← hK, l1.2] at k1
              have := k1.2
              injection this
              omega
    · rintro ⟨i, hi, he⟩
      refine ⟨i, hi, (under2 S _ _).2 ?_⟩
      rw [← he]
      unfold DS.lf
      split
      · exact .inl rfl
      · rename_i g0
        refine .inr ⟨g0, a / 256 % 256, by omega, (under1 S _ _).2 ?_⟩
        split
        · exact .inl rfl
        · rename_i g1
          refine .inr ?_
          have e1 : S.v1 (a / 256) = S.get (.b ((S.get (.t (a / 65536))).block - 1) (a / 256 % 256)) := by
            unfold DS.v1; rw [haa]; rfl
          rw [← e1]
          exact ⟨g1, a % 256, by omega, rfl⟩
  · have g16 := h16 (by omega)
    have k0 := h.w0 (p.addr / 65536) (by omega) g16
    by_cases l24 : p.len ≤ 24
    · have hin := in_unit hp (j := 8) (by omega) a
      rw [e8, show 32 - 8 - heldN p.len = 24 - heldN p.len by omega] at hin
      have hib : ∀ i, i < 2 ^ (24 - heldN p.len) → _ := fun i hi => in_block hp (j := 8) (by omega) (by omega) (by decide) (i := i) (by rw [show 32 - 8 - heldN p.len = 24 - heldN p.len by omega]; exact hi)
      rw [e8] at hib
      unfold Rp
      rw [if_neg l16, if_pos l24, any_range, hin]
      constructor
      · rintro ⟨i, hi, hu⟩
        refine ⟨i, hi, ?_⟩
        obtain ⟨q1, q2, q3⟩ := hib i hi
        unfold DS.lf at hu
        split at hu
        · obtain ⟨m, j, hK⟩ := shape1 hu; cases hK
        · rename_i g0
          have l0 := h.w0 (a / 65536) (by omega) g0
          have e1 : S.v1 (p.addr / 256 + i) = S.get (.b ((S.t (p.addr / 65536)).block - 1) (p.addr / 256 % 256 + i)) := by
            unfold DS.v1; rw [q2, q3, hpp]; rfl
          have hlt : p.addr / 256 + i < 16777216 := by omega
          split at hu
          · rcases (under1 S _ _).1 hu with hK | ⟨hb1, i', _, hK⟩
            · injection hK with hK hj
              have : lab ((S.t (a / 65536)).block - 1) = .h (p.addr / 65536) := by rw [hK]; exact k0.2
              rw [l0.2] at this
              injection this
              omega
            · injection hK with hK _
              have k1 := h.w1 (p.addr / 256 + i) hlt (by rw [q2, hpp]; exact g16) (by rw [e1]; exact hb1)
              rw [e1, ← hK, l0.2] at k1
              exact absurd k1.2 (by simp)
          · rename_i g1
            have l1 := h.w1 (a / 256) (by omega) (by rw [haa]; exact g0) g1
            rcases (under1 S _ _).1 hu with hK | ⟨hb1, i', _, hK⟩
            · injection hK with hK _
              have : lab ((S.v1 (a / 256)).block - 1) = .h (p.addr / 65536) := by rw [hK]; exact k0.2
              rw [l1.2] at this
              cases this
            · injection hK with hK _
              have k1 := h.w1 (p.addr / 256 + i) hlt (by rw [q2, hpp]; exact g16) (by rw [e1]; exact hb1)
              rw [e1, ← hK, l1.2] at k1
              have := k1.2
              injection this
      · rintro ⟨i, hi, he⟩
        obtain ⟨q1, q2, q3⟩ := hib i hi
        have hh : a / 65536 = p.addr / 65536 := by omega
        refine ⟨i, hi, (under1 S _ _).2 ?_⟩
        unfold DS.lf
        rw [hh, if_neg g16]
        split
        · left; rw [he, q3]
        · rename_i g1
          right
          have e1 : S.v1 (a / 256) = S.get (.b ((S.t (p.addr / 65536)).block - 1) (p.addr / 256 % 256 + i)) := by
            unfold DS.v1; rw [he, q2, q3, hpp]; rfl
          rw [← e1]
          exact ⟨g1, a % 256, by omega, rfl⟩
    · have g24 := h24 (by omega)
      have l1p := h.w1 (p.addr / 256) (by omega) (by rw [hpp]; exact g16) g24
      have hin := in_unit hp (j := 0) (by omega) a
      rw [e0, Nat.div_one, Nat.div_one, show 32 - 0 - heldN p.len = 32 - heldN p.len by omega] at hin
      have hib : ∀ i, i < 2 ^ (32 - heldN p.len) → _ := fun i hi => in_block hp (j := 0) (by omega) (by omega) (by decide) (i := i) (by rw [show 32 - 0 - heldN p.len = 32 - heldN p.len by omega]; exact hi)
      rw [e0, Nat.div_one] at hib
      unfold Rp
      rw [if_neg l16, if_neg l24, any_range, hin]
      constructor
      · rintro ⟨i, hi, hu⟩
        refine ⟨i, hi, ?_⟩
        obtain ⟨q1, q2, q3⟩ := hib i hi
        have hK := (under0 S _ _).1 hu
        unfold DS.lf at hK
        split at hK
        · cases hK
        · rename_i g0
          have l0 := h.w0 (a / 65536) (by omega) g0
          split at hK
          · injection hK with hK _
            have : lab ((S.t (a / 65536)).block - 1) = .b (p.addr / 256) := by rw [hK]; exact l1p.2
            rw [l0.2] at this
            cases this
          · rename_i g1
            have l1 := h.w1 (a / 256) (by omega) (by rw [haa]; exact g0) g1
            injection hK with hK hj
            have : lab ((S.v1 (a / 256)).block - 1) = .b (p.addr / 256) := by rw [hK]; exact l1p.2
            rw [l1.2] at this
            injection this
            omega
      · rintro ⟨i, hi, he⟩
        obtain ⟨q1, q2, q3⟩ := hib i hi
        have hh : a / 256 = p.addr / 256 := by omega
        have hh2 : a / 65536 = p.addr / 65536 := by omega
        refine ⟨i, hi, (under0 S _ _).2 ?_⟩
        unfold DS.lf
        rw [hh2, if_neg g16, hh, if_neg g24]
        congr 1
        omega
instance (p : PrefixM) (a : Nat) : Decidable (inP p a) := by unfold inP; exact inferInstance
theorem paint_lk {S : DS} {lab : Nat → Lb} (h : Wf S lab) {p : PrefixM} (hp : okP p) (h16 : 16 < p.len → (S.t (p.addr / 65536)).block ≠ 0) (h24 : 24 < p.len → (S.v1 (p.addr / 256)).block ≠ 0) {tp : PlM} (ht : tp.block = 0) (fit : Nat → Bool) {a : Nat} (ha : a < 4294967296) :
    (pnt (Rp S p) tp fit S).lk a = if inP p a ∧ fit (S.lk a).deep = true then tp else S.lk a := by
  rw [pnt_lk h ht fit _ ha]
  by_cases hi : inP p a
  · rw [(Rp_leaf h hp h16 h24 ha).2 hi]
    simp [hi]
  · have : Rp S p (S.lf a) = false := by
      cases hr : Rp S p (S.lf a) with
      | false => rfl
      | true => exact absurd ((Rp_leaf h hp h16 h24 ha).1 hr) hi
    rw [this]
    simp [hi]
end Go.Proofs.Ytgjabgneapdbiaa

namespace Go.Proofs.Ytgjabgneapdbiaa
set_option linter.unusedSimpArgs false
set_option linter.unusedVariables false

theorem lk_eq (S : DS) (a : Nat) : S.lk a = if (S.t (a / 65536)).block = 0 then S.t (a / 65536) else if (S.v1 (a / 256)).block = 0 then S.v1 (a / 256) else S.v2 a := by
  unfold DS.lk DS.lf
  split
  · rfl
  · split
    · unfold DS.v1; rw [div256]; rfl
    · rfl
theorem put_t_t {S : DS} {h : Nat} (hh : h < S.tab.length) (x : PlM) (h' : Nat) : (S.put (.t h) x).t h' = if h' = h then x else S.t h' := by
  simp only [DS.put, DS.t, List.getD_eq_getElem?_getD, List.getElem?_set]
  by_cases e : h = h'
  · subst e; simp [hh]
  · simp [e, Ne.symm e]
theorem put_t_b (S : DS) (h : Nat) (x : PlM) (n : Nat) : (S.put (.t h) x).b n = S.b n := rfl
theorem put_b_t (S : DS) (n i : Nat) (x : PlM) (h : Nat) : (S.put (.b n i) x).t h = S.t h := rfl
theorem put_b_b {S : DS} {n i : Nat} (hn : n < S.blk.length) (x : PlM) (m j : Nat) : (S.put (.b n i) x).b m j = if m = n ∧ j = i then x else S.b m j := by
  simp only [DS.put, DS.b, List.getD_eq_getElem?_getD, List.getElem?_set]
  by_cases e : n = m
  · subst e
    simp only [hn, if_true, Option.getD_some, upf, true_and]
  · simp [e, Ne.symm e]

/-- The block that is taken, and what is left. -/
def DS.take (S : DS) : Nat × DS := match S.free.getLast? with
  | some n => (n, { S with free := S.free.dropLast })
  | none => (S.blk.length, { S with blk := S.blk ++ [zf] })
def DS.fillB (S : DS) (n : Nat) (x : PlM) : DS := { S with blk := S.blk.set n (fun i => if i < 256 then x else S.b n i) }
def DS.own1 (S : DS) (L : Loc) : DS := (S.take.2.fillB S.take.1 (S.take.2.get L)).put L { S.take.2.get L with block := S.take.1 + 1 }
def DS.disown1 (S : DS) (L : Loc) : DS := { (S.put L (S.b ((S.get L).block - 1) 0)) with free := S.free ++ [(S.get L).block - 1] }
def updl (lab : Nat → Lb) (n : Nat) (x : Lb) : Nat → Lb := fun m => if m = n then x else lab m

structure TakeOk (S : DS) (lab : Nat → Lb) : Prop where
  lt : S.take.1 < S.take.2.blk.length
  no : lab S.take.1 = .no
  tab : S.take.2.tab = S.tab
  b : ∀ m, S.take.2.b m = S.b m
  free : ∀ n ∈ S.take.2.free, n ∈ S.free ∧ n ≠ S.take.1
  nd : S.take.2.free.Nodup
  len : S.blk.length ≤ S.take.2.blk.length ∧ S.take.2.blk.length ≤ S.blk.length + 1
theorem take_ok {S : DS} {lab : Nat → Lb} (w : Wf S lab) : TakeOk S lab := by
  have hT : ∀ (r : Nat × DS), S.take = r → r.1 < r.2.blk.length → lab r.1 = .no → r.2.tab = S.tab → (∀ m, r.2.b m = S.b m) → (∀ n ∈ r.2.free, n ∈ S.free ∧ n ≠ r.1) → r.2.free.Nodup → (S.blk.length ≤ r.2.blk.length ∧ r.2.blk.length ≤ S.blk.length + 1) → TakeOk S lab :=
    fun r hr a b c d e f g => by subst hr; exact ⟨a, b, c, d, e, f, g⟩
  cases hf : S.free.getLast? with
  | some n =>
    obtain ⟨ys, he⟩ := List.getLast?_eq_some_iff.1 hf
    have hnd := w.nd
    rw [he, List.nodup_append] at hnd
    have hm := w.fr n (by rw [he]; simp)
    refine hT (n, { S with free := S.free.dropLast }) (by unfold DS.take; rw [hf]) hm.1 hm.2 rfl (fun _ => rfl) ?_ ?_ ⟨Nat.le_refl _, Nat.le_succ _⟩
    · intro k hk
      simp only [he, List.dropLast_concat] at hk
      exact ⟨by rw [he]; simp [hk], fun e => hnd.2.2 k hk n (by simp) e⟩
    · simp only [he, List.dropLast_concat]
      exact hnd.1
  | none =>
    have hnil : S.free = [] := by simpa using hf
    refine hT (S.blk.length, { S with blk := S.blk ++ [zf] }) (by unfold DS.take; rw [hf]) (by simp) (w.hi _ (Nat.le_refl _)) rfl (fun m => ?_) ?_ ?_ ⟨by simp, by simp⟩
    · simp only [DS.b, List.getD_eq_getElem?_getD]
      rcases Nat.lt_trichotomy m S.blk.length with h | h | h
      · rw [List.getElem?_append_left h]
      · subst h
        rw [List.getElem?_append_right (Nat.le_refl _), Nat.sub_self]
        rw [List.getElem?_eq_none (Nat.le_refl _)]
        rfl
      · rw [List.getElem?_eq_none (by simp; omega), List.getElem?_eq_none (by omega)]
    · intro k hk
      simp only [hnil] at hk
      simp at hk
    · simp only [hnil]
      exact List.nodup_nil
theorem fill_b {S : DS} {n : Nat} (hn : n < S.blk.length) (x : PlM) (m j : Nat) : (S.fillB n x).b m j = if m = n then (if j < 256 then x else S.b n j) else S.b m j := by
  simp only [DS.fillB, DS.b, List.getD_eq_getElem?_getD, List.getElem?_set]
  by_cases e : n = m
  · subst e; simp [hn]
  · simp [e, Ne.symm e]

/-- A block for a place of the first table. -/
theorem own_h {S : DS} {lab : Nat → Lb} (w : Wf S lab) {h : Nat} (hh : h < 65536) (h0 : (S.t h).block = 0) :
    Wf (S.own1 (.t h)) (updl lab S.take.1 (.h h)) ∧ (∀ a, a < 4294967296 → (S.own1 (.t h)).lk a = S.lk a) ∧ (∀ h', h' < 65536 → (((S.own1 (.t h)).t h').block ≠ 0 ↔ h' = h ∨ (S.t h').block ≠ 0)) ∧
      (∀ b, b < 16777216 → ((S.own1 (.t h)).t (b / 256)).block ≠ 0 → (((S.own1 (.t h)).v1 b).block ≠ 0 ↔ b / 256 ≠ h ∧ (S.v1 b).block ≠ 0)) := by
  have T := take_ok w
  obtain ⟨n, hn⟩ : ∃ n, S.take.1 = n := ⟨_, rfl⟩
  have hx : S.take.2.get (.t h) = S.t h := by show S.take.2.tab.getD h zPl = _; rw [T.tab]; rfl
  have ht : ∀ h', (S.own1 (.t h)).t h' = if h' = h then { S.t h with block := n + 1 } else S.t h' := fun h' => by
    unfold DS.own1
    rw [put_t_t (by show h < S.take.2.tab.length; rw [T.tab, w.len]; exact hh), hx, hn]
    split
    · rfl
    · show S.take.2.tab.getD h' zPl = _; rw [T.tab]; rfl
  have hb : ∀ m j, (S.own1 (.t h)).b m j = if m = n then (if j < 256 then S.t h else S.b n j) else S.b m j := fun m j => by
    unfold DS.own1
    rw [put_t_b, fill_b T.lt, hx, hn, T.b, T.b]
  have hfr : (S.own1 (.t h)).free = S.take.2.free := rfl
  have hbl : (S.own1 (.t h)).blk.length = S.take.2.blk.length := by show (S.take.2.blk.set _ _).length = _; rw [List.length_set]
  have hno : lab n = .no := by rw [← hn]; exact T.no
  have hv1 : ∀ b, b < 16777216 → b / 256 = h → (S.own1 (.t h)).v1 b = S.t h := fun b hb' e => by
    unfold DS.v1
    rw [ht, if_pos e, hb, Nat.add_sub_cancel, if_pos rfl, if_pos (by omega)]
  have hv1' : ∀ b, b < 16777216 → b / 256 ≠ h → (S.t (b / 256)).block ≠ 0 → (S.own1 (.t h)).v1 b = S.v1 b := fun b hb' e h1 => by
    have k := w.w0 (b / 256) (by omega) h1
    have hne : (S.t (b / 256)).block - 1 ≠ n := fun e => by rw [e, hno] at k; cases k.2
    unfold DS.v1
    rw [ht, if_neg e, hb, if_neg hne]
  have hv2' : ∀ a, a < 4294967296 → a / 65536 ≠ h → (S.t (a / 65536)).block ≠ 0 → (S.v1 (a / 256)).block ≠ 0 → (S.own1 (.t h)).v2 a = S.v2 a := fun a ha e h1 h2 => by
    have k := w.w1 (a / 256) (by omega) (by rw [div256]; exact h1) h2
    have hne : (S.v1 (a / 256)).block - 1 ≠ n := fun e => by rw [e, hno] at k; cases k.2
    unfold DS.v2
    rw [hv1' _ (by omega) (by rw [div256]; exact e) (by rw [div256]; exact h1), hb, if_neg hne]
  refine ⟨⟨?_, fun h' k1 k2 => ?_, fun b k1 k2 k3 => ?_, fun a k1 k2 k3 => ?_, fun m hm => ?_, ?_, fun m hm => ?_⟩, fun a ha => ?_, fun h' hh' => ?_, fun b hb' k2 => ?_⟩
  · show (S.take.2.tab.set _ _).length = _; rw [List.length_set, T.tab]; exact w.len
  · rw [hbl]
    rw [ht] at k2 ⊢
    unfold updl
    rw [hn]
    by_cases e : h' = h
    · rw [if_pos e, Nat.add_sub_cancel, if_pos rfl, e]
      exact ⟨by rw [← hn]; exact T.lt, rfl⟩
    · rw [if_neg e] at k2 ⊢
      have k := w.w0 h' k1 k2
      have hne : (S.t h').block - 1 ≠ n := fun e => by rw [e, hno] at k; cases k.2
      rw [if_neg hne]
      exact ⟨by have := T.len; omega, k.2⟩
  · rw [hbl]
    by_cases e : b / 256 = h
    · rw [hv1 b k1 e] at k3
      exact absurd h0 k3
    · rw [ht, if_neg e] at k2
      rw [hv1' b k1 e k2] at k3 ⊢
      have k := w.w1 b k1 k2 k3
      unfold updl
      rw [hn, if_neg (fun e => by rw [e, hno] at k; cases k.2)]
      exact ⟨by have := T.len; omega, k.2⟩
  · by_cases e : a / 65536 = h
    · rw [hv1 (a / 256) (by omega) (by rw [div256]; exact e)] at k3
      exact absurd h0 k3
    · rw [ht, if_neg e] at k2
      rw [hv1' _ (by omega) (by rw [div256]; exact e) (by rw [div256]; exact k2)] at k3
      rw [hv2' a k1 e k2 k3]
      exact w.w2 a k1 k2 k3
  · rw [hfr] at hm
    rw [hbl]
    obtain ⟨m1, m2⟩ := T.free m hm
    have k := w.fr m m1
    unfold updl
    rw [if_neg m2]
    exact ⟨by have := T.len; omega, k.2⟩
  · exact T.nd
  · rw [hbl] at hm
    unfold updl
    have := T.lt; have := T.len
    rw [if_neg (by omega)]
    exact w.hi m (by omega)
  · rw [lk_eq, lk_eq]
    by_cases e : a / 65536 = h
    · rw [ht, if_pos e, if_neg (by simp), hv1 (a / 256) (by omega) (by rw [div256]; exact e), if_pos h0, e, if_pos h0]
    · rw [ht, if_neg e]
      by_cases k : (S.t (a / 65536)).block = 0
      · rw [if_pos k, if_pos k]
      · rw [if_neg k, if_neg k, hv1' _ (by omega) (by rw [div256]; exact e) (by rw [div256]; exact k)]
        by_cases k3 : (S.v1 (a / 256)).block = 0
        · rw [if_pos k3, if_pos k3]
        · rw [if_neg k3, if_neg k3, hv2' a ha e k k3]
  · rw [ht]
    by_cases e : h' = h
    · rw [if_pos e]; simp [e]
    · rw [if_neg e]; simp [e]
  · by_cases e : b / 256 = h
    · rw [hv1 b hb' e]; simp [e, h0]
    · rw [ht, if_neg e] at k2
      rw [hv1' b hb' e k2]; simp [e]

/-- A block for a place of a block. -/
theorem own_b {S : DS} {lab : Nat → Lb} (w : Wf S lab) {b : Nat} (hb0 : b < 16777216) (h1 : (S.t (b / 256)).block ≠ 0) (h0 : (S.v1 b).block = 0) :
    Wf (S.own1 (.b ((S.t (b / 256)).block - 1) (b % 256))) (updl lab S.take.1 (.b b)) ∧ (∀ a, a < 4294967296 → (S.own1 (.b ((S.t (b / 256)).block - 1) (b % 256))).lk a = S.lk a) ∧
      (∀ h', ((S.own1 (.b ((S.t (b / 256)).block - 1) (b % 256))).t h') = S.t h') ∧
      (∀ b', b' < 16777216 → (S.t (b' / 256)).block ≠ 0 → (((S.own1 (.b ((S.t (b / 256)).block - 1) (b % 256))).v1 b').block ≠ 0 ↔ b' = b ∨ (S.v1 b').block ≠ 0)) := by
  have T := take_ok w
  obtain ⟨n, hn⟩ : ∃ n, S.take.1 = n := ⟨_, rfl⟩
  have kh := w.w0 (b / 256) (by omega) h1
  obtain ⟨m0, hm0⟩ : ∃ m, (S.t (b / 256)).block - 1 = m := ⟨_, rfl⟩
  rw [hm0] at kh ⊢
  have hno : lab n = .no := by rw [← hn]; exact T.no
  have hmn : m0 ≠ n := fun e => by rw [e, hno] at kh; cases kh.2
  have hx : S.take.2.get (.b m0 (b % 256)) = S.v1 b := by show S.take.2.b m0 (b % 256) = _; rw [T.b]; unfold DS.v1; rw [hm0]
  have ht : ∀ h', (S.own1 (.b m0 (b % 256))).t h' = S.t h' := fun h' => by
    show S.take.2.tab.getD h' zPl = _; rw [T.tab]; rfl
  have hb : ∀ m j, (S.own1 (.b m0 (b % 256))).b m j = if m = m0 ∧ j = b % 256 then { S.v1 b with block := n + 1 } else if m = n then (if j < 256 then S.v1 b else S.b n j) else S.b m j := fun m j => by
    unfold DS.own1
    rw [put_b_b (by show m0 < (S.take.2.blk.set _ _).length; rw [List.length_set]; have := T.len; omega), fill_b T.lt, hx, hn, T.b, T.b]
  have hfr : (S.own1 (.b m0 (b % 256))).free = S.take.2.free := rfl
  have hbl : (S.own1 (.b m0 (b % 256))).blk.length = S.take.2.blk.length := by
    show ((S.take.2.blk.set _ _).set _ _).length = _; rw [List.length_set, List.length_set]
  have hv1 : (S.own1 (.b m0 (b % 256))).v1 b = { S.v1 b with block := n + 1 } := by
    show (S.own1 (.b m0 (b % 256))).b _ _ = _
    rw [ht, hm0, hb, if_pos ⟨rfl, rfl⟩]
  have hv1' : ∀ b', b' < 16777216 → b' ≠ b → (S.t (b' / 256)).block ≠ 0 → (S.own1 (.b m0 (b % 256))).v1 b' = S.v1 b' := fun b' hb' e h2 => by
    have k := w.w0 (b' / 256) (by omega) h2
    have hne : (S.t (b' / 256)).block - 1 ≠ n := fun e => by rw [e, hno] at k; cases k.2
    have hne2 : ¬ ((S.t (b' / 256)).block - 1 = m0 ∧ b' % 256 = b % 256) := fun ⟨e1, e2⟩ => by
      rw [e1, kh.2] at k
      have := k.2
      injection this
      omega
    show (S.own1 (.b m0 (b % 256))).b _ _ = _
    rw [ht, hb, if_neg hne2, if_neg hne]
    rfl
  have hv2 : ∀ a, a < 4294967296 → a / 256 = b → (S.own1 (.b m0 (b % 256))).v2 a = S.v1 b := fun a ha e => by
    show (S.own1 (.b m0 (b % 256))).b _ _ = _
    rw [e, hv1]
    show (S.own1 (.b m0 (b % 256))).b (n + 1 - 1) _ = _
    rw [Nat.add_sub_cancel, hb, if_neg (fun h => hmn h.1.symm), if_pos rfl, if_pos (by omega)]
  have hv2' : ∀ a, a < 4294967296 → a / 256 ≠ b → (S.t (a / 65536)).block ≠ 0 → (S.v1 (a / 256)).block ≠ 0 → (S.own1 (.b m0 (b % 256))).v2 a = S.v2 a := fun a ha e h2 h3 => by
    have k := w.w1 (a / 256) (by omega) (by rw [div256]; exact h2) h3
    have hne : (S.v1 (a / 256)).block - 1 ≠ n := fun e => by rw [e, hno] at k; cases k.2
    have hne2 : (S.v1 (a / 256)).block - 1 ≠ m0 := fun e => by rw [e, kh.2] at k; cases k.2
    show (S.own1 (.b m0 (b % 256))).b _ _ = _
    rw [hv1' _ (by omega) e (by rw [div256]; exact h2), hb, if_neg (fun h => hne2 h.1), if_neg hne]
    rfl
  refine ⟨⟨?_, fun h' k1 k2 => ?_, fun b' k1 k2 k3 => ?_, fun a k1 k2 k3 => ?_, fun m hm => ?_, ?_, fun m hm => ?_⟩, fun a ha => ?_, ht, fun b' hb' k2 => ?_⟩
  · show S.take.2.tab.length = _; rw [T.tab]; exact w.len
  · rw [hbl]
    rw [ht] at k2 ⊢
    have k := w.w0 h' k1 k2
    unfold updl
    rw [hn, if_neg (fun e => by rw [e, hno] at k; cases k.2)]
    exact ⟨by have := T.len; omega, k.2⟩
  · rw [hbl]
    rw [ht] at k2
    unfold updl
    rw [hn]
    by_cases e : b' = b
    · rw [e, hv1]
      show n + 1 - 1 < _ ∧ _
      simp only [Nat.add_sub_cancel, if_true]
      exact ⟨by rw [← hn]; exact T.lt, trivial⟩
    · rw [hv1' b' k1 e k2] at k3 ⊢
      have k := w.w1 b' k1 k2 k3
      rw [if_neg (fun e => by rw [e, hno] at k; cases k.2)]
      exact ⟨by have := T.len; omega, k.2⟩
  · rw [ht] at k2
    by_cases e : a / 256 = b
    · rw [hv2 a k1 e]; exact h0
    · rw [hv1' _ (by omega) e (by rw [div256]; exact k2)] at k3
      rw [hv2' a k1 e k2 k3]
      exact w.w2 a k1 k2 k3
  · rw [hfr] at hm
    rw [hbl]
    obtain ⟨m1, m2⟩ := T.free m hm
    have k := w.fr m m1
    unfold updl
    rw [if_neg m2]
    exact ⟨by have := T.len; omega, k.2⟩
  · exact T.nd
  · rw [hbl] at hm
    unfold updl
    have := T.lt; have := T.len
    rw [if_neg (by omega)]
    exact w.hi m (by omega)
  · rw [lk_eq, lk_eq, ht]
    by_cases k : (S.t (a / 65536)).block = 0
    · rw [if_pos k, if_pos k]
    · rw [if_neg k, if_neg k]
      by_cases e : a / 256 = b
      · rw [e, hv1, hv2 a ha e, if_neg (by simp), if_pos h0]
      · rw [hv1' _ (by omega) e (by rw [div256]; exact k)]
        by_cases k3 : (S.v1 (a / 256)).block = 0
        · rw [if_pos k3, if_pos k3]
        · rw [if_neg k3, if_neg k3, hv2' a ha e k k3]
  · by_cases e : b' = b
    · rw [e, hv1]; simp
    · rw [hv1' b' hb' e k2]; simp [e]

/-- A block of a place of the first table goes. -/
theorem dis_h {S : DS} {lab : Nat → Lb} (w : Wf S lab) {h : Nat} (hh : h < 65536) (h1 : (S.t h).block ≠ 0) (h0 : ∀ b, b / 256 = h → (S.v1 b).block = 0) :
    Wf (S.disown1 (.t h)) (updl lab ((S.t h).block - 1) .no) ∧ (∀ a, a < 4294967296 → (S.disown1 (.t h)).lk a = if a / 65536 = h then S.lk (h * 65536) else S.lk a) ∧
      (∀ h', h' < 65536 → (((S.disown1 (.t h)).t h').block ≠ 0 ↔ h' ≠ h ∧ (S.t h').block ≠ 0)) ∧ (∀ b, b / 256 ≠ h → (S.disown1 (.t h)).v1 b = S.v1 b) := by
  have kh := w.w0 h hh h1
  obtain ⟨n, hn⟩ : ∃ n, (S.t h).block - 1 = n := ⟨_, rfl⟩
  rw [hn] at kh ⊢
  have hx : S.b n 0 = S.v1 (h * 256) := by unfold DS.v1; rw [Nat.mul_div_cancel _ (by decide), hn, Nat.mul_mod_left]
  have hx0 : (S.b n 0).block = 0 := by rw [hx]; exact h0 _ (by omega)
  have ht : ∀ h', (S.disown1 (.t h)).t h' = if h' = h then S.b n 0 else S.t h' := fun h' => by
    have : (S.disown1 (.t h)).t h' = (S.put (.t h) (S.b n 0)).t h' := by unfold DS.disown1; show (S.put (.t h) (S.b ((S.t h).block - 1) 0)).t h' = _; rw [hn]
    rw [this, put_t_t (by rw [w.len]; exact hh)]
  have hb : ∀ m, (S.disown1 (.t h)).b m = S.b m := fun m => rfl
  have hfr : (S.disown1 (.t h)).free = S.free ++ [n] := by show S.free ++ [(S.t h).block - 1] = _; rw [hn]
  have hbl : (S.disown1 (.t h)).blk.length = S.blk.length := rfl
  have hv1 : ∀ b, b / 256 ≠ h → (S.disown1 (.t h)).v1 b = S.v1 b := fun b e => by
    unfold DS.v1; rw [ht, if_neg e, hb]
  have hv2 : ∀ a, a / 65536 ≠ h → (S.disown1 (.t h)).v2 a = S.v2 a := fun a e => by
    unfold DS.v2; rw [hv1 _ (by rw [div256]; exact e), hb]
  refine ⟨⟨?_, fun h' k1 k2 => ?_, fun b k1 k2 k3 => ?_, fun a k1 k2 k3 => ?_, fun m hm => ?_, ?_, fun m hm => ?_⟩, fun a ha => ?_, fun h' hh' => ?_, hv1⟩
  · show (S.tab.set _ _).length = _; rw [List.length_set]; exact w.len
  · rw [hbl]
    rw [ht] at k2 ⊢
    by_cases e : h' = h
    · rw [if_pos e] at k2; exact absurd hx0 k2
    · rw [if_neg e] at k2 ⊢
      have k := w.w0 h' k1 k2
      unfold updl
      rw [if_neg (fun e2 => by rw [e2, kh.2] at k; have := k.2; injection this with this; exact e this.symm)]
      exact k
  · rw [hbl]
    rw [ht] at k2
    by_cases e : b / 256 = h
    · rw [if_pos e] at k2; exact absurd hx0 k2
    · rw [if_neg e] at k2
      rw [hv1 b e] at k3 ⊢
      have k := w.w1 b k1 k2 k3
      unfold updl
      rw [if_neg (fun e2 => by rw [e2, kh.2] at k; cases k.2)]
      exact k
  · rw [ht] at k2
    by_cases e : a / 65536 = h
    · rw [if_pos e] at k2; exact absurd hx0 k2
    · rw [if_neg e] at k2
      rw [hv1 _ (by rw [div256]; exact e)] at k3
      rw [hv2 a e]
      exact w.w2 a k1 k2 k3
  · rw [hfr] at hm
    rw [hbl]
    unfold updl
    rcases List.mem_append.1 hm with hm | hm
    · have k := w.fr m hm
      rw [if_neg (fun e => by rw [e, kh.2] at k; cases k.2)]
      exact k
    · simp only [List.mem_singleton] at hm
      rw [if_pos hm]
      exact ⟨by rw [hm]; exact kh.1, rfl⟩
  · rw [hfr, List.nodup_append]
    refine ⟨w.nd, by simp, fun x hx y hy e => ?_⟩
    simp only [List.mem_singleton] at hy
    have k := w.fr x hx
    rw [e, hy, kh.2] at k
    cases k.2
  · unfold updl
    split
    · rfl
    · exact w.hi m hm
  · by_cases e : a / 65536 = h
    · rw [if_pos e, lk_eq, ht, if_pos e, if_pos hx0, lk_eq, Nat.mul_div_cancel _ (by decide), if_neg h1]
      have e2 : h * 65536 / 256 = h * 256 := by omega
      rw [e2, h0 (h * 256) (Nat.mul_div_cancel _ (by decide)), if_pos rfl, hx]
    · rw [if_neg e, lk_eq, lk_eq, ht, if_neg e, hv1 _ (by rw [div256]; exact e), hv2 a e]
  · rw [ht]
    by_cases e : h' = h
    · rw [if_pos e]; simp [e, hx0]
    · rw [if_neg e]; simp [e]

/-- A block of a place of a block goes. -/
theorem dis_b {S : DS} {lab : Nat → Lb} (w : Wf S lab) {b : Nat} (hb0 : b < 16777216) (h1 : (S.t (b / 256)).block ≠ 0) (h2 : (S.v1 b).block ≠ 0) :
    Wf (S.disown1 (.b ((S.t (b / 256)).block - 1) (b % 256))) (updl lab ((S.v1 b).block - 1) .no) ∧ (∀ a, a < 4294967296 → (S.disown1 (.b ((S.t (b / 256)).block - 1) (b % 256))).lk a = if a / 256 = b then S.lk (b * 256) else S.lk a) ∧
      (∀ h', (S.disown1 (.b ((S.t (b / 256)).block - 1) (b % 256))).t h' = S.t h') ∧ (∀ b', b' < 16777216 → (S.t (b' / 256)).block ≠ 0 → (((S.disown1 (.b ((S.t (b / 256)).block - 1) (b % 256))).v1 b').block ≠ 0 ↔ b' ≠ b ∧ (S.v1 b').block ≠ 0)) := by
  have kh := w.w0 (b / 256) (by omega) h1
  have kb := w.w1 b hb0 h1 h2
  obtain ⟨m0, hm0⟩ : ∃ m, (S.t (b / 256)).block - 1 = m := ⟨_, rfl⟩
  obtain ⟨n, hn⟩ : ∃ n, (S.v1 b).block - 1 = n := ⟨_, rfl⟩
  rw [hm0] at kh ⊢
  rw [hn] at kb ⊢
  have hg : S.get (.b m0 (b % 256)) = S.v1 b := by unfold DS.v1; rw [hm0]; rfl
  have hx : S.b n 0 = S.v2 (b * 256) := by unfold DS.v2; rw [Nat.mul_div_cancel _ (by decide), hn, Nat.mul_mod_left]
  have hx0 : (S.b n 0).block = 0 := by rw [hx]; exact w.w2 _ (by omega) (by rw [show b * 256 / 65536 = b / 256 by omega]; exact h1) (by rw [Nat.mul_div_cancel _ (by decide)]; exact h2)
  have hd : S.disown1 (.b m0 (b % 256)) = { (S.put (.b m0 (b % 256)) (S.b n 0)) with free := S.free ++ [n] } := by unfold DS.disown1; rw [hg, hn]
  rw [hd]
  generalize hS' : ({ (S.put (.b m0 (b % 256)) (S.b n 0)) with free := S.free ++ [n] } : DS) = S'
  have ht : ∀ h', S'.t h' = S.t h' := fun h' => by subst hS'; rfl
  have hb : ∀ m j, S'.b m j = if m = m0 ∧ j = b % 256 then S.b n 0 else S.b m j := fun m j => by
    subst hS'; exact put_b_b kh.1 _ m j
  have hfr : S'.free = S.free ++ [n] := by subst hS'; rfl
  have hbl : S'.blk.length = S.blk.length := by subst hS'; show (S.blk.set _ _).length = _; rw [List.length_set]
  have htl : S'.tab.length = S.tab.length := by subst hS'; rfl
  clear hS' hd
  have hv1 : S'.v1 b = S.b n 0 := by
    show S'.b _ _ = _
    rw [ht, hm0, hb, if_pos ⟨rfl, rfl⟩]
  have hv1' : ∀ b', b' < 16777216 → b' ≠ b → (S.t (b' / 256)).block ≠ 0 → S'.v1 b' = S.v1 b' := fun b' hb' e h2 => by
    have k := w.w0 (b' / 256) (by omega) h2
    have hne2 : ¬ ((S.t (b' / 256)).block - 1 = m0 ∧ b' % 256 = b % 256) := fun ⟨e1, e2⟩ => by
      rw [e1, kh.2] at k
      have := k.2
      injection this
      omega
    show S'.b _ _ = _
    rw [ht, hb, if_neg hne2]
    rfl
  have hv2' : ∀ a, a < 4294967296 → a / 256 ≠ b → (S.t (a / 65536)).block ≠ 0 → (S.v1 (a / 256)).block ≠ 0 → S'.v2 a = S.v2 a := fun a ha e h2 h3 => by
    have k := w.w1 (a / 256) (by omega) (by rw [div256]; exact h2) h3
    have hne2 : (S.v1 (a / 256)).block - 1 ≠ m0 := fun e => by rw [e, kh.2] at k; cases k.2
    show S'.b _ _ = _
    rw [hv1' _ (by omega) e (by rw [div256]; exact h2), hb, if_neg (fun h => hne2 h.1)]
    rfl
  refine ⟨⟨?_, fun h' k1 k2 => ?_, fun b' k1 k2 k3 => ?_, fun a k1 k2 k3 => ?_, fun m hm => ?_, ?_, fun m hm => ?_⟩, fun a ha => ?_, ht, fun b' hb' k2 => ?_⟩
  · rw [htl]; exact w.len
  · rw [hbl]
    rw [ht] at k2 ⊢
    have k := w.w0 h' k1 k2
    unfold updl
    rw [if_neg (fun e => by rw [e, kb.2] at k; cases k.2)]
    exact k
  · rw [hbl]
    rw [ht] at k2
    by_cases e : b' = b
    · rw [e, hv1] at k3; exact absurd hx0 k3
    · rw [hv1' b' k1 e k2] at k3 ⊢
      have k := w.w1 b' k1 k2 k3
      unfold updl
      rw [if_neg (fun e2 => by rw [e2, kb.2] at k; have := k.2; injection this with this; exact e this.symm)]
      exact k
  · rw [ht] at k2
    by_cases e : a / 256 = b
    · rw [e, hv1] at k3; exact absurd hx0 k3
    · rw [hv1' _ (by omega) e (by rw [div256]; exact k2)] at k3
      rw [hv2' a k1 e k2 k3]
      exact w.w2 a k1 k2 k3
  · rw [hfr] at hm
    rw [hbl]
    unfold updl
    rcases List.mem_append.1 hm with hm | hm
    · have k := w.fr m hm
      rw [if_neg (fun e => by rw [e, kb.2] at k; cases k.2)]
      exact k
    · simp only [List.mem_singleton] at hm
      rw [if_pos hm]
      exact ⟨by rw [hm]; exact kb.1, rfl⟩
  · rw [hfr, List.nodup_append]
    refine ⟨w.nd, by simp, fun x hx y hy e => ?_⟩
    simp only [List.mem_singleton] at hy
    have k := w.fr x hx
    rw [e, hy, kb.2] at k
    cases k.2
  · rw [hbl] at hm
    unfold updl
    split
    · rfl
    · exact w.hi m hm
  · rw [lk_eq, ht]
    by_cases e : a / 256 = b
    · have e2 : a / 65536 = b / 256 := by omega
      rw [if_pos e, e2, if_neg h1, e, hv1, if_pos hx0, lk_eq, show b * 256 / 65536 = b / 256 by omega, if_neg h1, Nat.mul_div_cancel _ (by decide), if_neg h2, hx]
    · rw [if_neg e, lk_eq]
      by_cases k : (S.t (a / 65536)).block = 0
      · rw [if_pos k, if_pos k]
      · rw [if_neg k, if_neg k, hv1' _ (by omega) e (by rw [div256]; exact k)]
        by_cases k3 : (S.v1 (a / 256)).block = 0
        · rw [if_pos k3, if_pos k3]
        · rw [if_neg k3, if_neg k3, hv2' a ha e k k3]
  · by_cases e : b' = b
    · rw [e, hv1]; simp [hx0]
    · rw [hv1' b' hb' e k2]; simp [e]
end Go.Proofs.Ytgjabgneapdbiaa

namespace Go.Proofs.Ytgjabgneapdbiaa
set_option linter.unusedSimpArgs false
set_option linter.unusedVariables false

def oh (h : Nat) : PrefixM := ⟨h * 65536, 16⟩
def ob (b : Nat) : PrefixM := ⟨b * 256, 24⟩
theorem oh_inj {h h' : Nat} : oh h = oh h' ↔ h = h' := by simp only [oh, PrefixM.mk.injEq, and_true]; omega
theorem ob_inj {h h' : Nat} : ob h = ob h' ↔ h = h' := by simp only [ob, PrefixM.mk.injEq, and_true]; omega
theorem oh_ob (h b : Nat) : oh h ≠ ob b := by simp [oh, ob]
/-- Which blocks a prefix needs. -/
def ownedL (p : PrefixM) : List PrefixM := (if 16 < p.len then [oh (p.addr / 65536)] else []) ++ (if 24 < p.len then [ob (p.addr / 256)] else [])
theorem mem_oh {h : Nat} {p : PrefixM} : oh h ∈ ownedL p ↔ 16 < p.len ∧ p.addr / 65536 = h := by
  unfold ownedL
  rw [List.mem_append]
  constructor
  · rintro (k | k)
    · split at k
      · simp only [List.mem_singleton, oh_inj] at k; exact ⟨by assumption, k.symm⟩
      · simp at k
    · split at k
      · simp only [List.mem_singleton] at k; exact absurd k (oh_ob _ _)
      · simp at k
  · rintro ⟨k, rfl⟩; left; rw [if_pos k]; simp
theorem mem_ob {b : Nat} {p : PrefixM} : ob b ∈ ownedL p ↔ 24 < p.len ∧ p.addr / 256 = b := by
  unfold ownedL
  rw [List.mem_append]
  constructor
  · rintro (k | k)
    · split at k
      · simp only [List.mem_singleton] at k; exact absurd k.symm (oh_ob _ _)
      · simp at k
    · split at k
      · simp only [List.mem_singleton, ob_inj] at k; exact ⟨by assumption, k.symm⟩
      · simp at k
  · rintro ⟨k, rfl⟩; right; rw [if_pos k]; simp
/-- How many prefixes need a block. -/
def cnt (l : List EntM) (o : PrefixM) : Nat := (l.map (·.p)).countP (fun q => decide (o ∈ ownedL q))
theorem cnt_pos {l : List EntM} {o : PrefixM} : 0 < cnt l o ↔ ∃ x ∈ l, o ∈ ownedL x.p := by
  unfold cnt
  rw [List.countP_pos_iff]
  constructor
  · rintro ⟨q, hq, h⟩
    obtain ⟨x, hx, rfl⟩ := List.mem_map.1 hq
    exact ⟨x, hx, of_decide_eq_true h⟩
  · rintro ⟨x, hx, h⟩
    exact ⟨x.p, List.mem_map.2 ⟨x, hx, rfl⟩, decide_eq_true h⟩
theorem cnt_up {l : List EntM} {b : Nat} (h : cnt l (ob b) ≠ 0) : cnt l (oh (b / 256)) ≠ 0 := by
  obtain ⟨x, hx, ho⟩ := cnt_pos.1 (Nat.pos_of_ne_zero h)
  obtain ⟨h1, h2⟩ := mem_ob.1 ho
  have := cnt_pos.2 ⟨x, hx, mem_oh.2 ⟨by omega, show x.p.addr / 65536 = b / 256 by omega⟩⟩
  omega
theorem cnt_put_new {l : List EntM} {p : PrefixM} (h : hasE l p = false) (v : Int) (o : PrefixM) : cnt (putE l p v) o = cnt l o + (if o ∈ ownedL p then 1 else 0) := by
  unfold putE cnt
  rw [h, if_neg (by simp)]
  conv => rhs; rw [← List.take_append_drop (posE l p) l]
  simp only [List.map_append, List.map_cons, List.countP_append, List.countP_cons, decide_eq_true_eq]
  omega
theorem cnt_put_old {l : List EntM} {p : PrefixM} (h : hasE l p = true) (v : Int) (o : PrefixM) : cnt (putE l p v) o = cnt l o := by
  obtain ⟨y, hy, hyp⟩ := hasE_some h
  have hl := hasE_lt h
  unfold putE cnt
  rw [h, if_pos rfl, List.map_set]
  have : (l.map (·.p)).set (posE l p) p = l.map (·.p) := by
    apply List.ext_getElem?
    intro i
    rw [List.getElem?_set]
    split
    · rename_i e
      subst e
      rw [List.getElem?_map, hy]
      simp [hl, hyp]
    · rfl
  rw [this]
theorem cnt_del {l : List EntM} {p : PrefixM} (h : hasE l p = true) (o : PrefixM) : cnt l o = cnt (delE l p) o + (if o ∈ ownedL p then 1 else 0) := by
  obtain ⟨y, hy, hyp⟩ := hasE_some h
  have hl := hasE_lt h
  unfold delE cnt
  rw [h, if_pos rfl]
  conv => lhs; rw [← List.take_append_drop (posE l p) l, List.drop_eq_getElem_cons hl]
  have e : (l[posE l p]).p = p := by rw [List.getElem?_eq_getElem hl] at hy; rw [Option.some.inj hy]; exact hyp
  simp only [List.map_append, List.map_cons, List.countP_append, List.countP_cons, decide_eq_true_eq, e]
  omega

abbrev OwnF := PrefixM → Option Int
def updO (f : OwnF) (k : PrefixM) (v : Int) : OwnF := fun x => if x = k then some v else f x
def delO (f : OwnF) (k : PrefixM) : OwnF := fun x => if x = k then none else f x
/-- The tables, who owns blocks, how many do. -/
structure TS where
  S : DS
  own : OwnF
  n : Nat
structure InU (S : DS) (own : OwnF) : Prop where
  u0 : ∀ h, h < 65536 → ((S.t h).block ≠ 0 ↔ own (oh h) ≠ none)
  u1 : ∀ b, b < 16777216 → (S.t (b / 256)).block ≠ 0 → ((S.v1 b).block ≠ 0 ↔ own (ob b) ≠ none)
  u2 : ∀ b, b < 16777216 → own (ob b) ≠ none → own (oh (b / 256)) ≠ none
def locO (S : DS) (o : PrefixM) : Loc := if o.len ≤ 16 then .t (o.addr / 65536) else .b ((S.t (o.addr / 65536)).block - 1) (o.addr / 256 % 256)
theorem loc_oh (S : DS) (h : Nat) : locO S (oh h) = .t h := by
  unfold locO oh
  simp only
  rw [if_pos (by decide), Nat.mul_div_cancel _ (by decide)]
theorem loc_ob (S : DS) (b : Nat) : locO S (ob b) = .b ((S.t (b / 256)).block - 1) (b % 256) := by
  unfold locO ob
  simp only
  rw [if_neg (by decide), show b * 256 / 65536 = b / 256 by omega, Nat.mul_div_cancel _ (by decide)]
def TS.ownStep (X : TS) (o : PrefixM) : TS :=
  ⟨if (X.own o).getD 0 + 1 > 1 then X.S else X.S.own1 (locO X.S o), updO X.own o ((X.own o).getD 0 + 1), if (X.own o).isSome then X.n else X.n + 1⟩
def TS.disStep (X : TS) (o : PrefixM) : TS :=
  if (X.own o).getD 0 - 1 > 0 then ⟨X.S, updO X.own o ((X.own o).getD 0 - 1), X.n⟩ else ⟨X.S.disown1 (locO X.S o), delO X.own o, X.n - 1⟩
def TS.ownAll (X : TS) (p : PrefixM) : TS := (ownedL p).foldl TS.ownStep X
def TS.disAll (X : TS) (p : PrefixM) : TS := (ownedL p).reverse.foldl TS.disStep X
def PlOk (x : PlM) (o : Option EntM) : Prop := match o with | none => x.deep = 0 | some e => (x.deep : Int) = e.p.len + 1 ∧ x.v = e.v
def CntIs (l : List EntM) (own : OwnF) : Prop := ∀ o, own o = if cnt l o = 0 then none else some ((cnt l o : Nat) : Int)
structure Inv (X : TS) (l : List EntM) : Prop where
  wf : ∃ lab, Wf X.S lab
  inu : InU X.S X.own
  cnt : CntIs l X.own
  lk : ∀ a, a < 4294967296 → PlOk (X.S.lk a) (longE l a)

/-- One block more. -/
theorem own_one {X : TS} {lab : Nat → Lb} (w : Wf X.S lab) (u : InU X.S X.own) (hpos : ∀ o c, X.own o = some c → 1 ≤ c) {o : PrefixM} (ho : (∃ h, h < 65536 ∧ o = oh h) ∨ ∃ b, b < 16777216 ∧ o = ob b ∧ X.own (oh (b / 256)) ≠ none) :
    (∃ lab, Wf (X.ownStep o).S lab) ∧ InU (X.ownStep o).S (X.ownStep o).own ∧ (∀ o' c, (X.ownStep o).own o' = some c → 1 ≤ c) ∧ ∀ a, a < 4294967296 → (X.ownStep o).S.lk a = X.S.lk a := by
  have hp' : ∀ o' c, (X.ownStep o).own o' = some c → 1 ≤ c := fun o' c h => by
    unfold TS.ownStep updO at h
    simp only at h
    split at h
    · obtain rfl := Option.some.inj h
      cases hx : X.own o with
      | none => simp
      | some c => have := hpos o c hx; simp; omega
    · exact hpos o' c h
  cases hx : X.own o with
  | some c =>
    have hc := hpos o c hx
    have hS : (X.ownStep o).S = X.S := by unfold TS.ownStep; simp only [hx, Option.getD_some]; rw [if_pos (by omega)]
    have hn : ∀ o', (X.ownStep o).own o' ≠ none ↔ X.own o' ≠ none := fun o' => by
      unfold TS.ownStep updO
      simp only
      split
      · rename_i e; subst e; rw [hx]; simp
      · rfl
    rw [hS]
    exact ⟨⟨lab, w⟩, ⟨fun h hh => by rw [hn]; exact u.u0 h hh, fun b hb k => by rw [hn]; exact u.u1 b hb k, fun b hb => by rw [hn, hn]; exact u.u2 b hb⟩, hp', fun _ _ => rfl⟩
  | none =>
    have hS : (X.ownStep o).S = X.S.own1 (locO X.S o) := by unfold TS.ownStep; simp only [hx, Option.getD_none]; rw [if_neg (by omega)]
    have hn : ∀ o', (X.ownStep o).own o' ≠ none ↔ o' = o ∨ X.own o' ≠ none := fun o' => by
      unfold TS.ownStep updO
      simp only
      split
      · rename_i e; subst e; simp
      · rename_i e; simp [e]
    rw [hS]
    rcases ho with ⟨h, hh, rfl⟩ | ⟨b, hb, rfl, hob⟩
    · rw [loc_oh]
      have h0 : (X.S.t h).block = 0 := by
        rcases Nat.eq_zero_or_pos (X.S.t h).block with k | k
        · exact k
        · exact absurd hx ((u.u0 h hh).1 (by omega))
      obtain ⟨w', k1, k2, k3⟩ := own_h w hh h0
      refine ⟨⟨_, w'⟩, ⟨fun h' hh' => ?_, fun b hb k => ?_, fun b hb k => ?_⟩, hp', k1⟩
      · rw [k2 h' hh', hn, oh_inj, u.u0 h' hh']
      · rw [k3 b hb k, hn]
        have hne : ¬ ob b = oh h := fun e => oh_ob _ _ e.symm
        rw [or_iff_right hne]
        rcases (k2 (b / 256) (by omega)).1 k with e | e
        · constructor
          · exact fun c => absurd e c.1
          · intro c
            have := u.u2 b hb c
            rw [e] at this
            exact absurd hx this
        · rw [u.u1 b hb e]
          constructor
          · exact fun c => c.2
          · exact fun c => ⟨fun e2 => by rw [e2] at e; exact e h0, c⟩
      · rw [hn] at k ⊢
        rcases k with k | k
        · exact absurd k.symm (oh_ob _ _)
        · exact .inr (u.u2 b hb k)
    · rw [loc_ob]
      have h1 : (X.S.t (b / 256)).block ≠ 0 := (u.u0 (b / 256) (by omega)).2 hob
      have h0 : (X.S.v1 b).block = 0 := by
        rcases Nat.eq_zero_or_pos (X.S.v1 b).block with k | k
        · exact k
        · exact absurd hx ((u.u1 b hb h1).1 (by omega))
      obtain ⟨w', k1, k2, k3⟩ := own_b w hb h1 h0
      refine ⟨⟨_, w'⟩, ⟨fun h' hh' => ?_, fun b' hb' k => ?_, fun b' hb' k => ?_⟩, hp', k1⟩
      · rw [k2 h', hn, or_iff_right (oh_ob _ _), u.u0 h' hh']
      · rw [k2] at k
        rw [k3 b' hb' k, hn, ob_inj, u.u1 b' hb' k]
      · rw [hn] at k ⊢
        rcases k with k | k
        · rw [ob_inj] at k; subst k; exact .inr hob
        · exact .inr (u.u2 b' hb' k)

theorem CntIs.pos {l : List EntM} {own : OwnF} (h : CntIs l own) : ∀ o c, own o = some c → 1 ≤ c := fun o c e => by
  rw [h o] at e
  split at e
  · simp at e
  · obtain rfl := Option.some.inj e; omega
theorem CntIs.mem {l : List EntM} {own : OwnF} (h : CntIs l own) {x : EntM} (hx : x ∈ l) {o : PrefixM} (ho : o ∈ ownedL x.p) : own o ≠ none := by
  have := cnt_pos.2 ⟨x, hx, ho⟩
  rw [h o, if_neg (by omega)]
  simp

theorem own_step (Y : TS) (o o' : PrefixM) : (Y.ownStep o).own o' = if o' = o then some ((Y.own o).getD 0 + 1) else Y.own o' := rfl
/-- All blocks of a prefix. -/
theorem own_all {X : TS} {lab : Nat → Lb} (w : Wf X.S lab) (u : InU X.S X.own) (hpos : ∀ o c, X.own o = some c → 1 ≤ c) {p : PrefixM} (hp : p.addr < 4294967296) :
    (∃ lab, Wf (X.ownAll p).S lab) ∧ InU (X.ownAll p).S (X.ownAll p).own ∧ (∀ a, a < 4294967296 → (X.ownAll p).S.lk a = X.S.lk a) ∧ ∀ o, (X.ownAll p).own o = if o ∈ ownedL p then some ((X.own o).getD 0 + 1) else X.own o := by
  unfold TS.ownAll ownedL
  by_cases h16 : 16 < p.len
  · rw [if_pos h16]
    obtain ⟨⟨lab1, w1⟩, u1, p1, k1⟩ := own_one w u hpos (o := oh (p.addr / 65536)) (.inl ⟨_, by omega, rfl⟩)
    have o1 : ∀ o, (X.ownStep (oh (p.addr / 65536))).own o = if o = oh (p.addr / 65536) then some ((X.own o).getD 0 + 1) else X.own o := fun o => by
      rw [own_step]
      split
      · rename_i e; subst e; rfl
      · rfl
    by_cases h24 : 24 < p.len
    · rw [if_pos h24]
      simp only [List.singleton_append, List.foldl_cons, List.foldl_nil]
      obtain ⟨w2, u2, p2, k2⟩ := own_one w1 u1 p1 (o := ob (p.addr / 256)) (.inr ⟨_, by omega, rfl, by rw [o1, if_pos (by rw [oh_inj]; omega)]; simp⟩)
      refine ⟨w2, u2, fun a ha => (k2 a ha).trans (k1 a ha), fun o => ?_⟩
      rw [own_step]
      simp only [List.mem_cons, List.not_mem_nil, or_false]
      by_cases e : o = ob (p.addr / 256)
      · subst e
        rw [if_pos rfl, if_pos (.inr rfl), o1, if_neg (fun e => oh_ob _ _ e.symm)]
      · rw [if_neg e, o1]
        simp [e]
    · rw [if_neg h24]
      simp only [List.append_nil, List.foldl_cons, List.foldl_nil]
      exact ⟨⟨lab1, w1⟩, u1, k1, fun o => by rw [o1]; simp⟩
  · rw [if_neg h16, if_neg (by omega)]
    exact ⟨⟨lab, w⟩, u, fun _ _ => rfl, fun o => by simp [List.foldl_nil]⟩

/-! ### The longest prefix, behind Set and Del -/
theorem long_mem {l : List EntM} (hs : SortedE l) (hok : ∀ x ∈ l, okP x.p) {a : Nat} (ha : a < 4294967296) {x : EntM} (h : longE l a = some x) : x ∈ l ∧ inP x.p a ∧ ∀ y ∈ l, inP y.p a → y.p.len ≤ x.p.len := by
  obtain ⟨h1, h2, h3⟩ := (longE_is hs hok ha).some_ x h
  exact ⟨h1, (hasB_iff (hok x h1) a).1 h2, fun y hy hi => h3 y hy ((hasB_iff (hok y hy) a).2 hi)⟩
theorem long_no {l : List EntM} (hs : SortedE l) (hok : ∀ x ∈ l, okP x.p) {a : Nat} (ha : a < 4294967296) (h : longE l a = none) : ∀ y ∈ l, ¬ inP y.p a := fun y hy hi => by
  have := (longE_is hs hok ha).none_ h y hy
  rw [(hasB_iff (hok y hy) a).2 hi] at this
  cases this
theorem long_is {l : List EntM} (hs : SortedE l) (hok : ∀ x ∈ l, okP x.p) {a : Nat} (ha : a < 4294967296) {x : EntM} (h1 : x ∈ l) (h2 : inP x.p a) (h3 : ∀ y ∈ l, inP y.p a → y.p.len ≤ x.p.len) : longE l a = some x :=
  LongIs.uniq hs hok (longE_is hs hok ha) ⟨fun y hy => by obtain rfl := Option.some.inj hy; exact ⟨h1, (hasB_iff (hok x h1) a).2 h2, fun z hz hb => h3 z hz ((hasB_iff (hok z hz) a).1 hb)⟩, fun h => by simp at h⟩
theorem long_is_no {l : List EntM} (hs : SortedE l) (hok : ∀ x ∈ l, okP x.p) {a : Nat} (ha : a < 4294967296) (h : ∀ y ∈ l, ¬ inP y.p a) : longE l a = none := by
  cases hl : longE l a with
  | none => rfl
  | some x => obtain ⟨h1, h2, _⟩ := long_mem hs hok ha hl; exact absurd h2 (h x h1)
theorem put_ok2 {l : List EntM} (hs : SortedE l) (hok : ∀ x ∈ l, okP x.p) {p : PrefixM} (hp : okP p) (v : Int) : ∀ x ∈ putE l p v, okP x.p := fun x hx => by
  rcases (put_E_mem hs p v x).1 hx with rfl | ⟨h, _⟩
  · exact hp
  · exact hok x h
theorem same_len {p q : PrefixM} (hp : okP p) (hq : okP q) {a : Nat} (h1 : inP p a) (h2 : inP q a) (hl : p.len = q.len) : p = q := by
  rcases nest hp hq (Int.le_of_eq hl) with k | k | k
  · exact cov_same hp hq k hl
  · unfold inP at *; omega
  · unfold inP at *; omega
theorem long_put {l : List EntM} (hs : SortedE l) (hok : ∀ x ∈ l, okP x.p) {p : PrefixM} (hp : okP p) (v : Int) {a : Nat} (ha : a < 4294967296) :
    (inP p a ∧ (∀ x, longE l a = some x → x.p.len ≤ p.len) → longE (putE l p v) a = some ⟨p, v⟩) ∧ (¬ (inP p a ∧ (∀ x, longE l a = some x → x.p.len ≤ p.len)) → longE (putE l p v) a = longE l a) := by
  have hs' := put_E_sorted hs p v
  have hok' := put_ok2 hs hok hp v
  have hm := fun x => put_E_mem hs p v x
  constructor
  · rintro ⟨h1, h2⟩
    refine long_is hs' hok' ha ((hm _).2 (.inl rfl)) h1 (fun y hy hi => ?_)
    rcases (hm y).1 hy with rfl | ⟨hy, _⟩
    · exact Int.le_refl _
    · cases hl : longE l a with
      | none => exact absurd hi (long_no hs hok ha hl y hy)
      | some x =>
        have := (long_mem hs hok ha hl).2.2 y hy hi
        have := h2 x hl
        show y.p.len ≤ p.len
        omega
  · intro h
    cases hl : longE l a with
    | none =>
      refine long_is_no hs' hok' ha (fun y hy hi => ?_)
      rcases (hm y).1 hy with rfl | ⟨hy, _⟩
      · exact h ⟨hi, fun x hx => by rw [hl] at hx; cases hx⟩
      · exact long_no hs hok ha hl y hy hi
    | some x =>
      obtain ⟨k1, k2, k3⟩ := long_mem hs hok ha hl
      have hnp : inP p a → p.len < x.p.len := fun hi => by
        rcases Int.lt_or_le p.len x.p.len with c | c
        · exact c
        · exact absurd ⟨hi, fun y hy => by rw [hl] at hy; obtain rfl := Option.some.inj hy; exact c⟩ h
      refine long_is hs' hok' ha ((hm x).2 (.inr ⟨k1, fun e => ?_⟩)) k2 (fun y hy hi => ?_)
      · have := hnp (e ▸ k2); rw [e] at this; omega
      · rcases (hm y).1 hy with rfl | ⟨hy, _⟩
        · have := hnp hi; show p.len ≤ _; omega
        · exact k3 y hy hi
theorem long_del {l : List EntM} (hs : SortedE l) (hok : ∀ x ∈ l, okP x.p) {p : PrefixM} (hp : okP p) {a : Nat} (ha : a < 4294967296) :
    (∀ x, longE l a = some x → x.p = p → longE (delE l p) a = (pathX (delE l p) p).getLast?) ∧ ((∀ x, longE l a = some x → x.p ≠ p) → longE (delE l p) a = longE l a) := by
  have hs' := del_E_sorted hs p
  have hm := fun x => del_E_mem hs p x
  have hok' : ∀ x ∈ delE l p, okP x.p := fun x hx => hok x ((hm x).1 hx).1
  constructor
  · intro x hx e
    obtain ⟨k1, k2, k3⟩ := long_mem hs hok ha hx
    rw [e] at k2 k3
    have hcov : ∀ y ∈ delE l p, inP y.p a → y ∈ pathX (delE l p) p := fun y hy hi => by
      have hyl := (hm y).1 hy
      have hlt : y.p.len < p.len := by
        have := k3 y hyl.1 hi
        rcases Int.lt_or_eq_of_le this with c | c
        · exact c
        · exact absurd (same_len (hok y hyl.1) hp hi k2 c) hyl.2
      have hc : cov y.p p := by
        rcases nest (hok y hyl.1) hp (Int.le_of_lt hlt) with c | c | c
        · exact c
        · unfold inP at *; omega
        · unfold inP at *; omega
      unfold pathX
      rw [if_pos hp.1, List.mem_filter]
      exact ⟨hy, (covB_iff (hok y hyl.1) hp).2 hc⟩
    have hin : ∀ y ∈ pathX (delE l p) p, inP y.p a := fun y hy => by
      have h1 := pathX_mem hy
      have hc := (covB_iff (hok' y h1.1) hp).1 h1.2
      have := cov_sub (hok' y h1.1) hp hc
      unfold inP at *
      omega
    cases hl : (pathX (delE l p) p).getLast? with
    | none =>
      refine long_is_no hs' hok' ha (fun y hy hi => ?_)
      have := hcov y hy hi
      rw [List.getLast?_eq_none_iff] at hl
      rw [hl] at this
      simp at this
    | some z =>
      obtain ⟨h1, h2⟩ := pathX_last hs' hok' hp.2 hl
      exact long_is hs' hok' ha (pathX_mem h1).1 (hin z h1) (fun y hy hi => (h2 y (hcov y hy hi)).1)
  · intro h
    cases hl : longE l a with
    | none => exact long_is_no hs' hok' ha (fun y hy hi => long_no hs hok ha hl y ((hm y).1 hy).1 hi)
    | some x =>
      obtain ⟨k1, k2, k3⟩ := long_mem hs hok ha hl
      exact long_is hs' hok' ha ((hm x).2 ⟨k1, h x hl⟩) k2 (fun y hy hi => k3 y ((hm y).1 hy).1 hi)
theorem long_same {l : List EntM} (hok : ∀ x ∈ l, okP x.p) {a a' : Nat} (ha : a < 4294967296) (ha' : a' < 4294967296) (h : ∀ x ∈ l, inP x.p a ↔ inP x.p a') : longE l a = longE l a' := by
  unfold longE pathX
  rw [if_pos (addrP_ok ha).1, if_pos (addrP_ok ha').1]
  congr 1
  refine List.filter_congr (fun x hx => ?_)
  rw [covB_addr (hok x hx) ha, covB_addr (hok x hx) ha', Bool.eq_iff_iff, hasB_iff (hok x hx), hasB_iff (hok x hx)]
  exact h x hx

/-- Where a place of a prefix is known by how deep it is. -/
theorem PlOk.deep {x : PlM} {o : Option EntM} (h : PlOk x o) {d : Nat} : (x.deep = d ∧ d ≠ 0) ↔ ∃ e, o = some e ∧ e.p.len + 1 = (d : Int) ∧ d ≠ 0 := by
  cases o with
  | none => simp only [PlOk] at h; constructor
            · rintro ⟨h1, h2⟩; omega
            · rintro ⟨e, he, _⟩; cases he
  | some e => simp only [PlOk] at h; constructor
              · rintro ⟨h1, h2⟩; exact ⟨e, rfl, by omega, h2⟩
              · rintro ⟨e', he, h1, h2⟩; obtain rfl := Option.some.inj he; exact ⟨by omega, h2⟩
def paintTo (p : PrefixM) (v : Int) : PlM := ⟨v, (p.len + 1).toNat, 0⟩
theorem inu_pnt {S : DS} {own : OwnF} (u : InU S own) {tp : PlM} (ht : tp.block = 0) (fit : Nat → Bool) (R : Loc → Bool) : InU (pnt R tp fit S) own :=
  ⟨fun h hh => by rw [pnt_t ht]; exact u.u0 h hh, fun b hb => by rw [pnt_t ht, pnt_v1 ht]; exact u.u1 b hb, u.u2⟩
theorem need_blocks {X : TS} {l : List EntM} {p : PrefixM} (hp : okP p) (u : InU X.S X.own) (h : ∀ o ∈ ownedL p, X.own o ≠ none) : (16 < p.len → (X.S.t (p.addr / 65536)).block ≠ 0) ∧ (24 < p.len → (X.S.v1 (p.addr / 256)).block ≠ 0) := by
  have hlt := hp.lt
  have h16 : 16 < p.len → (X.S.t (p.addr / 65536)).block ≠ 0 := fun k => (u.u0 _ (by omega)).2 (h _ (mem_oh.2 ⟨k, rfl⟩))
  exact ⟨h16, fun k => (u.u1 _ (by omega) (by rw [div256]; exact h16 (by omega))).2 (h _ (mem_ob.2 ⟨k, rfl⟩))⟩

/-- Set, where there is room. -/
def TS.setP (X : TS) (l : List EntM) (p : PrefixM) (v : Int) : TS :=
  let X1 := if hasE l p then X else X.ownAll p
  { X1 with S := pnt (Rp X1.S p) (paintTo p v) (fun d => decide (d ≤ (p.len + 1).toNat)) X1.S }
theorem inv_set {X : TS} {l : List EntM} (I : Inv X l) (hs : SortedE l) (hok : ∀ x ∈ l, okP x.p) {p : PrefixM} (hp : okP p) (v : Int) : Inv (X.setP l p v) (putE l p v) := by
  obtain ⟨lab, w⟩ := I.wf
  have hb := hp.bd
  -- behind the blocks
  obtain ⟨X1, hX1⟩ : ∃ X1, X1 = if hasE l p then X else X.ownAll p := ⟨_, rfl⟩
  have key : (∃ lab, Wf X1.S lab) ∧ InU X1.S X1.own ∧ (∀ a, a < 4294967296 → X1.S.lk a = X.S.lk a) ∧ CntIs (putE l p v) X1.own := by
    cases hh : hasE l p with
    | true =>
      rw [hh, if_pos rfl] at hX1
      subst hX1
      exact ⟨I.wf, I.inu, fun _ _ => rfl, fun o => by rw [cnt_put_old hh]; exact I.cnt o⟩
    | false =>
      rw [hh, if_neg (by simp)] at hX1
      subst hX1
      obtain ⟨w1, u1, k1, o1⟩ := own_all w I.inu I.cnt.pos (p := p) hp.lt
      refine ⟨w1, u1, k1, fun o => ?_⟩
      rw [o1, cnt_put_new hh, I.cnt o]
      by_cases ho : o ∈ ownedL p
      · have h1 : ¬ Go.Proofs.Ytgjabgneapdbiaa.cnt l o + 1 = 0 := Nat.succ_ne_zero _
        rw [if_pos ho, if_pos ho, if_neg h1]
        split
        · rename_i c; simp [c]
        · simp
      · rw [if_neg ho, if_neg ho, Nat.add_zero]
  obtain ⟨⟨lab1, w1⟩, u1, k1, c1⟩ := key
  have hX : X.setP l p v = { X1 with S := pnt (Rp X1.S p) (paintTo p v) (fun d => decide (d ≤ (p.len + 1).toNat)) X1.S } := by unfold TS.setP; rw [hX1]
  rw [hX]
  have htp : (paintTo p v).block = 0 := rfl
  obtain ⟨n16, n24⟩ := need_blocks (l := l) hp u1 (fun o ho => c1.mem (x := ⟨p, v⟩) ((put_E_mem hs p v _).2 (.inl rfl)) ho)
  refine ⟨⟨lab1, pnt_wf w1 htp _ _⟩, inu_pnt u1 htp _ _, c1, fun a ha => ?_⟩
  show PlOk ((pnt (Rp X1.S p) (paintTo p v) _ X1.S).lk a) _
  rw [paint_lk w1 hp n16 n24 htp _ ha, k1 a ha]
  have hl := I.lk a ha
  obtain ⟨g1, g2⟩ := long_put hs hok hp v ha
  by_cases hi : inP p a ∧ ∀ x, longE l a = some x → x.p.len ≤ p.len
  · rw [g1 hi, if_pos]
    · show (((p.len + 1).toNat : Nat) : Int) = p.len + 1 ∧ v = v
      exact ⟨by omega, rfl⟩
    · refine ⟨hi.1, ?_⟩
      rw [decide_eq_true_eq]
      cases hlo : longE l a with
      | none => rw [hlo] at hl; simp only [PlOk] at hl; omega
      | some x => rw [hlo] at hl; simp only [PlOk] at hl; have := hi.2 x hlo; omega
  · rw [g2 hi, if_neg]
    · exact hl
    · rintro ⟨h1, h2⟩
      rw [decide_eq_true_eq] at h2
      refine hi ⟨h1, fun x hx => ?_⟩
      rw [hx] at hl
      simp only [PlOk] at hl
      omega

/-- One block less. -/
theorem dis_one {X : TS} {l : List EntM} {lab : Nat → Lb} (w : Wf X.S lab) (u : InU X.S X.own) (hok : ∀ x ∈ l, okP x.p) (hlk : ∀ a, a < 4294967296 → PlOk (X.S.lk a) (longE l a)) {o : PrefixM} (ho : (∃ h, h < 65536 ∧ o = oh h) ∨ ∃ b, b < 16777216 ∧ o = ob b)
    (hc : X.own o = some ((cnt l o : Nat) + 1 : Int)) (hno : ∀ b, o = oh (b / 256) → cnt l o = 0 → X.own (ob b) = none) :
    (∃ lab, Wf (X.disStep o).S lab) ∧ InU (X.disStep o).S (X.disStep o).own ∧ (∀ a, a < 4294967296 → PlOk ((X.disStep o).S.lk a) (longE l a)) ∧ (∀ o', (X.disStep o).own o' = if o' = o then (if cnt l o = 0 then none else some ((cnt l o : Nat) : Int)) else X.own o') := by
  have hg : (X.own o).getD 0 - 1 = ((cnt l o : Nat) : Int) := by rw [hc]; simp
  by_cases h0 : cnt l o = 0
  · have hd : X.disStep o = ⟨X.S.disown1 (locO X.S o), delO X.own o, X.n - 1⟩ := by unfold TS.disStep; rw [hg, if_neg (by omega)]
    rw [hd]
    have hown : ∀ o', delO X.own o o' = if o' = o then (if cnt l o = 0 then none else some ((cnt l o : Nat) : Int)) else X.own o' := fun o' => by unfold delO; rw [if_pos h0]
    have hn : ∀ o', delO X.own o o' ≠ none ↔ o' ≠ o ∧ X.own o' ≠ none := fun o' => by
      unfold delO
      split
      · rename_i e; simp [e]
      · rename_i e; simp [e]
    have hco : X.own o ≠ none := by rw [hc]; simp
    rcases ho with ⟨h, hh, rfl⟩ | ⟨b, hb, rfl⟩
    · rw [loc_oh]
      have h1 := (u.u0 h hh).2 hco
      have hv : ∀ b, b / 256 = h → (X.S.v1 b).block = 0 := fun b hb => by
        rcases Nat.eq_zero_or_pos (X.S.v1 b).block with k | k
        · exact k
        · exact absurd (hno b (by rw [hb]) h0) ((u.u1 b (by omega) (by rw [hb]; exact h1)).1 (by omega))
      obtain ⟨w', k1, k2, k3⟩ := dis_h w hh h1 hv
      refine ⟨⟨_, w'⟩, ⟨fun h' hh' => ?_, fun b hb k => ?_, fun b hb k => ?_⟩, fun a ha => ?_, hown⟩
      · rw [k2 h' hh', hn, u.u0 h' hh']
        simp only [ne_eq, oh_inj]
      · have k' := (k2 (b / 256) (by omega)).1 k
        rw [k3 b k'.1, u.u1 b hb k'.2, hn]
        constructor
        · exact fun c => ⟨fun e => oh_ob _ _ e.symm, c⟩
        · exact fun c => c.2
      · rw [hn] at k ⊢
        refine ⟨fun e => ?_, u.u2 b hb k.2⟩
        exact k.2 (hno b e.symm h0)
      · show PlOk ((X.S.disown1 (.t h)).lk a) _
        rw [k1 a ha]
        by_cases e : a / 65536 = h
        · rw [if_pos e]
          have hl := hlk (h * 65536) (by omega)
          rw [long_same hok ha (by omega : h * 65536 < 4294967296) (fun x hx => ?_)]
          · exact hl
          · have hxo := hok x hx
            have hx16 : ¬ (16 < x.p.len ∧ x.p.addr / 65536 = h) := fun c => by
              have := cnt_pos.2 ⟨x, hx, mem_oh.2 c⟩; omega
            have hcst := hxo.cast
            by_cases c16 : 16 < x.p.len
            · have hne : x.p.addr / 65536 ≠ h := fun c => hx16 ⟨c16, c⟩
              obtain ⟨m, hm⟩ : ∃ m, 65536 = m * szP x.p := ⟨2 ^ (16 - (32 - heldN x.p.len)), by
                unfold szP
                rw [← Nat.pow_add, show 16 - (32 - heldN x.p.len) + (32 - heldN x.p.len) = 16 by have := heldN_le x.p.len; omega]⟩
              have hin : ∀ a', inP x.p a' → a' / 65536 = x.p.addr / 65536 := fun a' hi => by
                have h2 := in_unit hxo (j := 32 - heldN x.p.len) (by have := heldN_le x.p.len; omega) a'
                obtain ⟨i, hi1, hi2⟩ := h2.1 hi
                have hz2 : 2 ^ (32 - heldN x.p.len) = szP x.p := rfl
                rw [show 32 - (32 - heldN x.p.len) - heldN x.p.len = 0 by have := heldN_le x.p.len; omega] at hi1
                rw [hz2] at hi2
                have hi0 : i = 0 := by simpa using hi1
                rw [hm, Nat.mul_comm, ← Nat.div_div_eq_div_mul, ← Nat.div_div_eq_div_mul, hi2, hi0, Nat.add_zero]
              constructor
              · intro hi; exact absurd ((hin a hi).symm.trans e) hne
              · intro hi; exact absurd ((hin _ hi).symm.trans (Nat.mul_div_cancel _ (by decide))) hne
            · have e16 : (2 : Nat) ^ 16 = 65536 := rfl
              have h1 := in_unit hxo (j := 16) (by omega) a
              have h2 := in_unit hxo (j := 16) (by omega) (h * 65536)
              rw [e16] at h1 h2
              rw [h1, h2, e, Nat.mul_div_cancel _ (by decide)]
        · rw [if_neg e]; exact hlk a ha
    · rw [loc_ob]
      have hh := u.u2 b hb hco
      have h1 := (u.u0 (b / 256) (by omega)).2 hh
      have h2 := (u.u1 b hb h1).2 hco
      obtain ⟨w', k1, k2, k3⟩ := dis_b w hb h1 h2
      refine ⟨⟨_, w'⟩, ⟨fun h' hh' => ?_, fun b' hb' k => ?_, fun b' hb' k => ?_⟩, fun a ha => ?_, hown⟩
      · show (((X.S.disown1 _).t h').block ≠ 0 ↔ _)
        rw [k2 h', hn, u.u0 h' hh']
        constructor
        · exact fun c => ⟨oh_ob _ _, c⟩
        · exact fun c => c.2
      · have k' : (X.S.t (b' / 256)).block ≠ 0 := by rw [← k2]; exact k
        rw [k3 b' hb' k', u.u1 b' hb' k', hn]
        simp only [ne_eq, ob_inj]
      · rw [hn] at k ⊢
        exact ⟨oh_ob _ _, u.u2 b' hb' k.2⟩
      · show PlOk ((X.S.disown1 _).lk a) _
        rw [k1 a ha]
        by_cases e : a / 256 = b
        · rw [if_pos e]
          have hl := hlk (b * 256) (by omega)
          rw [long_same hok ha (by omega : b * 256 < 4294967296) (fun x hx => ?_)]
          · exact hl
          · have hxo := hok x hx
            have hx24 : ¬ (24 < x.p.len ∧ x.p.addr / 256 = b) := fun c => by
              have := cnt_pos.2 ⟨x, hx, mem_ob.2 c⟩; omega
            have hcst := hxo.cast
            by_cases c24 : 24 < x.p.len
            · have hne : x.p.addr / 256 ≠ b := fun c => hx24 ⟨c24, c⟩
              obtain ⟨m, hm⟩ : ∃ m, 256 = m * szP x.p := ⟨2 ^ (8 - (32 - heldN x.p.len)), by
                unfold szP
                rw [← Nat.pow_add, show 8 - (32 - heldN x.p.len) + (32 - heldN x.p.len) = 8 by have := heldN_le x.p.len; omega]⟩
              have hin : ∀ a', inP x.p a' → a' / 256 = x.p.addr / 256 := fun a' hi => by
                have h2 := in_unit hxo (j := 32 - heldN x.p.len) (by have := heldN_le x.p.len; omega) a'
                obtain ⟨i, hi1, hi2⟩ := h2.1 hi
                have hz2 : 2 ^ (32 - heldN x.p.len) = szP x.p := rfl
                rw [show 32 - (32 - heldN x.p.len) - heldN x.p.len = 0 by have := heldN_le x.p.len; omega] at hi1
                rw [hz2] at hi2
                have hi0 : i = 0 := by simpa using hi1
                rw [hm, Nat.mul_comm, ← Nat.div_div_eq_div_mul, ← Nat.div_div_eq_div_mul, hi2, hi0, Nat.add_zero]
              constructor
              · intro hi; exact absurd ((hin a hi).symm.trans e) hne
              · intro hi; exact absurd ((hin _ hi).symm.trans (Nat.mul_div_cancel _ (by decide))) hne
            · have e8 : (2 : Nat) ^ 8 = 256 := rfl
              have h1 := in_unit hxo (j := 8) (by omega) a
              have h2 := in_unit hxo (j := 8) (by omega) (b * 256)
              rw [e8] at h1 h2
              rw [h1, h2, e, Nat.mul_div_cancel _ (by decide)]
        · rw [if_neg e]; exact hlk a ha
  · have hd : X.disStep o = ⟨X.S, updO X.own o ((cnt l o : Nat) : Int), X.n⟩ := by unfold TS.disStep; rw [hg, if_pos (by omega)]
    rw [hd]
    have hn : ∀ o', updO X.own o ((cnt l o : Nat) : Int) o' ≠ none ↔ X.own o' ≠ none := fun o' => by
      unfold updO
      split
      · rename_i e; subst e; rw [hc]; simp
      · rfl
    exact ⟨⟨lab, w⟩, ⟨fun h hh => by rw [hn]; exact u.u0 h hh, fun b hb k => by rw [hn]; exact u.u1 b hb k, fun b hb => by rw [hn, hn]; exact u.u2 b hb⟩, hlk, fun o' => by unfold updO; rw [if_neg h0]⟩

def upTop (l : List EntM) (p : PrefixM) : PlM := match (pathX l p).getLast? with | none => zPl | some q => paintTo q.p q.v
/-- Del, of what is there. -/
def TS.delP (X : TS) (l : List EntM) (p : PrefixM) : TS :=
  ({ X with S := pnt (Rp X.S p) (upTop (delE l p) p) (fun d => decide (d = (p.len + 1).toNat)) X.S } : TS).disAll p
theorem inv_del {X : TS} {l : List EntM} (I : Inv X l) (hs : SortedE l) (hok : ∀ x ∈ l, okP x.p) {p : PrefixM} (hp : okP p) (hh : hasE l p = true) : Inv (X.delP l p) (delE l p) := by
  obtain ⟨lab, w⟩ := I.wf
  have hb := hp.bd
  have hplt := hp.lt
  have hs' := del_E_sorted hs p
  have hok' : ∀ x ∈ delE l p, okP x.p := fun x hx => hok x ((del_E_mem hs p x).1 hx).1
  obtain ⟨y, hy, hyp⟩ := (hasE_iff hs p).1 hh
  have htp : (upTop (delE l p) p).block = 0 := by unfold upTop; split <;> rfl
  obtain ⟨n16, n24⟩ := need_blocks (l := l) hp I.inu (fun o ho => I.cnt.mem hy (by rw [hyp]; exact ho))
  -- behind the painting
  have hlk : ∀ a, a < 4294967296 → PlOk ((pnt (Rp X.S p) (upTop (delE l p) p) (fun d => decide (d = (p.len + 1).toNat)) X.S).lk a) (longE (delE l p) a) := fun a ha => by
    rw [paint_lk w hp n16 n24 htp _ ha]
    have hl := I.lk a ha
    obtain ⟨g1, g2⟩ := long_del hs hok hp ha
    by_cases hi : inP p a ∧ decide ((X.S.lk a).deep = (p.len + 1).toNat) = true
    · rw [if_pos hi]
      obtain ⟨h1, h2⟩ := hi
      rw [decide_eq_true_eq] at h2
      obtain ⟨e, he, hd, _⟩ := hl.deep.1 ⟨h2, by omega⟩
      have hem := long_mem hs hok ha he
      have hep : e.p = p := same_len (hok e hem.1) hp hem.2.1 h1 (by omega)
      rw [g1 e he hep]
      unfold upTop
      cases hlast : (pathX (delE l p) p).getLast? with
      | none => rfl
      | some q =>
        have hq := (pathX_last hs' hok' hp.2 hlast).1
        have := (hok' q (pathX_mem hq).1).bd
        exact ⟨by show (((q.p.len + 1).toNat : Nat) : Int) = _; omega, rfl⟩
    · rw [if_neg hi]
      rw [g2 (fun x hx e => ?_)]
      · exact hl
      · have hem := long_mem hs hok ha hx
        refine hi ⟨by rw [← e]; exact hem.2.1, ?_⟩
        rw [decide_eq_true_eq]
        rw [hx] at hl
        simp only [PlOk] at hl
        rw [e] at hl
        omega
  have hw1 := pnt_wf w htp (fun d => decide (d = (p.len + 1).toNat)) (Rp X.S p)
  have hu1 := inu_pnt I.inu htp (fun d => decide (d = (p.len + 1).toNat)) (Rp X.S p)
  have hc := fun o => cnt_del hh o
  unfold TS.delP TS.disAll
  generalize hX1 : ({ X with S := pnt (Rp X.S p) (upTop (delE l p) p) (fun d => decide (d = (p.len + 1).toNat)) X.S } : TS) = X1
  have e1 : X1.S = pnt (Rp X.S p) (upTop (delE l p) p) (fun d => decide (d = (p.len + 1).toNat)) X.S := by subst hX1; rfl
  have e2 : X1.own = X.own := by subst hX1; rfl
  rw [← e1] at hlk hw1 hu1
  rw [← e2] at hu1
  have hcnt : CntIs l X1.own := by rw [e2]; exact I.cnt
  clear hX1 e1 e2
  have fin : ∀ (Y : TS), (∃ lab, Wf Y.S lab) → InU Y.S Y.own → (∀ a, a < 4294967296 → PlOk (Y.S.lk a) (longE (delE l p) a)) → (∀ o, Y.own o = if cnt (delE l p) o = 0 then none else some ((cnt (delE l p) o : Nat) : Int)) → Inv Y (delE l p) := fun Y a b c d => ⟨a, b, d, c⟩
  have hout : ∀ o, o ∉ ownedL p → X1.own o = if cnt (delE l p) o = 0 then none else some ((cnt (delE l p) o : Nat) : Int) := fun o k => by
    have e := hc o
    rw [if_neg k, Nat.add_zero] at e
    rw [hcnt o, e]
  by_cases h16 : 16 < p.len
  · have hoh : oh (p.addr / 65536) ∈ ownedL p := mem_oh.2 ⟨h16, rfl⟩
    have choh : cnt l (oh (p.addr / 65536)) = cnt (delE l p) (oh (p.addr / 65536)) + 1 := by rw [hc, if_pos hoh]
    by_cases h24 : 24 < p.len
    · have hob : ob (p.addr / 256) ∈ ownedL p := mem_ob.2 ⟨h24, rfl⟩
      have chob : cnt l (ob (p.addr / 256)) = cnt (delE l p) (ob (p.addr / 256)) + 1 := by rw [hc, if_pos hob]
      have eL : (ownedL p).reverse = [ob (p.addr / 256), oh (p.addr / 65536)] := by unfold ownedL; rw [if_pos h16, if_pos h24]; rfl
      rw [eL]
      simp only [List.foldl_cons, List.foldl_nil]
      obtain ⟨⟨lab1, w1⟩, u1, k1, o1⟩ := dis_one (l := delE l p) hw1 hu1 hok' hlk (o := ob (p.addr / 256)) (.inr ⟨_, by omega, rfl⟩) (by rw [hcnt, chob, if_neg (by omega)]; simp) (fun b e => absurd e.symm (oh_ob _ _))
      obtain ⟨w2, u2, k2, o2⟩ := dis_one (l := delE l p) w1 u1 hok' k1 (o := oh (p.addr / 65536)) (.inl ⟨_, by omega, rfl⟩) (by rw [o1, if_neg (oh_ob _ _), hcnt, choh, if_neg (by omega)]; simp) (fun b e h0 => by
        rw [oh_inj] at e
        have hz : cnt (delE l p) (ob b) = 0 := by
          rcases Nat.eq_zero_or_pos (cnt (delE l p) (ob b)) with k | k
          · exact k
          · exact absurd (by rw [← e]; exact h0) (cnt_up (by omega : cnt (delE l p) (ob b) ≠ 0))
        rw [o1]
        split
        · rename_i e2; rw [← e2, if_pos hz]
        · rename_i e2
          rw [hout _ (fun k => e2 (by rw [ob_inj]; exact (mem_ob.1 k).2.symm)), if_pos hz])
      refine fin _ w2 u2 k2 (fun o => ?_)
      rw [o2]
      split
      · rename_i e; rw [e]
      · rename_i e
        rw [o1]
        split
        · rename_i e2; rw [e2]
        · rename_i e2
          have : o ∉ ownedL p := fun k => by
            have : o ∈ (ownedL p).reverse := List.mem_reverse.2 k
            rw [eL] at this
            simp only [List.mem_cons, List.not_mem_nil, or_false] at this
            rcases this with k | k
            · exact e2 k
            · exact e k
          exact hout o this
    · have eL : (ownedL p).reverse = [oh (p.addr / 65536)] := by unfold ownedL; rw [if_pos h16, if_neg h24]; rfl
      rw [eL]
      simp only [List.foldl_cons, List.foldl_nil]
      have hnob : ∀ b, ob b ∉ ownedL p := fun b k => h24 (mem_ob.1 k).1
      obtain ⟨w2, u2, k2, o2⟩ := dis_one (l := delE l p) hw1 hu1 hok' hlk (o := oh (p.addr / 65536)) (.inl ⟨_, by omega, rfl⟩) (by rw [hcnt, choh, if_neg (by omega)]; simp) (fun b e h0 => by
        rw [oh_inj] at e
        have hz : cnt (delE l p) (ob b) = 0 := by
          rcases Nat.eq_zero_or_pos (cnt (delE l p) (ob b)) with k | k
          · exact k
          · exact absurd (by rw [← e]; exact h0) (cnt_up (by omega : cnt (delE l p) (ob b) ≠ 0))
        rw [hout _ (hnob b), if_pos hz])
      refine fin _ w2 u2 k2 (fun o => ?_)
      rw [o2]
      split
      · rename_i e; rw [e]
      · rename_i e
        have : o ∉ ownedL p := fun k => by
          have : o ∈ (ownedL p).reverse := List.mem_reverse.2 k
          rw [eL] at this
          exact e (by simpa using this)
        exact hout o this
  · have eL : ownedL p = [] := by unfold ownedL; rw [if_neg h16, if_neg (by omega)]; rfl
    rw [eL]
    refine fin _ ⟨_, hw1⟩ hu1 hlk (fun o => ?_)
    rw [List.reverse_nil, List.foldl_nil]
    exact hout o (by rw [eL]; simp)
end Go.Proofs.Ytgjabgneapdbiaa

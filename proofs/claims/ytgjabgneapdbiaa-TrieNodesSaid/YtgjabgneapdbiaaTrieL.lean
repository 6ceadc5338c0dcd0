/- Chapter 9 in plain lists: the longest prefix, those that cover. No program in sight. -/
import Derived.Test.YtgjabgneapdbiaaTrieE
namespace Go.Proofs.Ytgjabgneapdbiaa
set_option linter.unusedSimpArgs false
set_option linter.unusedVariables false

def pathX (l : List EntM) (p : PrefixM) : List EntM := if p = normP p then l.filter (fun e => covB e.p p) else []
theorem pathX_mem {l : List EntM} {p : PrefixM} {x : EntM} (h : x ∈ pathX l p) : x ∈ l ∧ covB x.p p = true := by
  unfold pathX at h
  split at h
  · exact List.mem_filter.1 h
  · simp at h
theorem pathX_sorted {l : List EntM} (h : SortedE l) (p : PrefixM) : SortedE (pathX l p) := by
  unfold pathX
  split
  · exact h.sublist List.filter_sublist
  · exact List.Pairwise.nil
theorem pathX_len (l : List EntM) (p : PrefixM) : (pathX l p).length ≤ l.length := by
  unfold pathX
  split
  · exact List.length_filter_le _ _
  · simp
/-- The last one is the longest. -/
theorem pathX_last {l : List EntM} (h : SortedE l) (hok : ∀ x ∈ l, okP x.p) {p : PrefixM} (hp : p.wf) {z : EntM} (hz : (pathX l p).getLast? = some z) : z ∈ pathX l p ∧ ∀ y ∈ pathX l p, y.p.len ≤ z.p.len ∧ (y.p.len = z.p.len → y = z) := by
  obtain ⟨ys, e⟩ := List.getLast?_eq_some_iff.1 hz
  have hzm : z ∈ pathX l p := by rw [e]; simp
  refine ⟨hzm, fun y hy => ?_⟩
  have hs := pathX_sorted h p
  have hn : p = normP p := by
    unfold pathX at hy
    split at hy
    · assumption
    · simp at hy
  have hpo : okP p := ⟨hn, hp⟩
  have hcz := (covB_iff (hok _ (pathX_mem hzm).1) hpo).1 (pathX_mem hzm).2
  have hcy := (covB_iff (hok _ (pathX_mem hy).1) hpo).1 (pathX_mem hy).2
  have hoy := hok _ (pathX_mem hy).1
  have hoz := hok _ (pathX_mem hzm).1
  rw [e] at hs hy
  unfold SortedE at hs
  rw [List.pairwise_append] at hs
  rcases List.mem_append.1 hy with h1 | h1
  · have hb : befE y z := hs.2.2 y h1 z (by simp)
    have hlt : y.p.len < z.p.len := by
      rcases Int.lt_or_le y.p.len z.p.len with h2 | h2
      · exact h2
      · exfalso
        -- z covers what y is: then z stands ahead
        have hzy : cov z.p y.p := by
          rcases nest hoz hoy h2 with k | k | k
          · exact k
          · have := cov_sub hoy hpo hcy; have := cov_sub hoz hpo hcz; have := szP_pos p; omega
          · have := cov_sub hoy hpo hcy; have := cov_sub hoz hpo hcz; have := szP_pos p; omega
        unfold befE befP at hb
        have := hzy.2.1
        rcases hb with hb | hb <;> omega
    exact ⟨Int.le_of_lt hlt, fun e => by omega⟩
  · simp only [List.mem_singleton] at h1
    subst h1
    exact ⟨Int.le_refl _, fun _ => rfl⟩
theorem getE_last {l : List EntM} (h : SortedE l) (hok : ∀ x ∈ l, okP x.p) {p : PrefixM} (hp : p.wf) : getE l p = match (pathX l p).getLast? with | some x => if x.p = p then some x else none | none => none := by
  cases hl : (pathX l p).getLast? with
  | none =>
    have e : pathX l p = [] := by simpa using hl
    simp only
    rw [getE_none]
    rintro x hx rfl
    have ho := hok x hx
    have : x ∈ pathX l x.p := by unfold pathX; rw [if_pos ho.1]; exact List.mem_filter.2 ⟨hx, (covB_iff ho ho).2 (cov_refl _)⟩
    rw [e] at this; simp at this
  | some z =>
    obtain ⟨hz, hmax⟩ := pathX_last h hok hp hl
    simp only
    by_cases hzp : z.p = p
    · rw [if_pos hzp, getE_some h]
      exact ⟨(pathX_mem hz).1, hzp⟩
    · rw [if_neg hzp, getE_none]
      rintro x hx rfl
      have ho := hok x hx
      have hm : x ∈ pathX l x.p := by unfold pathX; rw [if_pos ho.1]; exact List.mem_filter.2 ⟨hx, (covB_iff ho ho).2 (cov_refl _)⟩
      have h1 := hmax x hm
      have hzo := hok z (pathX_mem hz).1
      have hc := (covB_iff hzo ho).1 (pathX_mem hz).2
      have := cov_same hzo ho hc (by have := hc.1; omega)
      exact hzp this

/-! ### The longest one -/
def addrP (a : Nat) : PrefixM := ⟨a, 32⟩
theorem addrP_ok {a : Nat} (ha : a < 4294967296) : okP (addrP a) := by
  refine ok_mk (k := a) (by decide) (by decide) ha ?_
  rw [show heldN 32 = 32 from by decide]
  simp
theorem covB_addr {q : PrefixM} (hq : okP q) {a : Nat} (ha : a < 4294967296) : covB q (addrP a) = hasB q.addr q.len a := by
  unfold covB addrP
  have := hq.bd
  rw [hq.held, show heldI 32 = 32 from by decide, decide_eq_true (by omega)]
  simp
def longE (l : List EntM) (a : Nat) : Option EntM := (pathX l (addrP a)).getLast?
structure LongIs (l : List EntM) (a : Nat) (o : Option EntM) : Prop where
  some_ : ∀ x, o = some x → x ∈ l ∧ hasB x.p.addr x.p.len a = true ∧ ∀ y ∈ l, hasB y.p.addr y.p.len a = true → y.p.len ≤ x.p.len
  none_ : o = none → ∀ y ∈ l, hasB y.p.addr y.p.len a = false
theorem longE_is {l : List EntM} (h : SortedE l) (hok : ∀ x ∈ l, okP x.p) {a : Nat} (ha : a < 4294967296) : LongIs l a (longE l a) := by
  have hpo := addrP_ok ha
  have hm : ∀ y, y ∈ pathX l (addrP a) ↔ y ∈ l ∧ hasB y.p.addr y.p.len a = true := fun y => by
    unfold pathX
    rw [if_pos hpo.1, List.mem_filter]
    constructor
    · rintro ⟨h1, h2⟩; exact ⟨h1, by rw [← covB_addr (hok y h1) ha]; exact h2⟩
    · rintro ⟨h1, h2⟩; exact ⟨h1, by rw [covB_addr (hok y h1) ha]; exact h2⟩
  refine ⟨fun x hx => ?_, fun hx y hy => ?_⟩
  · obtain ⟨h1, h2⟩ := pathX_last h hok hpo.2 hx
    exact ⟨((hm x).1 h1).1, ((hm x).1 h1).2, fun y hy hb => (h2 y ((hm y).2 ⟨hy, hb⟩)).1⟩
  · have e : pathX l (addrP a) = [] := by unfold longE at hx; simpa using hx
    cases hb : hasB y.p.addr y.p.len a with
    | false => rfl
    | true => have := (hm y).2 ⟨hy, hb⟩; rw [e] at this; simp at this
theorem LongIs.uniq {l : List EntM} (h : SortedE l) (hok : ∀ x ∈ l, okP x.p) {a : Nat} {o o' : Option EntM} (h1 : LongIs l a o) (h2 : LongIs l a o') : o = o' := by
  cases o with
  | none =>
    cases o' with
    | none => rfl
    | some y => obtain ⟨a1, a2, _⟩ := h2.some_ y rfl; have := h1.none_ rfl y a1; rw [a2] at this; cases this
  | some x =>
    obtain ⟨a1, a2, a3⟩ := h1.some_ x rfl
    cases o' with
    | none => have := h2.none_ rfl x a1; rw [a2] at this; cases this
    | some y =>
      obtain ⟨b1, b2, b3⟩ := h2.some_ y rfl
      have hl : x.p.len = y.p.len := by have := a3 y b1 b2; have := b3 x a1 a2; omega
      have hx := (hasB_iff (hok x a1) a).1 a2
      have hy := (hasB_iff (hok y b1) a).1 b2
      have hp : x.p = y.p := by
        rcases nest (hok x a1) (hok y b1) (Int.le_of_eq hl) with k | k | k
        · exact cov_same (hok x a1) (hok y b1) k hl
        · unfold inP at *; omega
        · unfold inP at *; omega
      rw [h.uniq a1 b1 hp]
end Go.Proofs.Ytgjabgneapdbiaa

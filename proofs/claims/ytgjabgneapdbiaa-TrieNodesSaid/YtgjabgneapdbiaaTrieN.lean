/- The document's count of nodes is the tree's. No program in sight. -/
import Derived.Test.YtgjabgneapdbiaaTrieC
namespace Go.Proofs.Ytgjabgneapdbiaa
set_option linter.unusedSimpArgs false
set_option linter.unusedVariables false

/-- Does a fork stand between two neighbours? -/
def pairB (S : List PrefixM) (a b : PrefixM) : Bool :=
  if b.len ≤ (lzN a.addr b.addr : Nat) ∨ covB a b = true then false
  else !(decide (normP ⟨b.addr, (lzN a.addr b.addr : Nat)⟩ ∈ S)) && (S.any (fun x => covB (kidP (normP ⟨b.addr, (lzN a.addr b.addr : Nat)⟩) 0) x) && S.any (fun x => covB (kidP (normP ⟨b.addr, (lzN a.addr b.addr : Nat)⟩) 1) x))
def pairsN (S : List PrefixM) : List PrefixM → Nat
  | a :: b :: l => (if pairB S a b then 1 else 0) + pairsN S (b :: l)
  | _ => 0
def nodesN (S : List PrefixM) : Nat := S.length + pairsN S S
def T.ps (t : T) : List PrefixM := t.ents.map (·.p)

theorem pairs_app (S : List PrefixM) : ∀ (xs : List PrefixM) (a b : PrefixM) (ys : List PrefixM), pairsN S ((xs ++ [a]) ++ b :: ys) = pairsN S (xs ++ [a]) + ((if pairB S a b then 1 else 0) + pairsN S (b :: ys))
  | [], a, b, ys => by simp [pairsN]
  | [x], a, b, ys => by simp [pairsN]
  | x :: y :: xs, a, b, ys => by
    have ih := pairs_app S (y :: xs) a b ys
    simp only [List.cons_append, pairsN] at ih ⊢
    omega
theorem pairs_nil_right (S : List PrefixM) (xs : List PrefixM) : pairsN S (xs ++ []) = pairsN S xs := by rw [List.append_nil]
/-- Two parts and what stands between them. -/
theorem pairs_two {S xs ys : List PrefixM} {c : Nat} (hx : xs ≠ []) (hy : ys ≠ []) (h : ∀ a b, a ∈ xs → b ∈ ys → (if pairB S a b then 1 else 0) = c) : pairsN S (xs ++ ys) = pairsN S xs + c + pairsN S ys := by
  obtain ⟨b, ys', rfl⟩ := List.exists_cons_of_ne_nil hy
  have e := List.dropLast_concat_getLast hx
  rw [← e, pairs_app, h _ _ (List.getLast_mem hx) (by simp)]
  omega
theorem pairs_cons {S ys : List PrefixM} {a : PrefixM} (h : ∀ b, b ∈ ys → pairB S a b = false) : pairsN S (a :: ys) = pairsN S ys := by
  cases ys with
  | nil => rfl
  | cons b ys => rw [pairsN, h b (by simp)]; simp

theorem pair_cov {S : List PrefixM} {a b : PrefixM} (ha : okP a) (hb : okP b) (h : cov a b) : pairB S a b = false := by
  unfold pairB
  rw [if_pos (.inr ((covB_iff ha hb).2 h))]
/-- Of addresses in two halves of a prefix the shared bits are that prefix's. -/
theorem lz_halves {f a b : PrefixM} (hf : okP f) (hl : f.len < 32) (ha : okP a) (hb : okP b) (h0 : cov (kidP f 0) a) (h1 : cov (kidP f 1) b) : lzN a.addr b.addr = heldN f.len := by
  have e0 := kid_half hf hl (by decide) h0
  have e1 := kid_half hf hl (by decide) h1
  have c0 := cov_trans hf (kid_ok hf hl (k := 0) (by decide)) (kid_cov hf hl (by decide)) h0
  have c1 := cov_trans hf (kid_ok hf hl (k := 1) (by decide)) (kid_cov hf hl (by decide)) h1
  have h32 := (lt32 hf).2 hl
  have up : heldN f.len ≤ lzN a.addr b.addr := by
    rw [lzN_iff ha.lt hb.lt (by omega)]
    have d0 := (cutP_in hf (n := heldN f.len) (by omega) ha.lt).1 (by rw [cutP_of_cov hf hf (cov_refl f)]; exact c0.2)
    have d1 := (cutP_in hf (n := heldN f.len) (by omega) hb.lt).1 (by rw [cutP_of_cov hf hf (cov_refl f)]; exact c1.2)
    rw [← d0, ← d1]
  rcases Nat.lt_or_ge (heldN f.len) (lzN a.addr b.addr) with h | h
  · exfalso
    have := (lzN_iff ha.lt hb.lt (n := heldN f.len + 1) (by omega)).1 h
    unfold halfB at e0 e1
    rw [show 32 - (heldN f.len + 1) = 31 - heldN f.len by omega] at this
    rw [this] at e0
    omega
  · omega
theorem pair_fork {S : List PrefixM} {f a b : PrefixM} (hf : okP f) (ha : okP a) (hb : okP b) (h0 : cov (kidP f 0) a) (h1 : cov (kidP f 1) b) (haS : a ∈ S) (hbS : b ∈ S) : pairB S a b = !(decide (f ∈ S)) := by
  have hl := kid_lt ha h0
  have hz := lz_halves hf hl ha hb h0 h1
  have e0 := kid_half hf hl (by decide) h0
  have e1 := kid_half hf hl (by decide) h1
  have k0 := kid_ok hf hl (k := 0) (by decide)
  have k1 := kid_ok hf hl (k := 1) (by decide)
  have c1 := cov_trans hf k1 (kid_cov hf hl (by decide)) h1
  have hfb : normP ⟨b.addr, (lzN a.addr b.addr : Nat)⟩ = f := by rw [hz]; exact cutP_of_cov hf hb c1
  unfold pairB
  rw [hfb]
  have hcov : covB a b = false := by
    cases h : covB a b with
    | false => rfl
    | true =>
      exfalso
      have hab := (covB_iff ha hb).1 h
      have := kid_half hf hl (by decide) (cov_trans k0 ha h0 hab)
      omega
  have hlen : ¬ b.len ≤ ((lzN a.addr b.addr : Nat) : Int) := by
    have h2 : f.len + 1 ≤ b.len := h1.1
    rw [hz, hf.cast]; omega
  rw [if_neg (by rw [hcov]; simp; omega)]
  have s0 : S.any (fun x => covB (kidP f 0) x) = true := List.any_eq_true.2 ⟨a, haS, (covB_iff k0 ha).2 h0⟩
  have s1 : S.any (fun x => covB (kidP f 1) x) = true := List.any_eq_true.2 ⟨b, hbS, (covB_iff k1 hb).2 h1⟩
  rw [s0, s1]; simp

theorem ps_app (l r : T) (p : PrefixM) (v : Int) (th : Bool) (i : Nat) : (T.node i p v th l r).ps = (if th then [p] else []) ++ (l.ps ++ r.ps) := by
  unfold T.ps
  simp only [T.ents, List.map_append]
  cases th <;> simp
theorem mem_ps {t : T} {x : PrefixM} (h : x ∈ t.ps) : x ∈ t.pfxs := by
  obtain ⟨e, he, rfl⟩ := List.mem_map.1 h
  exact ents_pfxs he
theorem ps_ne {t : T} (h : Good t) (hn : t.isNil = false) : t.ps ≠ [] := by
  have := good_ne h hn
  unfold T.ps
  simpa using this
/-- Within a region all of whose prefixes are the tree's. -/
theorem forks_pairs {S : List PrefixM} : ∀ {t : T}, Good t → (∀ x ∈ t.ps, x ∈ S) → (∀ x ∈ S, okP x) → (∀ h, (∀ x ∈ t.pfxs, cov h x) → okP h → (∀ x ∈ S, cov h x → x ∈ t.ps) → pairsN S t.ps = t.forks)
  | .nil, _, _, _ => fun _ _ _ _ => rfl
  | .node i p v th l r, hg, hS, hok => fun h hh hho hall => by
    have hkk := good_kid hg
    have hpok := good_ok hg
    obtain ⟨hp, h2, h3, h4, h5, h6⟩ := hg
    have hhp : cov h p := hh p (by simp [T.pfxs])
    rw [ps_app] at hS
    simp only [List.mem_append] at hS
    have okl : ∀ x ∈ l.ps, okP x := fun x hx => good_ok h5 x (mem_ps hx)
    have okr : ∀ x ∈ r.ps, okP x := fun x hx => good_ok h6 x (mem_ps hx)
    have allmem : ∀ x ∈ S, cov p x → (th = true ∧ x = p) ∨ x ∈ l.ps ∨ x ∈ r.ps := fun x hx hc => by
      have := hall x hx (cov_trans hho hp hhp hc)
      rw [ps_app] at this
      simp only [List.mem_append] at this
      rcases this with h | h
      · split at h
        · rename_i hth; exact .inl ⟨hth, by simpa using h⟩
        · simp at h
      · exact .inr h
    have pS : p ∈ S ↔ th = true := by
      constructor
      · intro hpS
        rcases allmem p hpS (cov_refl p) with h | h | h
        · exact h.1
        · have := (hkk.1 _ (mem_ps h)).2.2; omega
        · have := (hkk.2 _ (mem_ps h)).2.2; omega
      · intro hth; exact hS p (.inl (by simp [hth]))
    have il : pairsN S l.ps = l.forks := by
      cases hl : l.isNil with
      | true => rw [nil_of hl]; rfl
      | false =>
        obtain ⟨x0, hx0⟩ := List.exists_mem_of_ne_nil _ (ps_ne h5 hl)
        have h32 := kid_lt (okl _ hx0) (hkk.1 _ (mem_ps hx0)).1
        refine forks_pairs h5 (fun x hx => hS x (.inr (.inl hx))) hok (kidP p 0) (fun x hx => (hkk.1 x hx).1) (kid_ok hp h32 (by decide)) (fun x hx hc => ?_)
        have hcp := cov_trans hp (kid_ok hp h32 (by decide)) (kid_cov hp h32 (by decide)) hc
        rcases allmem x hx hcp with ⟨_, rfl⟩ | h | h
        · have h1 : x.len + 1 ≤ x.len := hc.1
          omega
        · exact h
        · have a1 := kid_half hp h32 (by decide) hc
          have a2 := kid_half hp h32 (by decide) (hkk.2 _ (mem_ps h)).1
          omega
    have ir : pairsN S r.ps = r.forks := by
      cases hr : r.isNil with
      | true => rw [nil_of hr]; rfl
      | false =>
        obtain ⟨x0, hx0⟩ := List.exists_mem_of_ne_nil _ (ps_ne h6 hr)
        have h32 := kid_lt (okr _ hx0) (hkk.2 _ (mem_ps hx0)).1
        refine forks_pairs h6 (fun x hx => hS x (.inr (.inr hx))) hok (kidP p 1) (fun x hx => (hkk.2 x hx).1) (kid_ok hp h32 (by decide)) (fun x hx hc => ?_)
        have hcp := cov_trans hp (kid_ok hp h32 (by decide)) (kid_cov hp h32 (by decide)) hc
        rcases allmem x hx hcp with ⟨_, rfl⟩ | h | h
        · have h1 : x.len + 1 ≤ x.len := hc.1
          omega
        · have a1 := kid_half hp h32 (by decide) hc
          have a2 := kid_half hp h32 (by decide) (hkk.1 _ (mem_ps h)).1
          omega
        · exact h
    have ilr : pairsN S (l.ps ++ r.ps) = l.forks + (if l.isNil = false ∧ r.isNil = false then (if th then 0 else 1) else 0) + r.forks := by
      cases hl : l.isNil with
      | true => have := nil_of hl; subst this; simp [T.ps, T.ents, T.forks] at ir ⊢; exact ir
      | false =>
        cases hr : r.isNil with
        | true => have := nil_of hr; subst this; simp [T.ps, T.ents, T.forks] at il ⊢; exact il
        | false =>
          rw [pairs_two (c := if th then 0 else 1) (ps_ne h5 hl) (ps_ne h6 hr) (fun a b ha hb => by
            rw [pair_fork hp (okl a ha) (okr b hb) (hkk.1 _ (mem_ps ha)).1 (hkk.2 _ (mem_ps hb)).1 (hS a (.inr (.inl ha))) (hS b (.inr (.inr hb)))]
            cases th with
            | true => simp [pS.2 rfl]
            | false => have : ¬ p ∈ S := fun h => by have := pS.1 h; simp at this
                       simp [this]), il, ir]
          simp
    rw [ps_app]
    simp only [T.forks]
    cases th with
    | true =>
      simp only [if_true, List.singleton_append]
      rw [pairs_cons (fun b hb => by
        rcases List.mem_append.1 hb with hb | hb
        · exact pair_cov hp (okl b hb) (hkk.1 _ (mem_ps hb)).2.1
        · exact pair_cov hp (okr b hb) (hkk.2 _ (mem_ps hb)).2.1), ilr]
      simp
    | false =>
      obtain ⟨a, b⟩ := h2 rfl
      simp only [Bool.false_eq_true, if_false, List.nil_append]
      rw [ilr, a, b]
      simp; omega
theorem nodes_eq {t : T} (h : Good t) : t.ids.length = nodesN t.ps := by
  have h0 : okP (⟨0, 0⟩ : PrefixM) := by decide
  have hz : ∀ x : PrefixM, okP x → cov ⟨0, 0⟩ x := fun x hx => ⟨hx.bd.1, Nat.zero_le _, by
    have h1 := hx.lt
    have h2 : szP ⟨0, 0⟩ = 4294967296 := by decide
    show x.addr < 0 + szP ⟨0, 0⟩
    omega⟩
  have hf := forks_pairs (S := t.ps) h (fun _ h => h) (fun x hx => good_ok h x (mem_ps hx)) ⟨0, 0⟩ (fun x hx => hz x (good_ok h x hx)) h0 (fun x hx _ => hx)
  unfold nodesN
  rw [hf, ids_length]
  unfold T.ps
  rw [List.length_map]
end Go.Proofs.Ytgjabgneapdbiaa

/- The tree of chapter 9 in plain Lean: cut, path, and how many forks there are. No program in sight. -/
import Derived.Test.YtgjabgneapdbiaaTrieT
namespace Go.Proofs.Ytgjabgneapdbiaa
set_option linter.unusedSimpArgs false
set_option linter.unusedVariables false

/-! ### cut -/
structure CutR where
  t : T
  s : AlM
  was : Bool
def shrT (i : Nat) (p : PrefixM) (v : Int) (th : Bool) (l r : T) (s : AlM) (was : Bool) : CutR :=
  if th || (!l.isNil && !r.isNil) then ⟨.node i p v th l r, s, was⟩ else ⟨if l.isNil then r else l, ⟨s.n, s.free ++ [i]⟩, was⟩
def cutT : T → PrefixM → AlM → CutR
  | .nil, _, s => ⟨.nil, s, false⟩
  | .node i q w th l r, p, s =>
    if covB q p = false then ⟨.node i q w th l r, s, false⟩
    else if q = p then shrT i q w false l r s th
    else if halfB p.addr (heldN q.len) = 0 then shrT i q w th (cutT l p s).t r (cutT l p s).s (cutT l p s).was
    else shrT i q w th l (cutT r p s).t (cutT r p s).s (cutT r p s).was

theorem nil_of {t : T} (h : t.isNil = true) : t = .nil := by cases t <;> simp_all [T.isNil]
theorem shr_good {i : Nat} {p : PrefixM} {v : Int} {th : Bool} {l r : T} (s : AlM) (was : Bool) (hp : okP p) (h3 : UnderP (kidP p 0) l) (h4 : UnderP (kidP p 1) r) (h5 : Good l) (h6 : Good r) :
    Good (shrT i p v th l r s was).t ∧ (∀ x ∈ (shrT i p v th l r s was).t.pfxs, x ∈ (T.node i p v th l r).pfxs) ∧ (∀ x, x ∈ (shrT i p v th l r s was).t.ents ↔ x ∈ (T.node i p v th l r).ents) ∧ (shrT i p v th l r s was).t.ents.length = (T.node i p v th l r).ents.length := by
  unfold shrT
  cases hth : th with
  | true =>
    simp only [Bool.true_or, if_true]
    exact ⟨⟨hp, fun h => by simp at h, h3, h4, h5, h6⟩, fun _ h => h, fun _ => by simp, by simp⟩
  | false =>
    cases hl : l.isNil with
    | true =>
      have := nil_of hl
      subst this
      simp only [Bool.false_or, Bool.not_true, Bool.false_and, Bool.false_eq_true, if_false, if_true]
      exact ⟨h6, fun x hx => by simp [T.pfxs, hx], fun x => by simp [T.ents], by simp [T.ents]⟩
    | false =>
      cases hr : r.isNil with
      | true =>
        have := nil_of hr
        subst this
        simp only [Bool.false_or, Bool.not_true, Bool.and_false, Bool.false_eq_true, if_false]
        exact ⟨h5, fun x hx => by simp [T.pfxs, hx], fun x => by simp [T.ents], by simp [T.ents]⟩
      | false =>
        simp only [Bool.false_or, Bool.not_false, Bool.and_self, if_true]
        exact ⟨⟨hp, fun _ => ⟨hl, hr⟩, h3, h4, h5, h6⟩, fun _ h => h, fun _ => by simp, by simp⟩
theorem shr_was (i : Nat) (p : PrefixM) (v : Int) (th : Bool) (l r : T) (s : AlM) (was : Bool) : (shrT i p v th l r s was).was = was := by unfold shrT; split <;> rfl
theorem shr_s {i : Nat} {p : PrefixM} {v : Int} {th : Bool} {l r : T} (s : AlM) (was : Bool) : (shrT i p v th l r s was).s.n = s.n ∧ ((shrT i p v th l r s was).t.ids ++ (shrT i p v th l r s was).s.free).Perm ((T.node i p v th l r).ids ++ s.free) := by
  unfold shrT
  split
  · exact ⟨rfl, List.Perm.refl _⟩
  · rename_i h
    refine ⟨rfl, ?_⟩
    have hn : l.isNil = true ∨ r.isNil = true := by
      cases hl : l.isNil <;> cases hr : r.isNil <;> simp_all
    have e : ∀ X : List Nat, (X ++ (s.free ++ [i])).Perm (i :: X ++ s.free) := fun X => by
      rw [← List.append_assoc]
      exact (List.perm_append_singleton i (X ++ s.free))
    rcases hn with hn | hn
    · rw [if_pos hn]
      have := nil_of hn
      subst this
      simp only [T.ids, List.nil_append]
      exact e _
    · have := nil_of hn
      subst this
      cases hl : l.isNil with
      | true =>
        have := nil_of hl
        subst this
        simp only [if_true, T.ids, List.nil_append]
        exact e []
      | false =>
        simp only [Bool.false_eq_true, if_false, T.ids, List.append_nil]
        exact e _

theorem cut_good {p : PrefixM} (hp : okP p) : ∀ {t : T} (s : AlM), Good t → Good (cutT t p s).t ∧ (∀ x ∈ (cutT t p s).t.pfxs, x ∈ t.pfxs) ∧ (∀ x : EntM, x ∈ (cutT t p s).t.ents ↔ x ∈ t.ents ∧ x.p ≠ p) ∧ ((cutT t p s).was = true ↔ ∃ x ∈ t.ents, x.p = p) ∧
    (cutT t p s).t.ents.length + (if (cutT t p s).was then 1 else 0) = t.ents.length
  | .nil, s, h => by simp [cutT, T.ents, T.pfxs, Good]
  | .node i q w th l r, s, hg => by
    have hgl := hg
    have hkk := good_kid hg
    have hu := good_under hg
    obtain ⟨hq, h2, h3, h4, h5, h6⟩ := hg
    unfold cutT
    cases hc : covB q p with
    | false =>
      simp only [if_true]
      have hno : ∀ x : EntM, x ∈ (T.node i q w th l r).ents → x.p ≠ p := fun x hx e => by
        have := hu _ (ents_pfxs hx)
        rw [e, ← covB_iff hq hp, hc] at this
        simp at this
      refine ⟨hgl, fun _ h => h, fun x => ⟨fun h => ⟨h, hno x h⟩, fun h => h.1⟩, ?_, by simp⟩
      simp only [Bool.false_eq_true, false_iff]
      rintro ⟨x, hx, e⟩
      exact hno x hx e
    | true =>
      have hcv := (covB_iff hq hp).1 hc
      simp only [Bool.true_eq_false, if_false]
      by_cases hqp : q = p
      · rw [if_pos hqp]
        subst hqp
        obtain ⟨g1, g2, g3, g4⟩ := shr_good (i := i) (v := w) (th := false) s th hq h3 h4 h5 h6
        have n1 : ∀ x : EntM, x ∈ l.ents → x.p ≠ q := fun x hx e => by have := (hkk.1 _ (ents_pfxs hx)).2.2; rw [e] at this; omega
        have n2 : ∀ x : EntM, x ∈ r.ents → x.p ≠ q := fun x hx e => by have := (hkk.2 _ (ents_pfxs hx)).2.2; rw [e] at this; omega
        refine ⟨g1, fun x hx => by have := g2 x hx; simpa [T.pfxs] using this, fun x => ?_, ?_, ?_⟩
        · rw [g3]
          simp only [T.ents, Bool.false_eq_true, if_false, List.nil_append, List.mem_append]
          constructor
          · rintro (h | h)
            · exact ⟨.inr (.inl h), n1 x h⟩
            · exact ⟨.inr (.inr h), n2 x h⟩
          · rintro ⟨h | h | h, hne⟩
            · split at h
              · simp only [List.mem_singleton] at h; subst h; exact absurd rfl hne
              · simp at h
            · exact .inl h
            · exact .inr h
        · rw [shr_was]
          constructor
          · intro h; exact ⟨⟨q, w⟩, by simp [T.ents, h], rfl⟩
          · rintro ⟨x, hx, e⟩
            simp only [T.ents, List.mem_append] at hx
            rcases hx with h | h | h
            · split at h
              · assumption
              · simp at h
            · exact absurd e (n1 x h)
            · exact absurd e (n2 x h)
        · rw [shr_was, g4]
          simp only [T.ents, List.length_append, Bool.false_eq_true, if_false, List.length_nil]
          cases th <;> simp; omega
      · rw [if_neg hqp]
        have hl := cov_len hq hp hcv hqp
        have h32 : q.len < 32 := by have := hp.bd; omega
        have n0 : ∀ x : EntM, x ∈ (if th then [(⟨q, w⟩ : EntM)] else []) → x.p ≠ p := fun x hx e => by
          split at hx
          · simp only [List.mem_singleton] at hx; subst hx; exact hqp e
          · simp at hx
        by_cases c3 : halfB p.addr (heldN q.len) = 0
        · rw [if_pos c3]
          have n2 : ∀ x : EntM, x ∈ r.ents → x.p ≠ p := fun x hx e => by
            have := kid_half hq h32 (by decide) (hkk.2 _ (ents_pfxs hx)).1
            rw [e, c3] at this; simp at this
          obtain ⟨k1, k2, k3, k4, k5⟩ := cut_good hp s h5
          obtain ⟨g1, g2, g3, g4⟩ := shr_good (i := i) (v := w) (th := th) (cutT l p s).s (cutT l p s).was hq (fun x hx => h3 x (k2 x hx)) h4 k1 h6
          refine ⟨g1, fun x hx => ?_, fun x => ?_, ?_, ?_⟩
          · have := g2 x hx
            simp only [T.pfxs, List.mem_cons, List.mem_append] at this ⊢
            rcases this with h | h | h
            · exact .inl h
            · exact .inr (.inl (k2 x h))
            · exact .inr (.inr h)
          · rw [g3]
            simp only [T.ents, List.mem_append, k3]
            constructor
            · rintro (h | ⟨h, h'⟩ | h)
              · exact ⟨.inl h, n0 x h⟩
              · exact ⟨.inr (.inl h), h'⟩
              · exact ⟨.inr (.inr h), n2 x h⟩
            · rintro ⟨h | h | h, hne⟩
              · exact .inl h
              · exact .inr (.inl ⟨h, hne⟩)
              · exact .inr (.inr h)
          · rw [shr_was, k4]
            simp only [T.ents, List.mem_append]
            constructor
            · rintro ⟨x, hx, e⟩; exact ⟨x, .inr (.inl hx), e⟩
            · rintro ⟨x, h | h | h, e⟩
              · exact absurd e (n0 x h)
              · exact ⟨x, h, e⟩
              · exact absurd e (n2 x h)
          · rw [shr_was, g4]
            simp only [T.ents, List.length_append]
            omega
        · rw [if_neg c3]
          have n1 : ∀ x : EntM, x ∈ l.ents → x.p ≠ p := fun x hx e => by
            have := kid_half hq h32 (by decide) (hkk.1 _ (ents_pfxs hx)).1
            rw [e] at this; exact c3 this
          obtain ⟨k1, k2, k3, k4, k5⟩ := cut_good hp s h6
          obtain ⟨g1, g2, g3, g4⟩ := shr_good (i := i) (v := w) (th := th) (cutT r p s).s (cutT r p s).was hq h3 (fun x hx => h4 x (k2 x hx)) h5 k1
          refine ⟨g1, fun x hx => ?_, fun x => ?_, ?_, ?_⟩
          · have := g2 x hx
            simp only [T.pfxs, List.mem_cons, List.mem_append] at this ⊢
            rcases this with h | h | h
            · exact .inl h
            · exact .inr (.inl h)
            · exact .inr (.inr (k2 x h))
          · rw [g3]
            simp only [T.ents, List.mem_append, k3]
            constructor
            · rintro (h | h | ⟨h, h'⟩)
              · exact ⟨.inl h, n0 x h⟩
              · exact ⟨.inr (.inl h), n1 x h⟩
              · exact ⟨.inr (.inr h), h'⟩
            · rintro ⟨h | h | h, hne⟩
              · exact .inl h
              · exact .inr (.inl h)
              · exact .inr (.inr ⟨h, hne⟩)
          · rw [shr_was, k4]
            simp only [T.ents, List.mem_append]
            constructor
            · rintro ⟨x, hx, e⟩; exact ⟨x, .inr (.inr hx), e⟩
            · rintro ⟨x, h | h | h, e⟩
              · exact absurd e (n0 x h)
              · exact absurd e (n1 x h)
              · exact ⟨x, h, e⟩
          · rw [shr_was, g4]
            simp only [T.ents, List.length_append]
            omega
theorem cut_perm (p : PrefixM) : ∀ (t : T) (s : AlM), (cutT t p s).s.n = s.n ∧ ((cutT t p s).t.ids ++ (cutT t p s).s.free).Perm (t.ids ++ s.free)
  | .nil, s => by simp [cutT]
  | .node i q w th l r, s => by
    obtain ⟨a1, a2⟩ := cut_perm p l s
    obtain ⟨b1, b2⟩ := cut_perm p r s
    unfold cutT
    split
    · exact ⟨rfl, List.Perm.refl _⟩
    · split
      · have := shr_s (i := i) (p := q) (v := w) (th := false) (l := l) (r := r) s th
        exact ⟨this.1, this.2⟩
      · split
        · have := shr_s (i := i) (p := q) (v := w) (th := th) (l := (cutT l p s).t) (r := r) (cutT l p s).s (cutT l p s).was
          refine ⟨this.1.trans a1, this.2.trans ?_⟩
          simp only [T.ids, List.cons_append, List.append_assoc]
          refine List.Perm.cons _ ?_
          refine List.Perm.trans (List.perm_append_left_iff _ |>.2 List.perm_append_comm) ?_
          rw [← List.append_assoc]
          refine List.Perm.trans (a2.append_right _) ?_
          rw [List.append_assoc]
          exact List.perm_append_left_iff _ |>.2 List.perm_append_comm
        · have := shr_s (i := i) (p := q) (v := w) (th := th) (l := l) (r := (cutT r p s).t) (cutT r p s).s (cutT r p s).was
          refine ⟨this.1.trans b1, this.2.trans ?_⟩
          simp only [T.ids, List.cons_append, List.append_assoc]
          exact List.Perm.cons _ (b2.append_left _)

/-! ### path -/
def pathT : T → PrefixM → List EntM
  | .nil, _ => []
  | .node _ q w th l r, p =>
    if covB q p then (if th then [⟨q, w⟩] else []) ++ (if q.len = p.len then [] else if halfB p.addr (heldN q.len) = 0 then pathT l p else pathT r p) else []
theorem path_eq {p : PrefixM} (hp : okP p) : ∀ {t : T}, Good t → pathT t p = t.ents.filter (fun e => covB e.p p)
  | .nil, _ => rfl
  | .node i q w th l r, hg => by
    have hkk := good_kid hg
    have hu := good_under hg
    have hok := good_ok hg
    obtain ⟨hq, h2, h3, h4, h5, h6⟩ := hg
    have none_of : ∀ L : List EntM, (∀ x ∈ L, covB x.p p = false) → L.filter (fun e => covB e.p p) = [] := fun L h => by
      rw [List.filter_eq_nil_iff]
      intro x hx
      rw [h x hx]; simp
    unfold pathT
    cases hc : covB q p with
    | false =>
      rw [if_neg (by simp)]
      symm
      refine none_of _ (fun x hx => ?_)
      have h1 := hu _ (ents_pfxs hx)
      cases hx2 : covB x.p p with
      | false => rfl
      | true =>
        have := cov_trans hq (hok _ (ents_pfxs hx)) h1 ((covB_iff (hok _ (ents_pfxs hx)) hp).1 hx2)
        rw [← covB_iff hq hp, hc] at this
        simp at this
    | true =>
      rw [if_pos rfl]
      have hcv := (covB_iff hq hp).1 hc
      simp only [T.ents, List.filter_append]
      congr 1
      · split
        · simp [hc]
        · rfl
      · by_cases hle : q.len = p.len
        · rw [if_pos hle]
          have n1 : ∀ x ∈ l.ents, covB x.p p = false := fun x hx => by
            have h1 := (hkk.1 _ (ents_pfxs hx)).2.2
            cases hx2 : covB x.p p with
            | false => rfl
            | true => have := ((covB_iff (good_ok h5 _ (ents_pfxs hx)) hp).1 hx2).1; omega
          have n2 : ∀ x ∈ r.ents, covB x.p p = false := fun x hx => by
            have h1 := (hkk.2 _ (ents_pfxs hx)).2.2
            cases hx2 : covB x.p p with
            | false => rfl
            | true => have := ((covB_iff (good_ok h6 _ (ents_pfxs hx)) hp).1 hx2).1; omega
          rw [none_of _ n1, none_of _ n2]; rfl
        · rw [if_neg hle]
          have hl : q.len < p.len := by have := hcv.1; omega
          have h32 : q.len < 32 := by have := hp.bd; omega
          have side : ∀ {k : Nat} {x : PrefixM}, k ≤ 1 → okP x → cov (kidP q k) x → covB x p = true → halfB p.addr (heldN q.len) = k := fun hk hx h1 h2 =>
            kid_half hq h32 hk (cov_trans (kid_ok hq h32 hk) hx h1 ((covB_iff hx hp).1 h2))
          by_cases c3 : halfB p.addr (heldN q.len) = 0
          · rw [if_pos c3, path_eq hp h5]
            have n2 : ∀ x ∈ r.ents, covB x.p p = false := fun x hx => by
              cases hx2 : covB x.p p with
              | false => rfl
              | true => have := side (by decide) (good_ok h6 _ (ents_pfxs hx)) (hkk.2 _ (ents_pfxs hx)).1 hx2; omega
            rw [none_of _ n2, List.append_nil]
          · rw [if_neg c3, path_eq hp h6]
            have n1 : ∀ x ∈ l.ents, covB x.p p = false := fun x hx => by
              cases hx2 : covB x.p p with
              | false => rfl
              | true => have := side (by decide) (good_ok h5 _ (ents_pfxs hx)) (hkk.1 _ (ents_pfxs hx)).1 hx2; omega
            rw [none_of _ n1, List.nil_append]

/-! ### How many forks there are -/
theorem ids_length : ∀ {t : T}, t.ids.length = t.ents.length + t.forks
  | .nil => rfl
  | .node _ p v th l r => by
    have h1 := ids_length (t := l)
    have h2 := ids_length (t := r)
    simp only [T.ids, T.ents, T.forks, List.length_cons, List.length_append]
    cases th <;> simp <;> omega
theorem forks_lt : ∀ {t : T}, Good t → t.isNil = false → t.forks < t.ents.length
  | .nil, _, h => by simp [T.isNil] at h
  | .node _ p v th l r, h, _ => by
    obtain ⟨_, h2, _, _, h5, h6⟩ := h
    have k1 : l.isNil = true → l.forks = 0 := fun h => by rw [nil_of h]; rfl
    have k2 : r.isNil = true → r.forks = 0 := fun h => by rw [nil_of h]; rfl
    have i1 := forks_lt h5
    have i2 := forks_lt h6
    simp only [T.forks, T.ents, List.length_append]
    cases th with
    | true =>
      simp only [if_true, List.length_singleton]
      cases hl : l.isNil <;> cases hr : r.isNil <;> simp_all <;> omega
    | false =>
      obtain ⟨a, b⟩ := h2 rfl
      have := i1 a; have := i2 b
      simp; omega
end Go.Proofs.Ytgjabgneapdbiaa

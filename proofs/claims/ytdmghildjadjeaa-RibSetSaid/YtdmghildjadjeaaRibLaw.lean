/- Chapter 11 in plain lists: the program's Active and Best are the document's. -/
import Derived.Test.YtdmghildjadjeaaRibDocAct
namespace Go.Proofs.Ytdmghildjadjeaa
set_option linter.unusedSimpArgs false
set_option linter.unusedVariables false

theorem eq_of_pairwise {α : Type} {R : α → α → Prop} (hir : ∀ a, ¬ R a a) (has : ∀ a b, R a b → R b a → False) : ∀ {l1 l2 : List α}, l1.Pairwise R → l2.Pairwise R → (∀ x, x ∈ l1 ↔ x ∈ l2) → l1 = l2
  | [], [], _, _, _ => rfl
  | [], b :: l2, _, _, h => by have := (h b).2 (by simp); simp at this
  | a :: l1, [], _, _, h => by have := (h a).1 (by simp); simp at this
  | a :: l1, b :: l2, h1, h2, h => by
    rw [List.pairwise_cons] at h1 h2
    have hab : a = b := by
      rcases List.mem_cons.1 ((h a).1 (by simp)) with e | e
      · exact e
      · rcases List.mem_cons.1 ((h b).2 (by simp)) with e2 | e2
        · exact e2.symm
        · exact (has _ _ (h1.1 b e2) (h2.1 a e)).elim
    subst hab
    congr 1
    refine eq_of_pairwise hir has h1.2 h2.2 (fun x => ?_)
    constructor
    · intro hx
      rcases List.mem_cons.1 ((h x).1 (List.mem_cons_of_mem _ hx)) with e | e
      · subst e; exact (hir _ (h1.1 _ hx)).elim
      · exact e
    · intro hx
      rcases List.mem_cons.1 ((h x).2 (List.mem_cons_of_mem _ hx)) with e | e
      · subst e; exact (hir _ (h2.1 _ hx)).elim
      · exact e

def ltP (p q : PrefixM) : Prop := p.addr < q.addr ∨ (p.addr = q.addr ∧ p.len < q.len)
theorem ltP_irrefl (p : PrefixM) : ¬ ltP p p := by unfold ltP; omega
theorem ltP_trans {p q r : PrefixM} (h : ltP p q) (k : ltP q r) : ltP p r := by unfold ltP at *; omega
theorem ltP_ne {p q : PrefixM} (h : ltP p q) : p ≠ q := by rintro rfl; exact ltP_irrefl _ h
theorem pfx_of_ltR {a b : RouteM} (h : ltR a b) (ht : a.table = b.table) : ltP a.pfx b.pfx ∨ a.pfx = b.pfx := by
  obtain ⟨a1, ⟨a2, a3⟩, a4, a5, a6⟩ := a
  obtain ⟨b1, ⟨b2, b3⟩, b4, b5, b6⟩ := b
  simp only at ht
  unfold ltR at h
  unfold ltP
  simp only [PrefixM.mk.injEq] at *
  omega
theorem betR_irrefl (a : RouteM) : ¬ betR a a := by unfold betR; omega
theorem betR_trans {a b c : RouteM} (h : betR a b) (k : betR b c) : betR a c := by unfold betR at *; omega
theorem betR_tri {a b : RouteM} (h : ¬ betR a b) (k : ¬ betR b a) : a.metric = b.metric ∧ a.iface = b.iface ∧ a.gate = b.gate := by unfold betR at *; omega
theorem not_betR_trans {a b c : RouteM} (h : ¬ betR a b) (k : betR c b) : ¬ betR a c := by unfold betR at *; omega

section
variable {table : Int} {up : List Bool}
theorem fits_eq {p : PrefixM} {a b : RouteM} (ha : fitsR table p up a) (hb : fitsR table p up b) (h : ¬ betR a b) (k : ¬ betR b a) : a = b := by
  obtain ⟨h1, h2, h3⟩ := betR_tri h k
  obtain ⟨a1, a2, a4, a5, a6⟩ := a
  obtain ⟨b1, b2, b4, b5, b6⟩ := b
  obtain ⟨e1, e2, _⟩ := ha
  obtain ⟨f1, f2, _⟩ := hb
  simp only at *
  subst e1; subst e2; subst f1; subst f2; subst h1; subst h2; subst h3
  rfl
/-- What the best one is. -/
def BestIs (m : List RouteM) (table : Int) (p : PrefixM) (up : List Bool) (o : Option RouteM) : Prop :=
  (∀ x, o = some x → x ∈ m ∧ fitsR table p up x ∧ ∀ y ∈ m, fitsR table p up y → ¬ betR y x) ∧ (o = none → ∀ y ∈ m, ¬ fitsR table p up y)
theorem bestIs_step {m : List RouteM} {p : PrefixM} {o : Option RouteM} (h : BestIs m table p up o) (r : RouteM) : BestIs (m ++ [r]) table p up (stepO table p up o r) := by
  unfold stepO
  by_cases hf : fitsR table p up r
  · rw [if_pos hf]
    cases o with
    | none =>
      refine ⟨fun x hx => ?_, fun hx => by simp at hx⟩
      obtain rfl := Option.some.inj hx
      refine ⟨by simp, hf, fun y hy hfy => ?_⟩
      rcases List.mem_append.1 hy with hy | hy
      · exact absurd hfy (h.2 rfl y hy)
      · rw [List.mem_singleton.1 hy]; exact betR_irrefl _
    | some z =>
      obtain ⟨hz, hfz, hzb⟩ := h.1 z rfl
      simp only
      by_cases hb : betR r z
      · rw [if_pos hb]
        refine ⟨fun x hx => ?_, fun hx => by simp at hx⟩
        obtain rfl := Option.some.inj hx
        refine ⟨by simp, hf, fun y hy hfy => ?_⟩
        rcases List.mem_append.1 hy with hy | hy
        · exact not_betR_trans (hzb y hy hfy) hb
        · rw [List.mem_singleton.1 hy]; exact betR_irrefl _
      · rw [if_neg hb]
        refine ⟨fun x hx => ?_, fun hx => by simp at hx⟩
        obtain rfl := Option.some.inj hx
        refine ⟨List.mem_append_left _ hz, hfz, fun y hy hfy => ?_⟩
        rcases List.mem_append.1 hy with hy | hy
        · exact hzb y hy hfy
        · rw [List.mem_singleton.1 hy]; exact hb
  · rw [if_neg hf]
    refine ⟨fun x hx => ?_, fun hx y hy => ?_⟩
    · obtain ⟨h1, h2, h3⟩ := h.1 x hx
      refine ⟨List.mem_append_left _ h1, h2, fun y hy hfy => ?_⟩
      rcases List.mem_append.1 hy with hy | hy
      · exact h3 y hy hfy
      · rw [List.mem_singleton.1 hy] at hfy; exact absurd hfy hf
    · rcases List.mem_append.1 hy with hy | hy
      · exact h.2 hx y hy
      · rw [List.mem_singleton.1 hy]; exact hf
theorem take_snoc {l : List RouteM} {k : Nat} {r : RouteM} (h : l[k]? = some r) : l.take (k + 1) = l.take k ++ [r] := by rw [List.take_add_one, h]; rfl
theorem bestIs_take (l : List RouteM) (p : PrefixM) : ∀ k, k ≤ l.length → BestIs (l.take k) table p up (bestO (l.take k) table p up)
  | 0, _ => ⟨fun x hx => by simp [bestO] at hx, fun _ y hy => by simp at hy⟩
  | k + 1, hk => by
    have hx : l[k]? = some (l[k]'(by omega)) := List.getElem?_eq_getElem _
    rw [bestO_snoc l table p up k _ hx, take_snoc hx]
    exact bestIs_step (bestIs_take l p k (by omega)) _
theorem bestIs (l : List RouteM) (p : PrefixM) : BestIs l table p up (bestO l table p up) := by
  have := bestIs_take (table := table) (up := up) l p l.length (Nat.le_refl _)
  rwa [List.take_length] at this
theorem bestO_pfx {l : List RouteM} {p : PrefixM} {x : RouteM} (h : bestO l table p up = some x) : x ∈ l ∧ x.table = table ∧ x.pfx = p ∧ upB up x.iface = true := by
  obtain ⟨h1, ⟨h2, h3, h4⟩, _⟩ := (bestIs l p).1 x h
  exact ⟨h1, h2, h3, h4⟩

/-! ### The program's Active -/
structure ActIs (m acc : List RouteM) (table : Int) (up : List Bool) : Prop where
  asc : acc.Pairwise (fun a b => ltP a.pfx b.pfx)
  all : ∀ x, x ∈ acc ↔ bestO m table x.pfx up = some x
theorem stepO_other {p : PrefixM} {o : Option RouteM} {r : RouteM} (h : ¬ fitsR table p up r) : stepO table p up o r = o := by unfold stepO; rw [if_neg h]
theorem last_eq {acc : List RouteM} {y : RouteM} (h : acc[acc.length - 1]? = some y) : ∃ init, acc = init ++ [y] ∧ acc.length - 1 = init.length := by
  have hl := (List.getElem?_eq_some_iff.1 h).1
  refine ⟨acc.take (acc.length - 1), ?_, by rw [List.length_take]; omega⟩
  have h1 := take_snoc h
  rw [show acc.length - 1 + 1 = acc.length by omega, List.take_length] at h1
  exact h1
theorem actIs_step {l acc : List RouteM} {k : Nat} {r : RouteM} (hs : SortedR l) (hr : l[k]? = some r) (h : ActIs (l.take k) acc table up) : ActIs (l.take (k + 1)) (stepA table up acc r) table up := by
  have hb : ∀ p, bestO (l.take (k + 1)) table p up = stepO table p up (bestO (l.take k) table p up) r := fun p => bestO_snoc l table p up k r hr
  have hbefore : ∀ y ∈ l.take k, ltR y r := by
    intro y hy
    obtain ⟨j, hj⟩ := List.getElem?_of_mem hy
    rw [List.getElem?_take] at hj
    split at hj
    · rename_i hlt; exact hs.get hlt hj hr
    · simp at hj
  unfold stepA
  by_cases hc : r.table = table ∧ upB up r.iface = true
  · rw [if_pos hc]
    have hfit : fitsR table r.pfx up r := ⟨hc.1, rfl, hc.2⟩
    have hoth : ∀ p, p ≠ r.pfx → bestO (l.take (k + 1)) table p up = bestO (l.take k) table p up := fun p hp => by rw [hb, stepO_other]; exact fun hf => hp hf.2.1.symm
    cases hlast : acc[acc.length - 1]? with
    | none =>
      have hnil : acc = [] := by
        rw [List.getElem?_eq_none_iff] at hlast
        exact List.eq_nil_of_length_eq_zero (by omega)
      subst hnil
      have hno : ∀ p, bestO (l.take k) table p up = none := fun p => by
        cases hh : bestO (l.take k) table p up with
        | none => rfl
        | some x =>
          have hp := (bestO_pfx hh).2.2.1
          have := (h.all x).2 (by rw [hp]; exact hh)
          simp at this
      refine ⟨by simp, fun x => ?_⟩
      simp only [List.mem_singleton]
      constructor
      · rintro rfl
        rw [hb, hno]; unfold stepO; rw [if_pos hfit]
      · intro hx
        by_cases hp : x.pfx = r.pfx
        · rw [hb, hno, hp] at hx
          unfold stepO at hx; rw [if_pos hfit] at hx
          exact (Option.some.inj hx).symm
        · rw [hoth _ hp, hno] at hx; simp at hx
    | some y =>
      obtain ⟨init, rfl, hil⟩ := last_eq hlast
      have hy : bestO (l.take k) table y.pfx up = some y := (h.all y).1 (by simp)
      obtain ⟨hym, hyt, _, _⟩ := bestO_pfx hy
      have hpw := List.pairwise_append.1 h.asc
      have hinit : ∀ x ∈ init, ltP x.pfx y.pfx := fun x hx => hpw.2.2 x hx y (by simp)
      simp only
      by_cases hpp : y.pfx = r.pfx
      · rw [if_pos hpp]
        have hset : (init ++ [y]).set ((init ++ [y]).length - 1) r = init ++ [r] := by rw [hil, List.set_append_right _ _ (Nat.le_refl _), Nat.sub_self]; rfl
        rw [hset]
        by_cases hbr : betR r y
        · rw [if_pos hbr]
          have hbest : bestO (l.take (k + 1)) table r.pfx up = some r := by rw [hb, ← hpp, hy]; unfold stepO; rw [if_pos (hpp ▸ hfit)]; simp only; rw [if_pos hbr]
          refine ⟨?_, fun x => ?_⟩
          · rw [List.pairwise_append]
            refine ⟨hpw.1, by simp, fun a ha b hb => ?_⟩
            rw [List.mem_singleton.1 hb, ← hpp]; exact hinit a ha
          · simp only [List.mem_append, List.mem_singleton]
            constructor
            · rintro (hx | rfl)
              · rw [hoth _ (fun e => ltP_ne (hinit x hx) (e.trans hpp.symm))]
                exact (h.all x).1 (List.mem_append_left _ hx)
              · exact hbest
            · intro hx
              by_cases hp : x.pfx = r.pfx
              · right
                rw [hp, hbest] at hx
                exact (Option.some.inj hx).symm
              · rw [hoth _ hp] at hx
                rcases List.mem_append.1 ((h.all x).2 hx) with h1 | h1
                · exact .inl h1
                · exact absurd (List.mem_singleton.1 h1 ▸ hpp) hp
        · rw [if_neg hbr]
          have hbest : bestO (l.take (k + 1)) table r.pfx up = some y := by rw [hb, ← hpp, hy]; unfold stepO; rw [if_pos (hpp ▸ hfit)]; simp only; rw [if_neg hbr]
          refine ⟨h.asc, fun x => ?_⟩
          rw [h.all x]
          by_cases hp : x.pfx = r.pfx
          · rw [hp, hbest, ← hpp, hy]
          · rw [hoth _ hp]
      · rw [if_neg hpp]
        have hlt : ltP y.pfx r.pfx := by
          rcases pfx_of_ltR (hbefore y hym) (hyt.trans hc.1.symm) with h1 | h1
          · exact h1
          · exact absurd h1 hpp
        have hall : ∀ x ∈ init ++ [y], ltP x.pfx r.pfx := fun x hx => by
          rcases List.mem_append.1 hx with h1 | h1
          · exact ltP_trans (hinit x h1) hlt
          · rw [List.mem_singleton.1 h1]; exact hlt
        have hnone : bestO (l.take k) table r.pfx up = none := by
          cases hh : bestO (l.take k) table r.pfx up with
          | none => rfl
          | some x =>
            have hp := (bestO_pfx hh).2.2.1
            have := (h.all x).2 (by rw [hp]; exact hh)
            exact absurd hp (ltP_ne (hall x this))
        have hbest : bestO (l.take (k + 1)) table r.pfx up = some r := by rw [hb, hnone]; unfold stepO; rw [if_pos hfit]
        refine ⟨?_, fun x => ?_⟩
        · rw [List.pairwise_append]
          refine ⟨h.asc, by simp, fun a ha b hb => ?_⟩
          rw [List.mem_singleton.1 hb]; exact hall a ha
        · rw [List.mem_append, List.mem_singleton]
          constructor
          · rintro (hx | rfl)
            · rw [hoth _ (ltP_ne (hall x hx))]; exact (h.all x).1 hx
            · exact hbest
          · intro hx
            by_cases hp : x.pfx = r.pfx
            · right
              rw [hp, hbest] at hx
              exact (Option.some.inj hx).symm
            · rw [hoth _ hp] at hx
              exact .inl ((h.all x).2 hx)
  · rw [if_neg hc]
    refine ⟨h.asc, fun x => ?_⟩
    rw [h.all x, hb, stepO_other]
    exact fun hf => hc ⟨hf.1, hf.2.2⟩
theorem actIs_take {l : List RouteM} (hs : SortedR l) : ∀ k, k ≤ l.length → ActIs (l.take k) (activeL (l.take k) table up) table up
  | 0, _ => ⟨by simp [activeL], fun x => by simp [activeL, bestO]⟩
  | k + 1, hk => by
    have hx : l[k]? = some (l[k]'(by omega)) := List.getElem?_eq_getElem _
    rw [active_snoc l table up k _ hx]
    exact actIs_step hs hx (actIs_take hs k (by omega))
theorem actIs {l : List RouteM} (hs : SortedR l) : ActIs l (activeL l table up) table up := by
  have := actIs_take (table := table) (up := up) hs l.length (Nat.le_refl _)
  rwa [List.take_length] at this
theorem findP_active {l : List RouteM} (hs : SortedR l) (p : PrefixM) : findP (activeL l table up) p = bestO l table p up := by
  have hA := actIs (table := table) (up := up) hs
  cases hf : findP (activeL l table up) p with
  | some z =>
    have h1 := List.mem_of_find?_eq_some hf
    have h2 : z.pfx = p := by have := List.find?_some hf; simpa using this
    rw [← h2]
    exact ((hA.all z).1 h1).symm
  | none =>
    cases hb : bestO l table p up with
    | none => rfl
    | some x =>
      have hp := (bestO_pfx hb).2.2.1
      have := (hA.all x).2 (by rw [hp]; exact hb)
      unfold findP at hf
      rw [List.find?_eq_none] at hf
      have := hf x this
      simp [hp] at this

/-! ### The document's Active -/
structure RefIs (l acc : List RouteM) (table : Int) (up : List Bool) (k : Nat) : Prop where
  asc : acc.Pairwise (fun a b => ltP a.pfx b.pfx)
  best : ∀ x ∈ acc, bestO l table x.pfx up = some x
  from_ : ∀ x ∈ acc, ∃ j r, j < k ∧ l[j]? = some r ∧ r.table = table ∧ r.pfx = x.pfx
  all : ∀ j r x, j < k → l[j]? = some r → r.table = table → bestO l table r.pfx up = some x → x ∈ acc
theorem refIs_step {l acc : List RouteM} {k : Nat} {r : RouteM} (hs : SortedR l) (hr : l[k]? = some r) (h : RefIs l acc table up k) : RefIs l (if newP l table k r then acc ++ (bestO l table r.pfx up).toList else acc) table up (k + 1) := by
  by_cases hn : newP l table k r = true
  · rw [if_pos hn]
    unfold newP at hn
    simp only [Bool.and_eq_true, decide_eq_true_eq, Bool.not_eq_true'] at hn
    obtain ⟨ht, hprev⟩ := hn
    have hlt : ∀ j x, j < k → l[j]? = some x → x.table = table → ltP x.pfx r.pfx := by
      intro j x hj hx hxt
      have h1 := hs.get hj hx hr
      rcases pfx_of_ltR h1 (hxt.trans ht.symm) with h2 | h2
      · exact h2
      · exfalso
        obtain ⟨m, rfl⟩ : ∃ m, k = m + 1 := ⟨k - 1, by omega⟩
        have hml : m < l.length := by have := (List.getElem?_eq_some_iff.1 hr).1; omega
        have hz := List.getElem?_eq_getElem hml
        generalize l[m] = z at hz
        simp only [hz] at hprev
        have h3 := hs.get (Nat.lt_succ_self m) hz hr
        have hzz : z.table = table ∧ z.pfx = r.pfx := by
          by_cases hjm : j = m
          · subst hjm
            rw [hx] at hz
            obtain rfl := Option.some.inj hz
            exact ⟨hxt, h2⟩
          · have h4 := hs.get (show j < m by omega) hx hz
            obtain ⟨x1, ⟨x2, x3⟩, x4, x5, x6⟩ := x
            obtain ⟨z1, ⟨z2, z3⟩, z4, z5, z6⟩ := z
            obtain ⟨r1, ⟨r2, r3⟩, r4, r5, r6⟩ := r
            simp only [PrefixM.mk.injEq] at *
            unfold ltR at h3 h4
            simp only at h3 h4
            omega
        simp [hzz] at hprev
    have hnew : ∀ x ∈ acc, ltP x.pfx r.pfx := fun x hx => by
      obtain ⟨j, y, hj, hy, hyt, hyp⟩ := h.from_ x hx
      rw [← hyp]; exact hlt j y hj hy hyt
    cases hb : bestO l table r.pfx up with
    | none =>
      simp only [Option.toList_none, List.append_nil]
      refine ⟨h.asc, h.best, fun x hx => ?_, fun j y x hj hy hyt hbx => ?_⟩
      · obtain ⟨j, y, hj, h2⟩ := h.from_ x hx
        exact ⟨j, y, by omega, h2⟩
      · by_cases e : j = k
        · subst e
          rw [hr] at hy
          obtain rfl := Option.some.inj hy
          rw [hb] at hbx; simp at hbx
        · exact h.all j y x (by omega) hy hyt hbx
    | some z =>
      have hzp := (bestO_pfx hb).2.2.1
      simp only [Option.toList_some]
      refine ⟨?_, fun x hx => ?_, fun x hx => ?_, fun j y x hj hy hyt hbx => ?_⟩
      · rw [List.pairwise_append]
        refine ⟨h.asc, by simp, fun a ha b hb' => ?_⟩
        rw [List.mem_singleton.1 hb', hzp]; exact hnew a ha
      · rcases List.mem_append.1 hx with hx | hx
        · exact h.best x hx
        · rw [List.mem_singleton.1 hx, hzp]; exact hb
      · rcases List.mem_append.1 hx with hx | hx
        · obtain ⟨j, y, hj, h2⟩ := h.from_ x hx
          exact ⟨j, y, by omega, h2⟩
        · exact ⟨k, r, by omega, hr, ht, by rw [List.mem_singleton.1 hx, hzp]⟩
      · by_cases e : j = k
        · subst e
          rw [hr] at hy
          obtain rfl := Option.some.inj hy
          rw [hb] at hbx
          obtain rfl := Option.some.inj hbx
          simp
        · exact List.mem_append_left _ (h.all j y x (by omega) hy hyt hbx)
  · rw [if_neg hn]
    refine ⟨h.asc, h.best, fun x hx => ?_, fun j y x hj hy hyt hbx => ?_⟩
    · obtain ⟨j, y, hj, h2⟩ := h.from_ x hx
      exact ⟨j, y, by omega, h2⟩
    · by_cases e : j = k
      · subst e
        rw [hr] at hy
        obtain rfl := Option.some.inj hy
        unfold newP at hn
        simp only [hyt, decide_true, Bool.true_and] at hn
        cases j with
        | zero => simp at hn
        | succ m =>
          simp only at hn
          cases hz : l[m]? with
          | none => simp [hz] at hn
          | some z =>
            simp only [hz] at hn
            have hzz : z.table = table ∧ z.pfx = r.pfx := by simpa using hn
            exact h.all m z x (by omega) hz hzz.1 (by rw [hzz.2]; exact hbx)
      · exact h.all j y x (by omega) hy hyt hbx
theorem refIs {l : List RouteM} (hs : SortedR l) : ∀ k, k ≤ l.length → RefIs l (refAct l table up k) table up k
  | 0, _ => ⟨List.Pairwise.nil, fun x hx => by simp [refAct] at hx, fun x hx => by simp [refAct] at hx, fun j r x hj => by omega⟩
  | k + 1, hk => by
    have hx : l[k]? = some (l[k]'(by omega)) := List.getElem?_eq_getElem _
    rw [refAct_snoc l table up k _ hx]
    exact refIs_step hs hx (refIs hs k (by omega))
theorem active_ref {l : List RouteM} (hs : SortedR l) : activeL l table up = refAct l table up l.length := by
  have hA := actIs (table := table) (up := up) hs
  have hR := refIs (table := table) (up := up) hs l.length (Nat.le_refl _)
  refine eq_of_pairwise (R := fun a b : RouteM => ltP a.pfx b.pfx) (fun a => ltP_irrefl _) (fun a b h k => ltP_irrefl _ (ltP_trans h k)) hA.asc hR.asc (fun x => ?_)
  rw [hA.all x]
  constructor
  · intro hx
    obtain ⟨hm, ht, _, _⟩ := bestO_pfx hx
    obtain ⟨j, hj⟩ := List.getElem?_of_mem hm
    exact hR.all j x x (List.getElem?_eq_some_iff.1 hj).1 hj ht hx
  · exact hR.best x
end
end Go.Proofs.Ytdmghildjadjeaa

/- The tree of chapter 9 in plain Lean: what put and cut come to. No program in sight. -/
import Derived.Test.YtgjabgneapdbiaaTrieP
namespace Go.Proofs.Ytgjabgneapdbiaa
set_option linter.unusedSimpArgs false
set_option linter.unusedVariables false

structure EntM where
  p : PrefixM
  v : Int
  deriving Inhabited, DecidableEq

inductive T where
  | nil
  | node (i : Nat) (p : PrefixM) (v : Int) (th : Bool) (l r : T)
def T.id : T → Nat
  | .nil => 0
  | .node i _ _ _ _ _ => i
def T.isNil : T → Bool
  | .nil => true
  | .node .. => false
def T.ids : T → List Nat
  | .nil => []
  | .node i _ _ _ l r => i :: (l.ids ++ r.ids)
def T.pfxs : T → List PrefixM
  | .nil => []
  | .node _ p _ _ l r => p :: (l.pfxs ++ r.pfxs)
def T.ents : T → List EntM
  | .nil => []
  | .node _ p v th l r => (if th then [⟨p, v⟩] else []) ++ (l.ents ++ r.ents)
def T.forks : T → Nat
  | .nil => 0
  | .node _ _ _ th l r => (if th then 0 else 1) + (l.forks + r.forks)

def UnderP (h : PrefixM) (t : T) : Prop := ∀ q ∈ t.pfxs, cov h q
def Good : T → Prop
  | .nil => True
  | .node _ p _ th l r => okP p ∧ (th = false → l.isNil = false ∧ r.isNil = false) ∧ UnderP (kidP p 0) l ∧ UnderP (kidP p 1) r ∧ Good l ∧ Good r

theorem good_ok : ∀ {t : T}, Good t → ∀ x ∈ t.pfxs, okP x
  | .nil, _, x, hx => by simp [T.pfxs] at hx
  | .node _ p _ _ l r, h, x, hx => by
    obtain ⟨h1, _, _, _, h5, h6⟩ := h
    simp only [T.pfxs, List.mem_cons, List.mem_append] at hx
    rcases hx with rfl | hx | hx
    · exact h1
    · exact good_ok h5 x hx
    · exact good_ok h6 x hx
theorem kid_lt {p q : PrefixM} {k : Nat} (hq : okP q) (h : cov (kidP p k) q) : p.len < 32 := by
  have h1 : p.len + 1 ≤ q.len := h.1
  have := hq.bd
  omega
theorem good_kid {i : Nat} {p : PrefixM} {v : Int} {th : Bool} {l r : T} (h : Good (.node i p v th l r)) : (∀ x ∈ l.pfxs, cov (kidP p 0) x ∧ cov p x ∧ p.len < x.len) ∧ ∀ x ∈ r.pfxs, cov (kidP p 1) x ∧ cov p x ∧ p.len < x.len := by
  obtain ⟨h1, _, h3, h4, h5, h6⟩ := h
  constructor
  · intro x hx
    have hc := h3 x hx
    have hk := kid_lt (good_ok h5 x hx) hc
    exact ⟨hc, cov_trans h1 (kid_ok h1 hk (by decide)) (kid_cov h1 hk (by decide)) hc, by have h : p.len + 1 ≤ x.len := hc.1; omega⟩
  · intro x hx
    have hc := h4 x hx
    have hk := kid_lt (good_ok h6 x hx) hc
    exact ⟨hc, cov_trans h1 (kid_ok h1 hk (by decide)) (kid_cov h1 hk (by decide)) hc, by have h : p.len + 1 ≤ x.len := hc.1; omega⟩
theorem good_root {i : Nat} {p : PrefixM} {v : Int} {th : Bool} {l r : T} (h : Good (.node i p v th l r)) : ∀ x ∈ (T.node i p v th l r).pfxs, cov p x := by
  intro x hx
  simp only [T.pfxs, List.mem_cons, List.mem_append] at hx
  rcases hx with rfl | hx | hx
  · exact cov_refl _
  · exact ((good_kid h).1 x hx).2.1
  · exact ((good_kid h).2 x hx).2.1
theorem ents_pfxs : ∀ {t : T} {x : EntM}, x ∈ t.ents → x.p ∈ t.pfxs
  | .nil, x, h => by simp [T.ents] at h
  | .node _ p v th l r, x, h => by
    simp only [T.ents, List.mem_append] at h
    simp only [T.pfxs, List.mem_cons, List.mem_append]
    rcases h with h | h | h
    · split at h
      · simp only [List.mem_singleton] at h; subst h; exact .inl rfl
      · simp at h
    · exact .inr (.inl (ents_pfxs h))
    · exact .inr (.inr (ents_pfxs h))
theorem good_ne : ∀ {t : T}, Good t → t.isNil = false → t.ents ≠ []
  | .nil, _, h => by simp [T.isNil] at h
  | .node _ p v th l r, h, _ => by
    obtain ⟨_, h2, _, _, h5, _⟩ := h
    cases th with
    | true => simp [T.ents]
    | false =>
      have := good_ne h5 (h2 rfl).1
      simp [T.ents, this]

/-! ### Order -/
def befP (p q : PrefixM) : Prop := p.addr < q.addr ∨ (p.addr = q.addr ∧ p.len < q.len)
def befE (a b : EntM) : Prop := befP a.p b.p
theorem befP_irrefl (p : PrefixM) : ¬ befP p p := by unfold befP; omega
theorem befP_trans {p q r : PrefixM} (h : befP p q) (k : befP q r) : befP p r := by unfold befP at *; omega
theorem befP_asymm {p q : PrefixM} (h : befP p q) (k : befP q p) : False := befP_irrefl _ (befP_trans h k)
theorem befP_tri (p q : PrefixM) : befP p q ∨ p = q ∨ befP q p := by
  obtain ⟨a, l⟩ := p
  obtain ⟨b, m⟩ := q
  unfold befP
  simp only [PrefixM.mk.injEq]
  omega
theorem beforeB_iff (p q : PrefixM) : beforeB p q = true ↔ befP p q := by
  unfold beforeB befP
  split
  · rw [decide_eq_true_eq]; omega
  · rw [decide_eq_true_eq]; omega
theorem bef_cov {p q : PrefixM} (h : cov p q) (hl : p.len < q.len) : befP p q := by have := h.2.1; unfold befP; omega
theorem bef_halves {p x y : PrefixM} (hp : okP p) (hx : okP x) (h : cov (kidP p 0) x) (k : cov (kidP p 1) y) : befP x y := by
  have hl := kid_lt hx h
  have h1 := h.2.2
  have h2 := k.2.1
  rw [kid_sz hp hl] at h1
  unfold kidP at h1 h2
  simp only at h1 h2
  unfold befP
  omega
theorem good_sorted : ∀ {t : T}, Good t → t.ents.Pairwise befE
  | .nil, _ => by simp [T.ents]
  | .node _ p v th l r, h => by
    have hk := good_kid h
    obtain ⟨h1, h2, h3, h4, h5, h6⟩ := h
    have s1 := good_sorted h5
    have s2 := good_sorted h6
    simp only [T.ents]
    rw [List.pairwise_append, List.pairwise_append]
    refine ⟨by split <;> simp, ⟨s1, s2, fun a ha b hb => bef_halves h1 (good_ok h5 _ (ents_pfxs ha)) (hk.1 _ (ents_pfxs ha)).1 (hk.2 _ (ents_pfxs hb)).1⟩, ?_⟩
    intro a ha b hb
    split at ha
    · simp only [List.mem_singleton] at ha
      subst ha
      rcases List.mem_append.1 hb with hb | hb
      · exact bef_cov (hk.1 _ (ents_pfxs hb)).2.1 (hk.1 _ (ents_pfxs hb)).2.2
      · exact bef_cov (hk.2 _ (ents_pfxs hb)).2.1 (hk.2 _ (ents_pfxs hb)).2.2
    · simp at ha

/-! ### Numbers of nodes -/
structure AlM where
  n : Nat
  free : List Nat
def layA (s : AlM) : Nat := match s.free.getLast? with | some i => i | none => s.n
def layS (s : AlM) : AlM := match s.free.getLast? with | some _ => ⟨s.n, s.free.dropLast⟩ | none => ⟨s.n + 1, s.free⟩
theorem layS_n (s : AlM) : s.n ≤ (layS s).n ∧ (layS s).n ≤ s.n + 1 := by unfold layS; split <;> simp only <;> omega
def newIds (s s' : AlM) : List Nat := List.range' s.n (s'.n - s.n)
theorem newIds_self (s : AlM) (l : List Nat) : newIds s ⟨s.n, l⟩ = [] := by simp [newIds]
theorem newIds_add {a b c : AlM} (h : a.n ≤ b.n) (k : b.n ≤ c.n) : newIds a c = newIds a b ++ newIds b c := by
  unfold newIds
  have e := List.range'_append (s := a.n) (m := b.n - a.n) (n := c.n - b.n) (step := 1)
  rw [Nat.one_mul, show a.n + (b.n - a.n) = b.n by omega, show (b.n - a.n) + (c.n - b.n) = c.n - a.n by omega] at e
  exact e.symm
theorem lay_perm (s : AlM) : (layA s :: (layS s).free).Perm (s.free ++ newIds s (layS s)) := by
  unfold layA layS newIds
  cases h : s.free.getLast? with
  | some i =>
    simp only [Nat.sub_self, List.range'_zero, List.append_nil]
    obtain ⟨ys, e⟩ := List.getLast?_eq_some_iff.1 h
    rw [e, List.dropLast_concat]
    exact (List.perm_append_singleton i ys).symm
  | none =>
    have e : s.free = [] := by simpa using h
    rw [e]
    simp [show s.n + 1 - s.n = 1 by omega]

/-! ### put -/
structure PutR where
  t : T
  s : AlM
  new : Nat
def putT : T → PrefixM → Int → AlM → PutR
  | .nil, p, v, s => ⟨.node (layA s) p v true .nil .nil, layS s, 1⟩
  | .node i q w th l r, p, v, s =>
    if comN p q = heldN q.len then
      if comN p q = heldN p.len then ⟨.node i q v true l r, s, if th then 0 else 1⟩
      else if halfB p.addr (heldN q.len) = 0 then ⟨.node i q w th (putT l p v s).t r, (putT l p v s).s, (putT l p v s).new⟩
      else ⟨.node i q w th l (putT r p v s).t, (putT r p v s).s, (putT r p v s).new⟩
    else if comN p q = heldN p.len then
      ⟨if halfB q.addr (heldN p.len) = 0 then .node (layA s) p v true (.node i q w th l r) .nil else .node (layA s) p v true .nil (.node i q w th l r), layS s, 1⟩
    else
      ⟨if halfB q.addr (comN p q) = 0 then .node (layA (layS s)) (cutP p (comN p q)) 0 false (.node i q w th l r) (.node (layA s) p v true .nil .nil)
        else .node (layA (layS s)) (cutP p (comN p q)) 0 false (.node (layA s) p v true .nil .nil) (.node i q w th l r), layS (layS s), 1⟩

theorem put_some : ∀ (t : T) (p : PrefixM) (v : Int) (s : AlM), (putT t p v s).t.isNil = false
  | .nil, _, _, _ => rfl
  | .node _ q _ _ l r, p, _, _ => by
    unfold putT
    split
    · split
      · rfl
      · split <;> rfl
    · split
      · simp only; split <;> rfl
      · simp only; split <;> rfl
theorem put_pos {q p : PrefixM} (hp : okP p) (hq : okP q) (h1 : comN p q = heldN q.len) (h2 : ¬ comN p q = heldN p.len) : cov q p ∧ q.len < p.len := by
  have hc := (com_cov hp hq).1 h1
  refine ⟨hc, cov_len hq hp hc ?_⟩
  rintro rfl
  exact h2 h1
theorem put_up {q p : PrefixM} (hp : okP p) (hq : okP q) (h1 : ¬ comN p q = heldN q.len) (h2 : comN p q = heldN p.len) : cov p q ∧ p.len < q.len := by
  have hc := (com_cov hq hp).1 (by rw [com_comm]; exact h2)
  refine ⟨hc, cov_len hp hq hc ?_⟩
  rintro rfl
  exact h1 h2
theorem fork_facts {q p : PrefixM} (hp : okP p) (hq : okP q) (h1 : ¬ comN p q = heldN q.len) (h2 : ¬ comN p q = heldN p.len) :
    okP (cutP p (comN p q)) ∧ (cutP p (comN p q)).len < 32 ∧ heldN (cutP p (comN p q)).len = comN p q ∧ cov (cutP p (comN p q)) p ∧ cov (cutP p (comN p q)) q ∧ (cutP p (comN p q)).len < p.len ∧ (cutP p (comN p q)).len < q.len := by
  have hc := com_le (p := p) (q := q)
  have h32 := heldN_le p.len
  have hp2 := hp.cast; have hq2 := hq.cast
  refine ⟨cutP_ok hp (by omega), ?_, cutP_held (by omega), cutP_cov hp hc.1, cutP_cov2 hp hq (Nat.le_refl _), ?_, ?_⟩ <;> rw [cutP_len (by omega)] <;> omega

theorem under_up {h p : PrefixM} (hh : okP h) (hp : okP p) {t : T} (k : UnderP p t) (hc : cov h p) : UnderP h t := fun x hx => cov_trans hh hp hc (k x hx)
theorem good_under {i : Nat} {p : PrefixM} {v : Int} {th : Bool} {l r : T} (h : Good (.node i p v th l r)) : UnderP p (.node i p v th l r) := good_root h
theorem under_half {f q : PrefixM} {t : T} (hf : okP f) (hq : okP q) (hc : cov f q) (hl : f.len < q.len) (hu : UnderP q t) {k : Nat} (hk : k = halfB q.addr (heldN f.len)) : UnderP (kidP f k) t := by
  subst hk
  have h32 : f.len < 32 := by have := hq.bd; omega
  have hk := halfB_lt q.addr (heldN f.len)
  exact under_up (kid_ok hf h32 (by omega)) hq hu (cov_kid hf hq hc hl)
theorem under_leaf {f p : PrefixM} {i : Nat} {v : Int} {th : Bool} (h : cov f p) : UnderP f (.node i p v th .nil .nil) := by
  intro x hx
  simp only [T.pfxs, List.append_nil, List.mem_cons, List.not_mem_nil, or_false] at hx
  subst hx; exact h
theorem good_leaf {p : PrefixM} (hp : okP p) (i : Nat) (v : Int) : Good (.node i p v true .nil .nil) :=
  ⟨hp, fun h => by simp at h, fun x hx => by simp [T.pfxs] at hx, fun x hx => by simp [T.pfxs] at hx, trivial, trivial⟩
theorem under_nil (h : PrefixM) : UnderP h .nil := fun x hx => by simp [T.pfxs] at hx

theorem good_put {p : PrefixM} (hp : okP p) (v : Int) : ∀ {t : T} (s : AlM), Good t → Good (putT t p v s).t ∧ ∀ h, okP h → UnderP h t → cov h p → UnderP h (putT t p v s).t
  | .nil, s, _ => ⟨good_leaf hp _ _, fun h _ _ hc => under_leaf hc⟩
  | .node i q w th l r, s, hg => by
    have hgl := hg
    have hkk := good_kid hg
    obtain ⟨hq, h2, h3, h4, h5, h6⟩ := hg
    unfold putT
    by_cases c1 : comN p q = heldN q.len
    · rw [if_pos c1]
      by_cases c2 : comN p q = heldN p.len
      · rw [if_pos c2]
        exact ⟨⟨hq, fun h => by simp at h, h3, h4, h5, h6⟩, fun h _ hu _ => hu⟩
      · rw [if_neg c2]
        obtain ⟨hc, hl⟩ := put_pos hp hq c1 c2
        have h32 : q.len < 32 := by have := hp.bd; omega
        by_cases c3 : halfB p.addr (heldN q.len) = 0
        · rw [if_pos c3]
          obtain ⟨g1, g2⟩ := good_put hp v s h5
          refine ⟨⟨hq, fun h => ⟨put_some _ _ _ _, (h2 h).2⟩, ?_, h4, g1, h6⟩, fun h ho hu hcp => ?_⟩
          · refine g2 _ (kid_ok hq h32 (by decide)) h3 ?_
            have := cov_kid hq hp hc hl
            rwa [c3] at this
          · intro x hx
            simp only [T.pfxs, List.mem_cons, List.mem_append] at hx
            rcases hx with rfl | hx | hx
            · exact hu _ (by simp [T.pfxs])
            · exact g2 h ho (fun y hy => hu y (by simp [T.pfxs, hy])) hcp x hx
            · exact hu _ (by simp [T.pfxs, hx])
        · rw [if_neg c3]
          have c4 : halfB p.addr (heldN q.len) = 1 := by have := halfB_lt p.addr (heldN q.len); omega
          obtain ⟨g1, g2⟩ := good_put hp v s h6
          refine ⟨⟨hq, fun h => ⟨(h2 h).1, put_some _ _ _ _⟩, h3, ?_, h5, g1⟩, fun h ho hu hcp => ?_⟩
          · refine g2 _ (kid_ok hq h32 (by decide)) h4 ?_
            have := cov_kid hq hp hc hl
            rwa [c4] at this
          · intro x hx
            simp only [T.pfxs, List.mem_cons, List.mem_append] at hx
            rcases hx with rfl | hx | hx
            · exact hu _ (by simp [T.pfxs])
            · exact hu _ (by simp [T.pfxs, hx])
            · exact g2 h ho (fun y hy => hu y (by simp [T.pfxs, hy])) hcp x hx
    · rw [if_neg c1]
      by_cases c2 : comN p q = heldN p.len
      · rw [if_pos c2]
        obtain ⟨hc, hl⟩ := put_up hp hq c1 c2
        have hu := good_under hgl
        by_cases c3 : halfB q.addr (heldN p.len) = 0
        · rw [if_pos c3]
          refine ⟨⟨hp, fun h => by simp at h, under_half hp hq hc hl hu c3.symm, under_nil _, hgl, trivial⟩, fun h ho hu' hcp => ?_⟩
          intro x hx
          rw [T.pfxs] at hx
          rcases List.mem_cons.1 hx with rfl | hx
          · exact hcp
          · simp only [T.pfxs, List.append_nil] at hx; exact hu' x hx
        · rw [if_neg c3]
          have c4 : halfB q.addr (heldN p.len) = 1 := by have := halfB_lt q.addr (heldN p.len); omega
          refine ⟨⟨hp, fun h => by simp at h, under_nil _, under_half hp hq hc hl hu c4.symm, trivial, hgl⟩, fun h ho hu' hcp => ?_⟩
          intro x hx
          rw [T.pfxs] at hx
          rcases List.mem_cons.1 hx with rfl | hx
          · exact hcp
          · simp only [T.pfxs, List.nil_append] at hx; exact hu' x hx
      · rw [if_neg c2]
        obtain ⟨hf, hf32, hfh, hfp, hfq, hlp, hlq⟩ := fork_facts hp hq c1 c2
        have hu := good_under hgl
        have hne := com_fork hp hq c2 c1
        have hlA := halfB_lt q.addr (comN p q); have hlB := halfB_lt p.addr (comN p q)
        have hup : ∀ h, okP h → cov h q → cov h p → cov h (cutP p (comN p q)) := by
          intro h ho a b
          have e1 := (com_cov hp ho).2 b
          have e2 := (com_cov hq ho).2 a
          have hn : heldN h.len ≤ comN p q := by
            have hh := heldN_le h.len
            unfold comN at *
            have k1 : heldN h.len ≤ lzN p.addr q.addr := by
              rw [lzN_iff hp.lt hq.lt hh]
              have d1 := (lzN_iff hp.lt ho.lt hh).1 (by omega)
              have d2 := (lzN_iff hq.lt ho.lt hh).1 (by omega)
              rw [d1, d2]
            omega
          have hci := (cutP_in hp (n := heldN h.len) (heldN_le _) (a := (cutP p (comN p q)).addr) hf.lt).1
          refine ⟨?_, ?_⟩
          · have := ho.cast; have := hf.cast; omega
          · have h1 := cutP_of_cov ho hp b
            have h2 : cov (cutP p (heldN h.len)) (cutP p (comN p q)) := by
              rcases nest (p := cutP p (heldN h.len)) (q := cutP p (comN p q)) (by rw [h1]; exact ho) hf (by rw [h1]; have := ho.cast; have := hf.cast; omega) with k | k | k
              · exact k
              · exfalso; have := hfp.2; rw [h1] at k; have := b.2; unfold inP at *; omega
              · exfalso; have := hfp.2; rw [h1] at k; have := b.2; unfold inP at *; omega
            rw [h1] at h2; exact h2.2
        by_cases c3 : halfB q.addr (comN p q) = 0
        · rw [if_pos c3]
          refine ⟨⟨hf, fun _ => ⟨rfl, rfl⟩, under_half hf hq hfq hlq hu (by rw [hfh]; exact c3.symm), ?_, hgl, good_leaf hp _ _⟩, fun h ho hu' hcp => ?_⟩
          · have := cov_kid hf hp hfp hlp
            rw [hfh, show halfB p.addr (comN p q) = 1 by omega] at this
            exact under_leaf this
          · intro x hx
            rw [T.pfxs] at hx
            rcases List.mem_cons.1 hx with rfl | hx
            · exact hup h ho (hu' q (by simp [T.pfxs])) hcp
            · rcases List.mem_append.1 hx with hx | hx
              · exact hu' x hx
              · exact under_leaf (i := layA s) (v := v) (th := true) hcp x hx
        · rw [if_neg c3]
          refine ⟨⟨hf, fun _ => ⟨rfl, rfl⟩, ?_, under_half hf hq hfq hlq hu (by rw [hfh]; omega), good_leaf hp _ _, hgl⟩, fun h ho hu' hcp => ?_⟩
          · have := cov_kid hf hp hfp hlp
            rw [hfh, show halfB p.addr (comN p q) = 0 by omega] at this
            exact under_leaf this
          · intro x hx
            rw [T.pfxs] at hx
            rcases List.mem_cons.1 hx with rfl | hx
            · exact hup h ho (hu' q (by simp [T.pfxs])) hcp
            · rcases List.mem_append.1 hx with hx | hx
              · exact under_leaf (i := layA s) (v := v) (th := true) hcp x hx
              · exact hu' x hx

theorem not_below {p q : PrefixM} {t : T} (hu : UnderP q t) (hl : p.len < q.len) {x : EntM} (hx : x ∈ t.ents) : x.p ≠ p := by
  rintro rfl
  have h : q.len ≤ x.p.len := (hu _ (ents_pfxs hx)).1
  omega
theorem mem_put {p : PrefixM} (hp : okP p) (v : Int) : ∀ {t : T} (s : AlM), Good t → ∀ x : EntM, x ∈ (putT t p v s).t.ents ↔ x = ⟨p, v⟩ ∨ (x ∈ t.ents ∧ x.p ≠ p)
  | .nil, s, _, x => by simp [putT, T.ents]
  | .node i q w th l r, s, hg, x => by
    have hgl := hg
    have hkk := good_kid hg
    have hu := good_under hg
    obtain ⟨hq, h2, h3, h4, h5, h6⟩ := hg
    unfold putT
    by_cases c1 : comN p q = heldN q.len
    · rw [if_pos c1]
      by_cases c2 : comN p q = heldN p.len
      · rw [if_pos c2]
        have hpq : q = p := cov_antisymm hq hp ((com_cov hp hq).1 c1) ((com_cov hq hp).1 (by rw [com_comm]; exact c2))
        subst hpq
        have n1 : x ∈ l.ents → x.p ≠ q := fun hx e => by have := (hkk.1 _ (ents_pfxs hx)).2.2; rw [e] at this; omega
        have n2 : x ∈ r.ents → x.p ≠ q := fun hx e => by have := (hkk.2 _ (ents_pfxs hx)).2.2; rw [e] at this; omega
        simp only [T.ents, if_true, List.singleton_append, List.mem_cons, List.mem_append]
        constructor
        · rintro (h | h | h)
          · exact .inl h
          · exact .inr ⟨.inr (.inl h), n1 h⟩
          · exact .inr ⟨.inr (.inr h), n2 h⟩
        · rintro (h | ⟨h | h | h, hne⟩)
          · exact .inl h
          · split at h
            · simp only [List.mem_singleton] at h; subst h; exact absurd rfl hne
            · simp at h
          · exact .inr (.inl h)
          · exact .inr (.inr h)
      · rw [if_neg c2]
        obtain ⟨hc, hl⟩ := put_pos hp hq c1 c2
        have h32 : q.len < 32 := by have := hp.bd; omega
        have n0 : x ∈ (if th then [(⟨q, w⟩ : EntM)] else []) → x.p ≠ p := fun hx e => by
          split at hx
          · simp only [List.mem_singleton] at hx; subst hx; simp only at e; subst e; omega
          · simp at hx
        by_cases c3 : halfB p.addr (heldN q.len) = 0
        · rw [if_pos c3]
          have n2 : x ∈ r.ents → x.p ≠ p := fun hx e => by
            have := kid_half hq h32 (by decide) (hkk.2 _ (ents_pfxs hx)).1
            rw [e, c3] at this; simp at this
          have ih := mem_put hp v s h5 x
          simp only [T.ents, List.mem_append, ih]
          constructor
          · rintro (h | (h | ⟨h, h'⟩) | h)
            · exact .inr ⟨.inl h, n0 h⟩
            · exact .inl h
            · exact .inr ⟨.inr (.inl h), h'⟩
            · exact .inr ⟨.inr (.inr h), n2 h⟩
          · rintro (h | ⟨h | h | h, hne⟩)
            · exact .inr (.inl (.inl h))
            · exact .inl h
            · exact .inr (.inl (.inr ⟨h, hne⟩))
            · exact .inr (.inr h)
        · rw [if_neg c3]
          have n1 : x ∈ l.ents → x.p ≠ p := fun hx e => by
            have := kid_half hq h32 (by decide) (hkk.1 _ (ents_pfxs hx)).1
            rw [e] at this; exact c3 this
          have ih := mem_put hp v s h6 x
          simp only [T.ents, List.mem_append, ih]
          constructor
          · rintro (h | h | (h | ⟨h, h'⟩))
            · exact .inr ⟨.inl h, n0 h⟩
            · exact .inr ⟨.inr (.inl h), n1 h⟩
            · exact .inl h
            · exact .inr ⟨.inr (.inr h), h'⟩
          · rintro (h | ⟨h | h | h, hne⟩)
            · exact .inr (.inr (.inl h))
            · exact .inl h
            · exact .inr (.inl h)
            · exact .inr (.inr (.inr ⟨h, hne⟩))
    · rw [if_neg c1]
      by_cases c2 : comN p q = heldN p.len
      · rw [if_pos c2]
        obtain ⟨hc, hl⟩ := put_up hp hq c1 c2
        have n0 : x ∈ (T.node i q w th l r).ents → x.p ≠ p := fun hx => not_below hu hl hx
        have e : (if halfB q.addr (heldN p.len) = 0 then T.node (layA s) p v true (.node i q w th l r) .nil else .node (layA s) p v true .nil (.node i q w th l r)).ents = ⟨p, v⟩ :: (T.node i q w th l r).ents := by
          split <;> rw [T.ents] <;> simp [T.ents]
        simp only [e, List.mem_cons]
        constructor
        · rintro (h | h)
          · exact .inl h
          · exact .inr ⟨h, n0 h⟩
        · rintro (h | ⟨h, _⟩)
          · exact .inl h
          · exact .inr h
      · rw [if_neg c2]
        have n0 : x ∈ (T.node i q w th l r).ents → x.p ≠ p := fun hx e => by
          have := hu _ (ents_pfxs hx)
          rw [e] at this
          exact c1 ((com_cov hp hq).2 this)
        have e : x ∈ (if halfB q.addr (comN p q) = 0 then T.node (layA (layS s)) (cutP p (comN p q)) 0 false (.node i q w th l r) (.node (layA s) p v true .nil .nil)
            else .node (layA (layS s)) (cutP p (comN p q)) 0 false (.node (layA s) p v true .nil .nil) (.node i q w th l r)).ents ↔ x = ⟨p, v⟩ ∨ x ∈ (T.node i q w th l r).ents := by
          have e1 : ∀ A B : T, (T.node (layA (layS s)) (cutP p (comN p q)) 0 false A B).ents = A.ents ++ B.ents := fun A B => by simp [T.ents]
          have e2 : (T.node (layA s) p v true .nil .nil).ents = [⟨p, v⟩] := by simp [T.ents]
          split <;> rw [e1, e2, List.mem_append, List.mem_singleton]
          exact Or.comm
        rw [e]
        constructor
        · rintro (h | h)
          · exact .inl h
          · exact .inr ⟨h, n0 h⟩
        · rintro (h | ⟨h, _⟩)
          · exact .inl h
          · exact .inr h
theorem put_length (p : PrefixM) (v : Int) : ∀ (t : T) (s : AlM), (putT t p v s).t.ents.length = t.ents.length + (putT t p v s).new
  | .nil, s => by simp [putT, T.ents]
  | .node i q w th l r, s => by
    have ih1 := put_length p v l s
    have ih2 := put_length p v r s
    unfold putT
    split
    · split
      · simp only [T.ents, List.length_append]; cases th <;> simp; omega
      · split <;> simp only [T.ents, List.length_append] <;> omega
    · split
      · simp only; split <;> simp [T.ents] <;> omega
      · simp only; split <;> simp [T.ents] <;> omega
theorem put_n (p : PrefixM) (v : Int) : ∀ (t : T) (s : AlM), s.n ≤ (putT t p v s).s.n ∧ (putT t p v s).s.n ≤ s.n + 2
  | .nil, s => by have := layS_n s; simp only [putT]; omega
  | .node i q w th l r, s => by
    have ih1 := put_n p v l s
    have ih2 := put_n p v r s
    have h1 := layS_n s
    have h2 := layS_n (layS s)
    unfold putT
    split
    · split
      · simp only; omega
      · split <;> simp only <;> omega
    · split <;> simp only <;> omega
theorem put_perm (p : PrefixM) (v : Int) : ∀ (t : T) (s : AlM), ((putT t p v s).t.ids ++ (putT t p v s).s.free).Perm (t.ids ++ (s.free ++ newIds s (putT t p v s).s))
  | .nil, s => by
    simp only [putT, T.ids, List.append_nil, List.nil_append, List.singleton_append]
    exact lay_perm s
  | .node i q w th l r, s => by
    have ih1 := put_perm p v l s
    have ih2 := put_perm p v r s
    have n1 := layS_n s
    have n2 := layS_n (layS s)
    unfold putT
    by_cases c1 : comN p q = heldN q.len
    · rw [if_pos c1]
      by_cases c2 : comN p q = heldN p.len
      · rw [if_pos c2]
        simp only [T.ids]
        rw [show newIds s s = [] from newIds_self s s.free, List.append_nil]
      · rw [if_neg c2]
        by_cases c3 : halfB p.addr (heldN q.len) = 0
        · rw [if_pos c3]
          simp only [T.ids, List.cons_append, List.append_assoc]
          refine List.Perm.cons _ ?_
          generalize putT l p v s = X at *
          refine List.Perm.trans (List.perm_append_left_iff _ |>.2 List.perm_append_comm) ?_
          rw [← List.append_assoc]
          refine List.Perm.trans (ih1.append_right _) ?_
          rw [List.append_assoc]
          exact List.perm_append_left_iff _ |>.2 List.perm_append_comm
        · rw [if_neg c3]
          simp only [T.ids, List.cons_append, List.append_assoc]
          exact List.Perm.cons _ (ih2.append_left _)
    · rw [if_neg c1]
      by_cases c2 : comN p q = heldN p.len
      · rw [if_pos c2]
        have e : (if halfB q.addr (heldN p.len) = 0 then T.node (layA s) p v true (.node i q w th l r) .nil else .node (layA s) p v true .nil (.node i q w th l r)).ids = layA s :: (T.node i q w th l r).ids := by
          split <;> rw [T.ids] <;> simp [T.ids]
        simp only [e, List.cons_append]
        refine List.Perm.trans (List.perm_middle).symm ?_
        exact (lay_perm s).append_left _
      · rw [if_neg c2]
        have e1 : (T.node (layA s) p v true .nil .nil).ids = [layA s] := by simp [T.ids]
        have e : (if halfB q.addr (comN p q) = 0 then T.node (layA (layS s)) (cutP p (comN p q)) 0 false (.node i q w th l r) (.node (layA s) p v true .nil .nil)
            else .node (layA (layS s)) (cutP p (comN p q)) 0 false (.node (layA s) p v true .nil .nil) (.node i q w th l r)).ids.Perm ((T.node i q w th l r).ids ++ [layA s, layA (layS s)]) := by
          generalize T.node i q w th l r = X
          split
          · rw [T.ids, e1]
            refine List.Perm.trans (List.perm_append_singleton _ _).symm ?_
            rw [List.append_assoc]; rfl
          · rw [T.ids, e1]
            simp only [List.singleton_append]
            refine List.Perm.trans (List.Perm.swap _ _ _) ?_
            exact List.perm_append_comm (l₁ := [layA s, layA (layS s)])
        refine List.Perm.trans (e.append_right _) ?_
        rw [List.append_assoc, newIds_add n1.1 n2.1, ← List.append_assoc s.free]
        refine List.Perm.append_left _ ?_
        simp only [List.cons_append, List.nil_append]
        refine List.Perm.trans ((lay_perm (layS s)).cons _) ?_
        rw [← List.cons_append]
        exact (lay_perm s).append_right _
end Go.Proofs.Ytgjabgneapdbiaa

/- Prefixes as intervals of addresses. No program in sight. -/
import Derived.Test.YtgjabgneapdbiaaNorm
import Derived.Lib.BitFns
namespace Go.Proofs.Ytgjabgneapdbiaa
set_option linter.unusedSimpArgs false
set_option linter.unusedVariables false

def okP (p : PrefixM) : Prop := p = normP p ∧ p.wf
instance (p : PrefixM) : Decidable p.wf := by unfold PrefixM.wf i64b; exact inferInstance
instance (p : PrefixM) : Decidable (okP p) := by unfold okP; exact inferInstance
def szP (p : PrefixM) : Nat := 2 ^ (32 - heldN p.len)
def hsP (p : PrefixM) : Nat := 2 ^ (31 - heldN p.len)
def inP (p : PrefixM) (a : Nat) : Prop := p.addr ≤ a ∧ a < p.addr + szP p

theorem div_iff {a s k : Nat} (hs : 0 < s) : a / s = k ↔ k * s ≤ a ∧ a < k * s + s := by
  constructor
  · rintro rfl
    have h1 := Nat.div_add_mod a s
    have h2 := Nat.mod_lt a hs
    rw [Nat.mul_comm] at h1
    omega
  · rintro ⟨h1, h2⟩
    exact Nat.div_eq_of_lt_le h1 (by rw [Nat.add_mul, Nat.one_mul]; exact h2)

theorem szP_pos (p : PrefixM) : 0 < szP p := Nat.two_pow_pos _
theorem hsP_pos (p : PrefixM) : 0 < hsP p := Nat.two_pow_pos _
theorem szP_mul (p : PrefixM) : 2 ^ heldN p.len * szP p = 4294967296 := by
  unfold szP
  rw [← Nat.pow_add]
  have := heldN_le p.len
  rw [show heldN p.len + (32 - heldN p.len) = 32 by omega]
theorem hs_sz {p : PrefixM} (hl : heldN p.len < 32) : szP p = 2 * hsP p := by
  unfold szP hsP
  rw [show 32 - heldN p.len = (31 - heldN p.len) + 1 by omega, Nat.pow_succ, Nat.mul_comm]

theorem okP.held {p : PrefixM} (h : okP p) : heldI p.len = p.len := (congrArg PrefixM.len h.1).symm
theorem okP.bd {p : PrefixM} (h : okP p) : 0 ≤ p.len ∧ p.len ≤ 32 := by have := heldI_bd p.len; rw [h.held] at this; exact this
theorem okP.cast {p : PrefixM} (h : okP p) : ((heldN p.len : Nat) : Int) = p.len := by rw [heldN_cast, h.held]
theorem okP.lt {p : PrefixM} (h : okP p) : p.addr < 4294967296 := h.2.1
theorem okP.mul {p : PrefixM} (h : okP p) : p.addr = p.addr / szP p * szP p := by
  have h1 : p.addr = normN p.addr p.len := congrArg PrefixM.addr h.1
  rw [normN_eq _ _ h.2.1] at h1
  exact h1
theorem ok_mk {a k : Nat} {l : Int} (h0 : 0 ≤ l) (h1 : l ≤ 32) (ha : a < 4294967296) (hk : a = k * 2 ^ (32 - heldN l)) : okP ⟨a, l⟩ := by
  have hh : heldI l = l := by unfold heldI; omega
  refine ⟨?_, ha, by unfold i64b; simp only; omega⟩
  unfold normP
  simp only [hh]
  rw [normN_eq _ _ ha]
  congr 1
  subst hk
  rw [Nat.mul_div_cancel _ (Nat.two_pow_pos _)]
theorem okP.top {p : PrefixM} (h : okP p) : p.addr + szP p ≤ 4294967296 := by
  have h1 := h.mul
  have h2 := szP_mul p
  have h3 := h.lt
  rw [← h2] at h3 ⊢
  rw [h1] at h3
  have h4 := Nat.lt_of_mul_lt_mul_right h3
  have h5 := Nat.mul_le_mul_right (szP p) (Nat.succ_le_of_lt h4)
  rw [Nat.succ_mul] at h5
  rw [← h1] at h5
  exact h5
theorem okP.norm {p : PrefixM} (h : p.wf) : okP (normP p) := by
  have hb := heldI_bd p.len
  have e : heldN (heldI p.len) = heldN p.len := by unfold heldN; congr 1; unfold heldI; omega
  refine ok_mk (k := p.addr / 2 ^ (32 - heldN p.len)) hb.1 hb.2 (normN_lt _ _) ?_
  rw [e, normN_eq _ _ h.1]

theorem hasB_iff {p : PrefixM} (h : okP p) (a : Nat) : hasB p.addr p.len a = true ↔ inP p a := by
  have h1 := h.mul
  unfold hasB inP
  rw [decide_eq_true_eq]
  show p.addr / szP p = a / szP p ↔ _
  rw [eq_comm, div_iff (szP_pos p), ← h1]

/-- Does a prefix cover another one? -/
def covB (p q : PrefixM) : Bool := decide (heldI p.len ≤ heldI q.len) && hasB p.addr p.len q.addr
def cov (p q : PrefixM) : Prop := p.len ≤ q.len ∧ inP p q.addr
instance (p q : PrefixM) : Decidable (cov p q) := by unfold cov inP; exact inferInstance
theorem covB_iff {p q : PrefixM} (hp : okP p) (hq : okP q) : covB p q = true ↔ cov p q := by
  unfold covB cov
  rw [Bool.and_eq_true, decide_eq_true_eq, hp.held, hq.held, hasB_iff hp]

theorem heldN_mono {p q : PrefixM} (hp : okP p) (hq : okP q) : heldN p.len ≤ heldN q.len ↔ p.len ≤ q.len := by have := hp.cast; have := hq.cast; omega
/-- A longer prefix's interval is a whole part of the shorter one's raster. -/
theorem sz_le {p q : PrefixM} (hp : okP p) (hq : okP q) (h : p.len ≤ q.len) : ∃ m, szP p = m * szP q := by
  have h1 := (heldN_mono hp hq).2 h
  have h2 := heldN_le q.len
  refine ⟨2 ^ (heldN q.len - heldN p.len), ?_⟩
  unfold szP
  rw [← Nat.pow_add]
  congr 1
  omega
theorem raster {p q : PrefixM} (hp : okP p) (hq : okP q) (h : p.len ≤ q.len) {x : Nat} (hx : ∃ m, x = m * szP q) (hlt : q.addr < x) : q.addr + szP q ≤ x := by
  obtain ⟨m, rfl⟩ := hx
  have h1 := hq.mul
  rw [h1] at hlt
  have h4 := Nat.lt_of_mul_lt_mul_right hlt
  have h5 := Nat.mul_le_mul_right (szP q) (Nat.succ_le_of_lt h4)
  rw [Nat.succ_mul, ← h1] at h5
  exact h5
theorem p_raster {p q : PrefixM} (hp : okP p) (hq : okP q) (h : p.len ≤ q.len) : (∃ m, p.addr = m * szP q) ∧ ∃ m, p.addr + szP p = m * szP q := by
  obtain ⟨m, hm⟩ := sz_le hp hq h
  have h1 := hp.mul
  refine ⟨⟨p.addr / szP p * m, ?_⟩, ⟨p.addr / szP p * m + m, ?_⟩⟩
  · rw [Nat.mul_assoc, ← hm]; exact h1
  · rw [Nat.add_mul, Nat.mul_assoc, ← hm, ← h1]
theorem cov_sub {p q : PrefixM} (hp : okP p) (hq : okP q) (h : cov p q) : p.addr ≤ q.addr ∧ q.addr + szP q ≤ p.addr + szP p :=
  ⟨h.2.1, raster hp hq h.1 (p_raster hp hq h.1).2 h.2.2⟩
theorem cov_refl (p : PrefixM) : cov p p := ⟨Int.le_refl _, Nat.le_refl _, by have := szP_pos p; omega⟩
theorem cov_trans {p q r : PrefixM} (hp : okP p) (hq : okP q) (h : cov p q) (k : cov q r) : cov p r := by
  have := cov_sub hp hq h
  have h2 := k.2
  unfold cov inP at *
  omega
theorem cov_same {p q : PrefixM} (hp : okP p) (hq : okP q) (h : cov p q) (hl : p.len = q.len) : p = q := by
  have e : szP p = szP q := by unfold szP; rw [hl]
  have h2 := cov_sub hp hq h
  obtain ⟨a, l⟩ := p
  obtain ⟨b, m⟩ := q
  simp only at *
  subst hl
  congr 1
  omega
theorem cov_len {p q : PrefixM} (hp : okP p) (hq : okP q) (h : cov p q) (hne : p ≠ q) : p.len < q.len := by
  rcases Int.lt_or_eq_of_le h.1 with h1 | h1
  · exact h1
  · exact absurd (cov_same hp hq h h1) hne
theorem cov_antisymm {p q : PrefixM} (hp : okP p) (hq : okP q) (h : cov p q) (k : cov q p) : p = q := cov_same hp hq h (by have := h.1; have := k.1; omega)
/-- Two prefixes are one in the other, or apart. -/
theorem nest {p q : PrefixM} (hp : okP p) (hq : okP q) (h : p.len ≤ q.len) : cov p q ∨ q.addr + szP q ≤ p.addr ∨ p.addr + szP p ≤ q.addr := by
  by_cases h1 : q.addr < p.addr
  · exact .inr (.inl (raster hp hq h (p_raster hp hq h).1 h1))
  · by_cases h2 : q.addr < p.addr + szP p
    · exact .inl ⟨h, by omega, h2⟩
    · exact .inr (.inr (by omega))

/-! ### Halves -/
def halfB (a n : Nat) : Nat := a / 2 ^ (31 - n) % 2
theorem halfB_lt (a n : Nat) : halfB a n = 0 ∨ halfB a n = 1 := by unfold halfB; omega
/-- The prefixes that are a prefix's halves. -/
def kidP (p : PrefixM) (k : Nat) : PrefixM := ⟨p.addr + k * hsP p, p.len + 1⟩
theorem kid_held {p : PrefixM} (hp : okP p) (hl : p.len < 32) (k : Nat) : heldN (kidP p k).len = heldN p.len + 1 := by
  have := hp.bd
  have := hp.cast
  unfold kidP heldN heldI at *
  simp only
  omega
theorem kid_sz {p : PrefixM} (hp : okP p) (hl : p.len < 32) (k : Nat) : szP (kidP p k) = hsP p := by
  unfold szP hsP
  rw [kid_held hp hl]
  congr 1
  omega
theorem lt32 {p : PrefixM} (hp : okP p) : heldN p.len < 32 ↔ p.len < 32 := by have := hp.cast; omega
theorem kid_ok {p : PrefixM} (hp : okP p) (hl : p.len < 32) {k : Nat} (hk : k ≤ 1) : okP (kidP p k) := by
  have hb := hp.bd
  have hs := hs_sz ((lt32 hp).2 hl)
  have ht := hp.top
  have hpos := hsP_pos p
  have hm := hp.mul
  have hz := kid_sz hp hl k
  have hkk : k = 0 ∨ k = 1 := by omega
  unfold kidP at *
  unfold szP at hz
  simp only at hz
  refine ok_mk (k := 2 * (p.addr / szP p) + k) (by omega) (by omega) ?_ ?_
  · rcases hkk with rfl | rfl <;> omega
  · rw [hz, Nat.add_mul, Nat.mul_assoc, Nat.mul_left_comm, ← hs, ← hm]
theorem half_in {p : PrefixM} (hp : okP p) (hl : p.len < 32) {a : Nat} (ha : inP p a) : inP (kidP p (halfB a (heldN p.len))) a ∧ ∀ k, k ≤ 1 → inP (kidP p k) a → k = halfB a (heldN p.len) := by
  have hs := hs_sz ((lt32 hp).2 hl)
  have hpos := hsP_pos p
  have hm := hp.mul
  have key : ∀ k, k ≤ 1 → (inP (kidP p k) a ↔ halfB a (heldN p.len) = k) := by
    intro k hk
    unfold inP
    rw [kid_sz hp hl k]
    show p.addr + k * hsP p ≤ a ∧ a < p.addr + k * hsP p + hsP p ↔ a / hsP p % 2 = k
    have e : p.addr + k * hsP p = (2 * (p.addr / szP p) + k) * hsP p := by
      rw [Nat.add_mul, Nat.mul_assoc, Nat.mul_left_comm, ← hs, ← hm]
    rw [e, ← div_iff hpos]
    have h2 : a / hsP p / 2 = p.addr / szP p := by
      rw [Nat.div_div_eq_div_mul, Nat.mul_comm, ← hs, div_iff (szP_pos p), ← hm]
      exact ha
    omega
  have hlt := halfB_lt a (heldN p.len)
  refine ⟨(key _ (by omega)).2 rfl, fun k hk h => ((key k hk).1 h).symm⟩
theorem kid_cov {p : PrefixM} (hp : okP p) (hl : p.len < 32) {k : Nat} (hk : k ≤ 1) : cov p (kidP p k) := by
  have hs := hs_sz ((lt32 hp).2 hl)
  have hpos := hsP_pos p
  have hkk : k = 0 ∨ k = 1 := by omega
  unfold cov inP kidP
  simp only
  rcases hkk with rfl | rfl <;> omega
/-- What a prefix covers, but for itself, lies in one of its halves. -/
theorem cov_kid {p q : PrefixM} (hp : okP p) (hq : okP q) (h : cov p q) (hlt : p.len < q.len) : cov (kidP p (halfB q.addr (heldN p.len))) q := by
  have hl : p.len < 32 := by have := hq.bd; omega
  exact ⟨by show p.len + 1 ≤ q.len; omega, (half_in hp hl h.2).1⟩
theorem kid_half {p q : PrefixM} (hp : okP p) (hl : p.len < 32) {k : Nat} (hk : k ≤ 1) (h : cov (kidP p k) q) : halfB q.addr (heldN p.len) = k := by
  have hkid := kid_ok hp hl hk
  have h1 := kid_cov hp hl hk
  have hin : inP p q.addr := by
    have hs := hs_sz ((lt32 hp).2 hl)
    have hz := kid_sz hp hl k
    have hi := h.2
    have hkk : k = 0 ∨ k = 1 := by omega
    unfold inP at *
    rw [hz] at hi
    unfold kidP at hi
    simp only at hi
    rcases hkk with rfl | rfl <;> omega
  exact ((half_in hp hl hin).2 k hk h.2).symm

/-! ### The bits that two addresses share -/
theorem bitLen_le_iff {x k : Nat} (hk : k ≤ 32) (hx : x < 4294967296) : Lib.bitLen x ≤ k ↔ x < 2 ^ k := by
  constructor
  · intro h
    rcases Nat.lt_or_ge x (2 ^ k) with h1 | h1
    · exact h1
    · exfalso
      have h2 := Lib.bitLen_shift k x h1 (by omega)
      have h3 : x / 2 ^ k ≠ 0 := by
        have := Nat.div_pos h1 (Nat.two_pow_pos k); omega
      have h4 := Lib.bitLen_half (x / 2 ^ k) h3 (by have := Nat.div_le_self x (2 ^ k); omega)
      omega
  · intro h; exact Lib.bitLen_le x k (by omega) h
theorem xor_lt_iff (a b k : Nat) : a ^^^ b < 2 ^ k ↔ a / 2 ^ k = b / 2 ^ k := by
  rw [div_eq_iff_bits]
  constructor
  · intro h i hi
    have h1 : (a ^^^ b).testBit i = false := Nat.testBit_lt_two_pow (Nat.lt_of_lt_of_le h (Nat.pow_le_pow_right (by decide) hi))
    rw [Nat.testBit_xor] at h1
    simpa using h1
  · intro h
    apply Nat.lt_pow_two_of_testBit
    intro i hi
    rw [Nat.testBit_xor, h i hi]; simp
/-- How many bits two addresses share at their heads. -/
def lzN (a b : Nat) : Nat := 32 - Lib.bitLen (a ^^^ b)
theorem lzN_le (a b : Nat) : lzN a b ≤ 32 := by unfold lzN; omega
theorem lzN_iff {a b n : Nat} (ha : a < 4294967296) (hb : b < 4294967296) (hn : n ≤ 32) : n ≤ lzN a b ↔ a / 2 ^ (32 - n) = b / 2 ^ (32 - n) := by
  have hx : a ^^^ b < 4294967296 := Nat.xor_lt_two_pow (n := 32) (by omega) (by omega)
  have h32 : Lib.bitLen (a ^^^ b) ≤ 32 := Lib.bitLen_le _ 32 (by omega) (by simpa using hx)
  rw [← xor_lt_iff, ← bitLen_le_iff (by omega) hx]
  unfold lzN
  omega
theorem lzN_halves {a b : Nat} (ha : a < 4294967296) (hb : b < 4294967296) (h : lzN a b < 32) : halfB a (lzN a b) ≠ halfB b (lzN a b) := by
  have h1 := (lzN_iff ha hb (Nat.le_of_lt h)).1 (Nat.le_refl _)
  have h2 : ¬ (lzN a b + 1 ≤ lzN a b) := by omega
  rw [lzN_iff ha hb (by omega)] at h2
  generalize lzN a b = n at *
  unfold halfB
  rw [show 32 - n = (31 - n) + 1 by omega, Nat.pow_succ, ← Nat.div_div_eq_div_mul, ← Nat.div_div_eq_div_mul] at h1
  rw [show 32 - (n + 1) = 31 - n by omega] at h2
  omega

/-- How many bits two prefixes share. -/
def comN (p q : PrefixM) : Nat := min (min (heldN p.len) (heldN q.len)) (lzN p.addr q.addr)
/-- The prefix of so many bits. -/
def cutP (p : PrefixM) (n : Nat) : PrefixM := normP ⟨p.addr, n⟩
theorem cutP_ok {p : PrefixM} (hp : okP p) {n : Nat} (hn : n ≤ 32) : okP (cutP p n) := okP.norm ⟨hp.lt, by unfold i64b; simp only; omega⟩
theorem cutP_len {p : PrefixM} {n : Nat} (hn : n ≤ 32) : (cutP p n).len = n := by unfold cutP normP heldI; simp only; omega
theorem cutP_held {p : PrefixM} {n : Nat} (hn : n ≤ 32) : heldN (cutP p n).len = n := by rw [cutP_len hn]; unfold heldN heldI; omega
theorem cutP_in {p : PrefixM} (hp : okP p) {n : Nat} (hn : n ≤ 32) {a : Nat} (ha : a < 4294967296) : inP (cutP p n) a ↔ p.addr / 2 ^ (32 - n) = a / 2 ^ (32 - n) := by
  have h1 := hasB_iff (cutP_ok hp hn) a
  have e : heldN (n : Int) = n := by unfold heldN heldI; omega
  rw [← h1]
  unfold hasB
  rw [decide_eq_true_eq, cutP_held hn]
  have e2 : (cutP p n).addr = p.addr / 2 ^ (32 - n) * 2 ^ (32 - n) := by
    unfold cutP normP
    simp only
    rw [normN_eq _ _ hp.lt, e]
  rw [e2, Nat.mul_div_cancel _ (Nat.two_pow_pos _)]
theorem cutP_cov {p : PrefixM} (hp : okP p) {n : Nat} (hn : n ≤ heldN p.len) : cov (cutP p n) p := by
  have h32 := heldN_le p.len
  refine ⟨?_, (cutP_in hp (by omega) hp.lt).2 rfl⟩
  rw [cutP_len (by omega), ← hp.cast]; omega
theorem cutP_cov2 {p q : PrefixM} (hp : okP p) (hq : okP q) {n : Nat} (hn : n ≤ comN p q) : cov (cutP p n) q := by
  have h32 := heldN_le p.len
  unfold comN at hn
  refine ⟨?_, (cutP_in hp (by omega) hq.lt).2 ((lzN_iff hp.lt hq.lt (by omega)).1 (by omega))⟩
  rw [cutP_len (by omega), ← hq.cast]; omega
theorem cutP_of_cov {p q : PrefixM} (hp : okP p) (hq : okP q) (h : cov p q) : cutP q (heldN p.len) = p := by
  have h32 := heldN_le p.len
  have hl := (heldN_mono hp hq).2 h.1
  have hc := cutP_cov hq hl
  have hk := cutP_ok hq h32
  have hlen : (cutP q (heldN p.len)).len = p.len := by rw [cutP_len h32, hp.cast]
  rcases nest hk hp (by rw [hlen]; exact Int.le_refl _) with h1 | h1 | h1
  · exact cov_same hk hp h1 hlen
  · exfalso; have h2 := h.2.2; have h3 := hc.2.1; omega
  · exfalso; have h2 := h.2.1; have h3 := hc.2.2; omega
theorem com_le {p q : PrefixM} : comN p q ≤ heldN p.len ∧ comN p q ≤ heldN q.len := by unfold comN; omega
theorem com_comm (p q : PrefixM) : comN p q = comN q p := by unfold comN lzN; rw [Nat.xor_comm, Nat.min_comm (heldN p.len)]
theorem com_cov {p q : PrefixM} (hp : okP p) (hq : okP q) : comN p q = heldN q.len ↔ cov q p := by
  constructor
  · intro h
    have h1 := cutP_cov2 hq hp (n := heldN q.len) (by rw [com_comm, h]; exact Nat.le_refl _)
    rwa [cutP_of_cov hq hq (cov_refl q)] at h1
  · intro h
    have h1 := (heldN_mono hq hp).2 h.1
    have h3 := heldN_le q.len
    have h2 : heldN q.len ≤ lzN p.addr q.addr := by
      rw [lzN_iff hp.lt hq.lt h3]
      have := (cutP_in hq h3 hp.lt).1 (by rw [cutP_of_cov hq hq (cov_refl q)]; exact h.2)
      exact this.symm
    unfold comN
    omega
/-- Where neither covers the other one, they part behind what they share. -/
theorem com_fork {p q : PrefixM} (hp : okP p) (hq : okP q) (h1 : comN p q ≠ heldN p.len) (h2 : comN p q ≠ heldN q.len) : halfB q.addr (comN p q) ≠ halfB p.addr (comN p q) := by
  have h := com_le (p := p) (q := q)
  have h32 := heldN_le p.len
  have e : comN p q = lzN p.addr q.addr := by unfold comN at *; omega
  have := lzN_halves hp.lt hq.lt (by rw [← e]; omega)
  rw [← e] at this
  exact fun h => this h.symm
end Go.Proofs.Ytgjabgneapdbiaa

/- Prefixes as intervals of addresses. No program in sight. The tree of chapter 9 in plain Lean: what put and cut come to. No program in sight. The tree of chapter 9 in plain Lean: cut, path, and how many forks there are. No program in sight. The document's count of nodes is the tree's. No program in sight. Chapter 9 in plain lists: what is there, in order. No program in sight. Chapter 9 in plain lists: the longest prefix, those that cover. No program in sight. -/
import Derived.Test.YtgjabgneapdbiaaTrieBase
import Derived.Lib.BitFns
namespace Go.Proofs.Ytgjabgneapdbiaa
set_option linter.unusedSimpArgs false
set_option linter.unusedVariables false

def okP (p : PrefixM) : Prop := p = normP p ∧ p.wf
instance (p : PrefixM) : Decidable p.wf := by unfold PrefixM.wf i64b; exact inferInstance
instance (p : PrefixM) : Decidable (okP p) := by unfold okP; exact inferInstance
def szP (p : PrefixM) : Nat := 2 ^ (32 - heldN p.len)
def hsP (p : PrefixM) : Nat := 2 ^ (31 - heldN p.len)
def inP (p : PrefixM) (a : Nat) : Prop := p.addr ≤ a ∧ a < p.addr + szP p

theorem div_iff {a s k : Nat} (hs : 0 < s) : a / s = k ↔ k * s ≤ a ∧ a < k * s + s := by
  constructor
  · rintro rfl
    have h1 := Nat.div_add_mod a s
    have h2 := Nat.mod_lt a hs
    rw [Nat.mul_comm] at h1
    omega
  · rintro ⟨h1, h2⟩
    exact Nat.div_eq_of_lt_le h1 (by rw [Nat.add_mul, Nat.one_mul]; exact h2)

theorem szP_pos (p : PrefixM) : 0 < szP p := Nat.two_pow_pos _
theorem hsP_pos (p : PrefixM) : 0 < hsP p := Nat.two_pow_pos _
theorem szP_mul (p : PrefixM) : 2 ^ heldN p.len * szP p = 4294967296 := by
  unfold szP
  rw [← Nat.pow_add]
  have := heldN_le p.len
  rw [show heldN p.len + (32 - heldN p.len) = 32 by omega]
theorem hs_sz {p : PrefixM} (hl : heldN p.len < 32) : szP p = 2 * hsP p := by
  unfold szP hsP
  rw [show 32 - heldN p.len = (31 - heldN p.len) + 1 by omega, Nat.pow_succ, Nat.mul_comm]

theorem okP.held {p : PrefixM} (h : okP p) : heldI p.len = p.len := (congrArg PrefixM.len h.1).symm
theorem okP.bd {p : PrefixM} (h : okP p) : 0 ≤ p.len ∧ p.len ≤ 32 := by have := heldI_bd p.len; rw [h.held] at this; exact this
theorem okP.cast {p : PrefixM} (h : okP p) : ((heldN p.len : Nat) : Int) = p.len := by rw [heldN_cast, h.held]
theorem okP.lt {p : PrefixM} (h : okP p) : p.addr < 4294967296 := h.2.1
theorem okP.mul {p : PrefixM} (h : okP p) : p.addr = p.addr / szP p * szP p := by
  have h1 : p.addr = normN p.addr p.len := congrArg PrefixM.addr h.1
  rw [normN_eq _ _ h.2.1] at h1
  exact h1
theorem ok_mk {a k : Nat} {l : Int} (h0 : 0 ≤ l) (h1 : l ≤ 32) (ha : a < 4294967296) (hk : a = k * 2 ^ (32 - heldN l)) : okP ⟨a, l⟩ := by
  have hh : heldI l = l := by unfold heldI; omega
  refine ⟨?_, ha, by unfold i64b; simp only; omega⟩
  unfold normP
  simp only [hh]
  rw [normN_eq _ _ ha]
  congr 1
  subst hk
  rw [Nat.mul_div_cancel _ (Nat.two_pow_pos _)]
theorem okP.top {p : PrefixM} (h : okP p) : p.addr + szP p ≤ 4294967296 := by
  have h1 := h.mul
  have h2 := szP_mul p
  have h3 := h.lt
  rw [← h2] at h3 ⊢
  rw [h1] at h3
  have h4 := Nat.lt_of_mul_lt_mul_right h3
  have h5 := Nat.mul_le_mul_right (szP p) (Nat.succ_le_of_lt h4)
  rw [Nat.succ_mul] at h5
  rw [← h1] at h5
  exact h5
theorem okP.norm {p : PrefixM} (h : p.wf) : okP (normP p) := by
  have hb := heldI_bd p.len
  have e : heldN (heldI p.len) = heldN p.len := by unfold heldN; congr 1; unfold heldI; omega
  refine ok_mk (k := p.addr / 2 ^ (32 - heldN p.len)) hb.1 hb.2 (normN_lt _ _) ?_
  rw [e, normN_eq _ _ h.1]

theorem hasB_iff {p : PrefixM} (h : okP p) (a : Nat) : hasB p.addr p.len a = true ↔ inP p a := by
  have h1 := h.mul
  unfold hasB inP
  rw [decide_eq_true_eq]
  show p.addr / szP p = a / szP p ↔ _
  rw [eq_comm, div_iff (szP_pos p), ← h1]

/-- Does a prefix cover another one? -/
def covB (p q : PrefixM) : Bool := decide (heldI p.len ≤ heldI q.len) && hasB p.addr p.len q.addr
def cov (p q : PrefixM) : Prop := p.len ≤ q.len ∧ inP p q.addr
instance (p q : PrefixM) : Decidable (cov p q) := by unfold cov inP; exact inferInstance
theorem covB_iff {p q : PrefixM} (hp : okP p) (hq : okP q) : covB p q = true ↔ cov p q := by
  unfold covB cov
  rw [Bool.and_eq_true, decide_eq_true_eq, hp.held, hq.held, hasB_iff hp]

theorem heldN_mono {p q : PrefixM} (hp : okP p) (hq : okP q) : heldN p.len ≤ heldN q.len ↔ p.len ≤ q.len := by have := hp.cast; have := hq.cast; omega
/-- A longer prefix's interval is a whole part of the shorter one's raster. -/
theorem sz_le {p q : PrefixM} (hp : okP p) (hq : okP q) (h : p.len ≤ q.len) : ∃ m, szP p = m * szP q := by
  have h1 := (heldN_mono hp hq).2 h
  have h2 := heldN_le q.len
  refine ⟨2 ^ (heldN q.len - heldN p.len), ?_⟩
  unfold szP
  rw [← Nat.pow_add]
  congr 1
  omega
theorem raster {p q : PrefixM} (hp : okP p) (hq : okP q) (h : p.len ≤ q.len) {x : Nat} (hx : ∃ m, x = m * szP q) (hlt : q.addr < x) : q.addr + szP q ≤ x := by
  obtain ⟨m, rfl⟩ := hx
  have h1 := hq.mul
  rw [h1] at hlt
  have h4 := Nat.lt_of_mul_lt_mul_right hlt
  have h5 := Nat.mul_le_mul_right (szP q) (Nat.succ_le_of_lt h4)
  rw [Nat.succ_mul, ← h1] at h5
  exact h5
theorem p_raster {p q : PrefixM} (hp : okP p) (hq : okP q) (h : p.len ≤ q.len) : (∃ m, p.addr = m * szP q) ∧ ∃ m, p.addr + szP p = m * szP q := by
  obtain ⟨m, hm⟩ := sz_le hp hq h
  have h1 := hp.mul
  refine ⟨⟨p.addr / szP p * m, ?_⟩, ⟨p.addr / szP p * m + m, ?_⟩⟩
  · rw [Nat.mul_assoc, ← hm]; exact h1
  · rw [Nat.add_mul, Nat.mul_assoc, ← hm, ← h1]
theorem cov_sub {p q : PrefixM} (hp : okP p) (hq : okP q) (h : cov p q) : p.addr ≤ q.addr ∧ q.addr + szP q ≤ p.addr + szP p :=
  ⟨h.2.1, raster hp hq h.1 (p_raster hp hq h.1).2 h.2.2⟩
theorem cov_refl (p : PrefixM) : cov p p := ⟨Int.le_refl _, Nat.le_refl _, by have := szP_pos p; omega⟩
theorem cov_trans {p q r : PrefixM} (hp : okP p) (hq : okP q) (h : cov p q) (k : cov q r) : cov p r := by
  have := cov_sub hp hq h
  have h2 := k.2
  unfold cov inP at *
  omega
theorem cov_same {p q : PrefixM} (hp : okP p) (hq : okP q) (h : cov p q) (hl : p.len = q.len) : p = q := by
  have e : szP p = szP q := by unfold szP; rw [hl]
  have h2 := cov_sub hp hq h
  obtain ⟨a, l⟩ := p
  obtain ⟨b, m⟩ := q
  simp only at *
  subst hl
  congr 1
  omega
theorem cov_len {p q : PrefixM} (hp : okP p) (hq : okP q) (h : cov p q) (hne : p ≠ q) : p.len < q.len := by
  rcases Int.lt_or_eq_of_le h.1 with h1 | h1
  · exact h1
  · exact absurd (cov_same hp hq h h1) hne
theorem cov_antisymm {p q : PrefixM} (hp : okP p) (hq : okP q) (h : cov p q) (k : cov q p) : p = q := cov_same hp hq h (by have := h.1; have := k.1; omega)
/-- Two prefixes are one in the other, or apart. -/
theorem nest {p q : PrefixM} (hp : okP p) (hq : okP q) (h : p.len ≤ q.len) : cov p q ∨ q.addr + szP q ≤ p.addr ∨ p.addr + szP p ≤ q.addr := by
  by_cases h1 : q.addr < p.addr
  · exact .inr (.inl (raster hp hq h (p_raster hp hq h).1 h1))
  · by_cases h2 : q.addr < p.addr + szP p
    · exact .inl ⟨h, by omega, h2⟩
    · exact .inr (.inr (by omega))

/-! ### Halves -/
def halfB (a n : Nat) : Nat := a / 2 ^ (31 - n) % 2
theorem halfB_lt (a n : Nat) : halfB a n = 0 ∨ halfB a n = 1 := by unfold halfB; omega
/-- The prefixes that are a prefix's halves. -/
def kidP (p : PrefixM) (k : Nat) : PrefixM := ⟨p.addr + k * hsP p, p.len + 1⟩
theorem kid_held {p : PrefixM} (hp : okP p) (hl : p.len < 32) (k : Nat) : heldN (kidP p k).len = heldN p.len + 1 := by
  have := hp.bd
  have := hp.cast
  unfold kidP heldN heldI at *
  simp only
  omega
theorem kid_sz {p : PrefixM} (hp : okP p) (hl : p.len < 32) (k : Nat) : szP (kidP p k) = hsP p := by
  unfold szP hsP
  rw [kid_held hp hl]
  congr 1
  omega
theorem lt32 {p : PrefixM} (hp : okP p) : heldN p.len < 32 ↔ p.len < 32 := by have := hp.cast; omega
theorem kid_ok {p : PrefixM} (hp : okP p) (hl : p.len < 32) {k : Nat} (hk : k ≤ 1) : okP (kidP p k) := by
  have hb := hp.bd
  have hs := hs_sz ((lt32 hp).2 hl)
  have ht := hp.top
  have hpos := hsP_pos p
  have hm := hp.mul
  have hz := kid_sz hp hl k
  have hkk : k = 0 ∨ k = 1 := by omega
  unfold kidP at *
  unfold szP at hz
  simp only at hz
  refine ok_mk (k := 2 * (p.addr / szP p) + k) (by omega) (by omega) ?_ ?_
  · rcases hkk with rfl | rfl <;> omega
  · rw [hz, Nat.add_mul, Nat.mul_assoc, Nat.mul_left_comm, ← hs, ← hm]
theorem half_in {p : PrefixM} (hp : okP p) (hl : p.len < 32) {a : Nat} (ha : inP p a) : inP (kidP p (halfB a (heldN p.len))) a ∧ ∀ k, k ≤ 1 → inP (kidP p k) a → k = halfB a (heldN p.len) := by
  have hs := hs_sz ((lt32 hp).2 hl)
  have hpos := hsP_pos p
  have hm := hp.mul
  have key : ∀ k, k ≤ 1 → (inP (kidP p k) a ↔ halfB a (heldN p.len) = k) := by
    intro k hk
    unfold inP
    rw [kid_sz hp hl k]
    show p.addr + k * hsP p ≤ a ∧ a < p.addr + k * hsP p + hsP p ↔ a / hsP p % 2 = k
    have e : p.addr + k * hsP p = (2 * (p.addr / szP p) + k) * hsP p := by
      rw [Nat.add_mul, Nat.mul_assoc, Nat.mul_left_comm, ← hs, ← hm]
    rw [e, ← div_iff hpos]
    have h2 : a / hsP p / 2 = p.addr / szP p := by
      rw [Nat.div_div_eq_div_mul, Nat.mul_comm, ← hs, div_iff (szP_pos p), ← hm]
      exact ha
    omega
  have hlt := halfB_lt a (heldN p.len)
  refine ⟨(key _ (by omega)).2 rfl, fun k hk h => ((key k hk).1 h).symm⟩
theorem kid_cov {p : PrefixM} (hp : okP p) (hl : p.len < 32) {k : Nat} (hk : k ≤ 1) : cov p (kidP p k) := by
  have hs := hs_sz ((lt32 hp).2 hl)
  have hpos := hsP_pos p
  have hkk : k = 0 ∨ k = 1 := by omega
  unfold cov inP kidP
  simp only
  rcases hkk with rfl | rfl <;> omega
/-- What a prefix covers, but for itself, lies in one of its halves. -/
theorem cov_kid {p q : PrefixM} (hp : okP p) (hq : okP q) (h : cov p q) (hlt : p.len < q.len) : cov (kidP p (halfB q.addr (heldN p.len))) q := by
  have hl : p.len < 32 := by have := hq.bd; omega
  exact ⟨by show p.len + 1 ≤ q.len; omega, (half_in hp hl h.2).1⟩
theorem kid_half {p q : PrefixM} (hp : okP p) (hl : p.len < 32) {k : Nat} (hk : k ≤ 1) (h : cov (kidP p k) q) : halfB q.addr (heldN p.len) = k := by
  have hkid := kid_ok hp hl hk
  have h1 := kid_cov hp hl hk
  have hin : inP p q.addr := by
    have hs := hs_sz ((lt32 hp).2 hl)
    have hz := kid_sz hp hl k
    have hi := h.2
    have hkk : k = 0 ∨ k = 1 := by omega
    unfold inP at *
    rw [hz] at hi
    unfold kidP at hi
    simp only at hi
    rcases hkk with rfl | rfl <;> omega
  exact ((half_in hp hl hin).2 k hk h.2).symm

/-! ### The bits that two addresses share -/
theorem bitLen_le_iff {x k : Nat} (hk : k ≤ 32) (hx : x < 4294967296) : Lib.bitLen x ≤ k ↔ x < 2 ^ k := by
  constructor
  · intro h
    rcases Nat.lt_or_ge x (2 ^ k) with h1 | h1
    · exact h1
    · exfalso
      have h2 := Lib.bitLen_shift k x h1 (by omega)
      have h3 : x / 2 ^ k ≠ 0 := by
        have := Nat.div_pos h1 (Nat.two_pow_pos k); omega
      have h4 := Lib.bitLen_half (x / 2 ^ k) h3 (by have := Nat.div_le_self x (2 ^ k); omega)
      omega
  · intro h; exact Lib.bitLen_le x k (by omega) h
theorem xor_lt_iff (a b k : Nat) : a ^^^ b < 2 ^ k ↔ a / 2 ^ k = b / 2 ^ k := by
  rw [div_eq_iff_bits]
  constructor
  · intro h i hi
    have h1 : (a ^^^ b).testBit i = false := Nat.testBit_lt_two_pow (Nat.lt_of_lt_of_le h (Nat.pow_le_pow_right (by decide) hi))
    rw [Nat.testBit_xor] at h1
    simpa using h1
  · intro h
    apply Nat.lt_pow_two_of_testBit
    intro i hi
    rw [Nat.testBit_xor, h i hi]; simp
/-- How many bits two addresses share at their heads. -/
def lzN (a b : Nat) : Nat := 32 - Lib.bitLen (a ^^^ b)
theorem lzN_le (a b : Nat) : lzN a b ≤ 32 := by unfold lzN; omega
theorem lzN_iff {a b n : Nat} (ha : a < 4294967296) (hb : b < 4294967296) (hn : n ≤ 32) : n ≤ lzN a b ↔ a / 2 ^ (32 - n) = b / 2 ^ (32 - n) := by
  have hx : a ^^^ b < 4294967296 := Nat.xor_lt_two_pow (n := 32) (by omega) (by omega)
  have h32 : Lib.bitLen (a ^^^ b) ≤ 32 := Lib.bitLen_le _ 32 (by omega) (by simpa using hx)
  rw [← xor_lt_iff, ← bitLen_le_iff (by omega) hx]
  unfold lzN
  omega
theorem lzN_halves {a b : Nat} (ha : a < 4294967296) (hb : b < 4294967296) (h : lzN a b < 32) : halfB a (lzN a b) ≠ halfB b (lzN a b) := by
  have h1 := (lzN_iff ha hb (Nat.le_of_lt h)).1 (Nat.le_refl _)
  have h2 : ¬ (lzN a b + 1 ≤ lzN a b) := by omega
  rw [lzN_iff ha hb (by omega)] at h2
  generalize lzN a b = n at *
  unfold halfB
  rw [show 32 - n = (31 - n) + 1 by omega, Nat.pow_succ, ← Nat.div_div_eq_div_mul, ← Nat.div_div_eq_div_mul] at h1
  rw [show 32 - (n + 1) = 31 - n by omega] at h2
  omega

/-- How many bits two prefixes share. -/
def comN (p q : PrefixM) : Nat := min (min (heldN p.len) (heldN q.len)) (lzN p.addr q.addr)
/-- The prefix of so many bits. -/
def cutP (p : PrefixM) (n : Nat) : PrefixM := normP ⟨p.addr, n⟩
theorem cutP_ok {p : PrefixM} (hp : okP p) {n : Nat} (hn : n ≤ 32) : okP (cutP p n) := okP.norm ⟨hp.lt, by unfold i64b; simp only; omega⟩
theorem cutP_len {p : PrefixM} {n : Nat} (hn : n ≤ 32) : (cutP p n).len = n := by unfold cutP normP heldI; simp only; omega
theorem cutP_held {p : PrefixM} {n : Nat} (hn : n ≤ 32) : heldN (cutP p n).len = n := by rw [cutP_len hn]; unfold heldN heldI; omega
theorem cutP_in {p : PrefixM} (hp : okP p) {n : Nat} (hn : n ≤ 32) {a : Nat} (ha : a < 4294967296) : inP (cutP p n) a ↔ p.addr / 2 ^ (32 - n) = a / 2 ^ (32 - n) := by
  have h1 := hasB_iff (cutP_ok hp hn) a
  have e : heldN (n : Int) = n := by unfold heldN heldI; omega
  rw [← h1]
  unfold hasB
  rw [decide_eq_true_eq, cutP_held hn]
  have e2 : (cutP p n).addr = p.addr / 2 ^ (32 - n) * 2 ^ (32 - n) := by
    unfold cutP normP
    simp only
    rw [normN_eq _ _ hp.lt, e]
  rw [e2, Nat.mul_div_cancel _ (Nat.two_pow_pos _)]
theorem cutP_cov {p : PrefixM} (hp : okP p) {n : Nat} (hn : n ≤ heldN p.len) : cov (cutP p n) p := by
  have h32 := heldN_le p.len
  refine ⟨?_, (cutP_in hp (by omega) hp.lt).2 rfl⟩
  rw [cutP_len (by omega), ← hp.cast]; omega
theorem cutP_cov2 {p q : PrefixM} (hp : okP p) (hq : okP q) {n : Nat} (hn : n ≤ comN p q) : cov (cutP p n) q := by
  have h32 := heldN_le p.len
  unfold comN at hn
  refine ⟨?_, (cutP_in hp (by omega) hq.lt).2 ((lzN_iff hp.lt hq.lt (by omega)).1 (by omega))⟩
  rw [cutP_len (by omega), ← hq.cast]; omega
theorem cutP_of_cov {p q : PrefixM} (hp : okP p) (hq : okP q) (h : cov p q) : cutP q (heldN p.len) = p := by
  have h32 := heldN_le p.len
  have hl := (heldN_mono hp hq).2 h.1
  have hc := cutP_cov hq hl
  have hk := cutP_ok hq h32
  have hlen : (cutP q (heldN p.len)).len = p.len := by rw [cutP_len h32, hp.cast]
  rcases nest hk hp (by rw [hlen]; exact Int.le_refl _) with h1 | h1 | h1
  · exact cov_same hk hp h1 hlen
  · exfalso; have h2 := h.2.2; have h3 := hc.2.1; omega
  · exfalso; have h2 := h.2.1; have h3 := hc.2.2; omega
theorem com_le {p q : PrefixM} : comN p q ≤ heldN p.len ∧ comN p q ≤ heldN q.len := by unfold comN; omega
theorem com_comm (p q : PrefixM) : comN p q = comN q p := by unfold comN lzN; rw [Nat.xor_comm, Nat.min_comm (heldN p.len)]
theorem com_cov {p q : PrefixM} (hp : okP p) (hq : okP q) : comN p q = heldN q.len ↔ cov q p := by
  constructor
  · intro h
    have h1 := cutP_cov2 hq hp (n := heldN q.len) (by rw [com_comm, h]; exact Nat.le_refl _)
    rwa [cutP_of_cov hq hq (cov_refl q)] at h1
  · intro h
    have h1 := (heldN_mono hq hp).2 h.1
    have h3 := heldN_le q.len
    have h2 : heldN q.len ≤ lzN p.addr q.addr := by
      rw [lzN_iff hp.lt hq.lt h3]
      have := (cutP_in hq h3 hp.lt).1 (by rw [cutP_of_cov hq hq (cov_refl q)]; exact h.2)
      exact this.symm
    unfold comN
    omega
/-- Where neither covers the other one, they part behind what they share. -/
theorem com_fork {p q : PrefixM} (hp : okP p) (hq : okP q) (h1 : comN p q ≠ heldN p.len) (h2 : comN p q ≠ heldN q.len) : halfB q.addr (comN p q) ≠ halfB p.addr (comN p q) := by
  have h := com_le (p := p) (q := q)
  have h32 := heldN_le p.len
  have e : comN p q = lzN p.addr q.addr := by unfold comN at *; omega
  have := lzN_halves hp.lt hq.lt (by rw [← e]; omega)
  rw [← e] at this
  exact fun h => this h.symm
end Go.Proofs.Ytgjabgneapdbiaa

namespace Go.Proofs.Ytgjabgneapdbiaa
set_option linter.unusedSimpArgs false
set_option linter.unusedVariables false

structure EntM where
  p : PrefixM
  v : Int
  deriving Inhabited, DecidableEq

inductive T where
  | nil
  | node (i : Nat) (p : PrefixM) (v : Int) (th : Bool) (l r : T)
def T.id : T → Nat
  | .nil => 0
  | .node i _ _ _ _ _ => i
def T.isNil : T → Bool
  | .nil => true
  | .node .. => false
def T.ids : T → List Nat
  | .nil => []
  | .node i _ _ _ l r => i :: (l.ids ++ r.ids)
def T.pfxs : T → List PrefixM
  | .nil => []
  | .node _ p _ _ l r => p :: (l.pfxs ++ r.pfxs)
def T.ents : T → List EntM
  | .nil => []
  | .node _ p v th l r => (if th then [⟨p, v⟩] else []) ++ (l.ents ++ r.ents)
def T.forks : T → Nat
  | .nil => 0
  | .node _ _ _ th l r => (if th then 0 else 1) + (l.forks + r.forks)

def UnderP (h : PrefixM) (t : T) : Prop := ∀ q ∈ t.pfxs, cov h q
def Good : T → Prop
  | .nil => True
  | .node _ p _ th l r => okP p ∧ (th = false → l.isNil = false ∧ r.isNil = false) ∧ UnderP (kidP p 0) l ∧ UnderP (kidP p 1) r ∧ Good l ∧ Good r

theorem good_ok : ∀ {t : T}, Good t → ∀ x ∈ t.pfxs, okP x
  | .nil, _, x, hx => by simp [T.pfxs] at hx
  | .node _ p _ _ l r, h, x, hx => by
    obtain ⟨h1, _, _, _, h5, h6⟩ := h
    simp only [T.pfxs, List.mem_cons, List.mem_append] at hx
    rcases hx with rfl | hx | hx
    · exact h1
    · exact good_ok h5 x hx
    · exact good_ok h6 x hx
theorem kid_lt {p q : PrefixM} {k : Nat} (hq : okP q) (h : cov (kidP p k) q) : p.len < 32 := by
  have h1 : p.len + 1 ≤ q.len := h.1
  have := hq.bd
  omega
theorem good_kid {i : Nat} {p : PrefixM} {v : Int} {th : Bool} {l r : T} (h : Good (.node i p v th l r)) : (∀ x ∈ l.pfxs, cov (kidP p 0) x ∧ cov p x ∧ p.len < x.len) ∧ ∀ x ∈ r.pfxs, cov (kidP p 1) x ∧ cov p x ∧ p.len < x.len := by
  obtain ⟨h1, _, h3, h4, h5, h6⟩ := h
  constructor
  · intro x hx
    have hc := h3 x hx
    have hk := kid_lt (good_ok h5 x hx) hc
    exact ⟨hc, cov_trans h1 (kid_ok h1 hk (by decide)) (kid_cov h1 hk (by decide)) hc, by have h : p.len + 1 ≤ x.len := hc.1; omega⟩
  · intro x hx
    have hc := h4 x hx
    have hk := kid_lt (good_ok h6 x hx) hc
    exact ⟨hc, cov_trans h1 (kid_ok h1 hk (by decide)) (kid_cov h1 hk (by decide)) hc, by have h : p.len + 1 ≤ x.len := hc.1; omega⟩
theorem good_root {i : Nat} {p : PrefixM} {v : Int} {th : Bool} {l r : T} (h : Good (.node i p v th l r)) : ∀ x ∈ (T.node i p v th l r).pfxs, cov p x := by
  intro x hx
  simp only [T.pfxs, List.mem_cons, List.mem_append] at hx
  rcases hx with rfl | hx | hx
  · exact cov_refl _
  · exact ((good_kid h).1 x hx).2.1
  · exact ((good_kid h).2 x hx).2.1
theorem ents_pfxs : ∀ {t : T} {x : EntM}, x ∈ t.ents → x.p ∈ t.pfxs
  | .nil, x, h => by simp [T.ents] at h
  | .node _ p v th l r, x, h => by
    simp only [T.ents, List.mem_append] at h
    simp only [T.pfxs, List.mem_cons, List.mem_append]
    rcases h with h | h | h
    · split at h
      · simp only [List.mem_singleton] at h; subst h; exact .inl rfl
      · simp at h
    · exact .inr (.inl (ents_pfxs h))
    · exact .inr (.inr (ents_pfxs h))
theorem good_ne : ∀ {t : T}, Good t → t.isNil = false → t.ents ≠ []
  | .nil, _, h => by simp [T.isNil] at h
  | .node _ p v th l r, h, _ => by
    obtain ⟨_, h2, _, _, h5, _⟩ := h
    cases th with
    | true => simp [T.ents]
    | false =>
      have := good_ne h5 (h2 rfl).1
      simp [T.ents, this]

/-! ### Order -/
def befP (p q : PrefixM) : Prop := p.addr < q.addr ∨ (p.addr = q.addr ∧ p.len < q.len)
def befE (a b : EntM) : Prop := befP a.p b.p
theorem befP_irrefl (p : PrefixM) : ¬ befP p p := by unfold befP; omega
theorem befP_trans {p q r : PrefixM} (h : befP p q) (k : befP q r) : befP p r := by unfold befP at *; omega
theorem befP_asymm {p q : PrefixM} (h : befP p q) (k : befP q p) : False := befP_irrefl _ (befP_trans h k)
theorem befP_tri (p q : PrefixM) : befP p q ∨ p = q ∨ befP q p := by
  obtain ⟨a, l⟩ := p
  obtain ⟨b, m⟩ := q
  unfold befP
  simp only [PrefixM.mk.injEq]
  omega
theorem beforeB_iff (p q : PrefixM) : beforeB p q = true ↔ befP p q := by
  unfold beforeB befP
  split
  · rw [decide_eq_true_eq]; omega
  · rw [decide_eq_true_eq]; omega
theorem bef_cov {p q : PrefixM} (h : cov p q) (hl : p.len < q.len) : befP p q := by have := h.2.1; unfold befP; omega
theorem bef_halves {p x y : PrefixM} (hp : okP p) (hx : okP x) (h : cov (kidP p 0) x) (k : cov (kidP p 1) y) : befP x y := by
  have hl := kid_lt hx h
  have h1 := h.2.2
  have h2 := k.2.1
  rw [kid_sz hp hl] at h1
  unfold kidP at h1 h2
  simp only at h1 h2
  unfold befP
  omega
theorem good_sorted : ∀ {t : T}, Good t → t.ents.Pairwise befE
  | .nil, _ => by simp [T.ents]
  | .node _ p v th l r, h => by
    have hk := good_kid h
    obtain ⟨h1, h2, h3, h4, h5, h6⟩ := h
    have s1 := good_sorted h5
    have s2 := good_sorted h6
    simp only [T.ents]
    rw [List.pairwise_append, List.pairwise_append]
    refine ⟨by split <;> simp, ⟨s1, s2, fun a ha b hb => bef_halves h1 (good_ok h5 _ (ents_pfxs ha)) (hk.1 _ (ents_pfxs ha)).1 (hk.2 _ (ents_pfxs hb)).1⟩, ?_⟩
    intro a ha b hb
    split at ha
    · simp only [List.mem_singleton] at ha
      subst ha
      rcases List.mem_append.1 hb with hb | hb
      · exact bef_cov (hk.1 _ (ents_pfxs hb)).2.1 (hk.1 _ (ents_pfxs hb)).2.2
      · exact bef_cov (hk.2 _ (ents_pfxs hb)).2.1 (hk.2 _ (ents_pfxs hb)).2.2
    · simp at ha

/-! ### Numbers of nodes -/
structure AlM where
  n : Nat
  free : List Nat
def layA (s : AlM) : Nat := match s.free.getLast? with | some i => i | none => s.n
def layS (s : AlM) : AlM := match s.free.getLast? with | some _ => ⟨s.n, s.free.dropLast⟩ | none => ⟨s.n + 1, s.free⟩
theorem layS_n (s : AlM) : s.n ≤ (layS s).n ∧ (layS s).n ≤ s.n + 1 := by unfold layS; split <;> simp only <;> omega
def newIds (s s' : AlM) : List Nat := List.range' s.n (s'.n - s.n)
theorem newIds_self (s : AlM) (l : List Nat) : newIds s ⟨s.n, l⟩ = [] := by simp [newIds]
theorem newIds_add {a b c : AlM} (h : a.n ≤ b.n) (k : b.n ≤ c.n) : newIds a c = newIds a b ++ newIds b c := by
  unfold newIds
  have e := List.range'_append (s := a.n) (m := b.n - a.n) (n := c.n - b.n) (step := 1)
  rw [Nat.one_mul, show a.n + (b.n - a.n) = b.n by omega, show (b.n - a.n) + (c.n - b.n) = c.n - a.n by omega] at e
  exact e.symm
theorem lay_perm (s : AlM) : (layA s :: (layS s).free).Perm (s.free ++ newIds s (layS s)) := by
  unfold layA layS newIds
  cases h : s.free.getLast? with
  | some i =>
    simp only [Nat.sub_self, List.range'_zero, List.append_nil]
    obtain ⟨ys, e⟩ := List.getLast?_eq_some_iff.1 h
    rw [e, List.dropLast_concat]
    exact (List.perm_append_singleton i ys).symm
  | none =>
    have e : s.free = [] := by simpa using h
    rw [e]
    simp [show s.n + 1 - s.n = 1 by omega]

/-! ### put -/
structure PutR where
  t : T
  s : AlM
  new : Nat
def putT : T → PrefixM → Int → AlM → PutR
  | .nil, p, v, s => ⟨.node (layA s) p v true .nil .nil, layS s, 1⟩
  | .node i q w th l r, p, v, s =>
    if comN p q = heldN q.len then
      if comN p q = heldN p.len then ⟨.node i q v true l r, s, if th then 0 else 1⟩
      else if halfB p.addr (heldN q.len) = 0 then ⟨.node i q w th (putT l p v s).t r, (putT l p v s).s, (putT l p v s).new⟩
      else ⟨.node i q w th l (putT r p v s).t, (putT r p v s).s, (putT r p v s).new⟩
    else if comN p q = heldN p.len then
      ⟨if halfB q.addr (heldN p.len) = 0 then .node (layA s) p v true (.node i q w th l r) .nil else .node (layA s) p v true .nil (.node i q w th l r), layS s, 1⟩
    else
      ⟨if halfB q.addr (comN p q) = 0 then .node (layA (layS s)) (cutP p (comN p q)) 0 false (.node i q w th l r) (.node (layA s) p v true .nil .nil)
        else .node (layA (layS s)) (cutP p (comN p q)) 0 false (.node (layA s) p v true .nil .nil) (.node i q w th l r), layS (layS s), 1⟩

theorem put_some : ∀ (t : T) (p : PrefixM) (v : Int) (s : AlM), (putT t p v s).t.isNil = false
  | .nil, _, _, _ => rfl
  | .node _ q _ _ l r, p, _, _ => by
    unfold putT
    split
    · split
      · rfl
      · split <;> rfl
    · split
      · simp only; split <;> rfl
      · simp only; split <;> rfl
theorem put_pos {q p : PrefixM} (hp : okP p) (hq : okP q) (h1 : comN p q = heldN q.len) (h2 : ¬ comN p q = heldN p.len) : cov q p ∧ q.len < p.len := by
  have hc := (com_cov hp hq).1 h1
  refine ⟨hc, cov_len hq hp hc ?_⟩
  rintro rfl
  exact h2 h1
theorem put_up {q p : PrefixM} (hp : okP p) (hq : okP q) (h1 : ¬ comN p q = heldN q.len) (h2 : comN p q = heldN p.len) : cov p q ∧ p.len < q.len := by
  have hc := (com_cov hq hp).1 (by rw [com_comm]; exact h2)
  refine ⟨hc, cov_len hp hq hc ?_⟩
  rintro rfl
  exact h1 h2
theorem fork_facts {q p : PrefixM} (hp : okP p) (hq : okP q) (h1 : ¬ comN p q = heldN q.len) (h2 : ¬ comN p q = heldN p.len) :
    okP (cutP p (comN p q)) ∧ (cutP p (comN p q)).len < 32 ∧ heldN (cutP p (comN p q)).len = comN p q ∧ cov (cutP p (comN p q)) p ∧ cov (cutP p (comN p q)) q ∧ (cutP p (comN p q)).len < p.len ∧ (cutP p (comN p q)).len < q.len := by
  have hc := com_le (p := p) (q := q)
  have h32 := heldN_le p.len
  have hp2 := hp.cast; have hq2 := hq.cast
  refine ⟨cutP_ok hp (by omega), ?_, cutP_held (by omega), cutP_cov hp hc.1, cutP_cov2 hp hq (Nat.le_refl _), ?_, ?_⟩ <;> rw [cutP_len (by omega)] <;> omega

theorem under_up {h p : PrefixM} (hh : okP h) (hp : okP p) {t : T} (k : UnderP p t) (hc : cov h p) : UnderP h t := fun x hx => cov_trans hh hp hc (k x hx)
theorem good_under {i : Nat} {p : PrefixM} {v : Int} {th : Bool} {l r : T} (h : Good (.node i p v th l r)) : UnderP p (.node i p v th l r) := good_root h
theorem under_half {f q : PrefixM} {t : T} (hf : okP f) (hq : okP q) (hc : cov f q) (hl : f.len < q.len) (hu : UnderP q t) {k : Nat} (hk : k = halfB q.addr (heldN f.len)) : UnderP (kidP f k) t := by
  subst hk
  have h32 : f.len < 32 := by have := hq.bd; omega
  have hk := halfB_lt q.addr (heldN f.len)
  exact under_up (kid_ok hf h32 (by omega)) hq hu (cov_kid hf hq hc hl)
theorem under_leaf {f p : PrefixM} {i : Nat} {v : Int} {th : Bool} (h : cov f p) : UnderP f (.node i p v th .nil .nil) := by
  intro x hx
  simp only [T.pfxs, List.append_nil, List.mem_cons, List.not_mem_nil, or_false] at hx
  subst hx; exact h
theorem good_leaf {p : PrefixM} (hp : okP p) (i : Nat) (v : Int) : Good (.node i p v true .nil .nil) :=
  ⟨hp, fun h => by simp at h, fun x hx => by simp [T.pfxs] at hx, fun x hx => by simp [T.pfxs] at hx, trivial, trivial⟩
theorem under_nil (h : PrefixM) : UnderP h .nil := fun x hx => by simp [T.pfxs] at hx

theorem good_put {p : PrefixM} (hp : okP p) (v : Int) : ∀ {t : T} (s : AlM), Good t → Good (putT t p v s).t ∧ ∀ h, okP h → UnderP h t → cov h p → UnderP h (putT t p v s).t
  | .nil, s, _ => ⟨good_leaf hp _ _, fun h _ _ hc => under_leaf hc⟩
  | .node i q w th l r, s, hg => by
    have hgl := hg
    have hkk := good_kid hg
    obtain ⟨hq, h2, h3, h4, h5, h6⟩ := hg
    unfold putT
    by_cases c1 : comN p q = heldN q.len
    · rw [if_pos c1]
      by_cases c2 : comN p q = heldN p.len
      · rw [if_pos c2]
        exact ⟨⟨hq, fun h => by simp at h, h3, h4, h5, h6⟩, fun h _ hu _ => hu⟩
      · rw [if_neg c2]
        obtain ⟨hc, hl⟩ := put_pos hp hq c1 c2
        have h32 : q.len < 32 := by have := hp.bd; omega
        by_cases c3 : halfB p.addr (heldN q.len) = 0
        · rw [if_pos c3]
          obtain ⟨g1, g2⟩ := good_put hp v s h5
          refine ⟨⟨hq, fun h => ⟨put_some _ _ _ _, (h2 h).2⟩, ?_, h4, g1, h6⟩, fun h ho hu hcp => ?_⟩
          · refine g2 _ (kid_ok hq h32 (by decide)) h3 ?_
            have := cov_kid hq hp hc hl
            rwa [c3] at this
          · intro x hx
            simp only [T.pfxs, List.mem_cons, List.mem_append] at hx
            rcases hx with rfl | hx | hx
            · exact hu _ (by simp [T.pfxs])
            · exact g2 h ho (fun y hy => hu y (by simp [T.pfxs, hy])) hcp x hx
            · exact hu _ (by simp [T.pfxs, hx])
        · rw [if_neg c3]
          have c4 : halfB p.addr (heldN q.len) = 1 := by have := halfB_lt p.addr (heldN q.len); omega
          obtain ⟨g1, g2⟩ := good_put hp v s h6
          refine ⟨⟨hq, fun h => ⟨(h2 h).1, put_some _ _ _ _⟩, h3, ?_, h5, g1⟩, fun h ho hu hcp => ?_⟩
          · refine g2 _ (kid_ok hq h32 (by decide)) h4 ?_
            have := cov_kid hq hp hc hl
            rwa [c4] at this
          · intro x hx
            simp only [T.pfxs, List.mem_cons, List.mem_append] at hx
            rcases hx with rfl | hx | hx
            · exact hu _ (by simp [T.pfxs])
            · exact hu _ (by simp [T.pfxs, hx])
            · exact g2 h ho (fun y hy => hu y (by simp [T.pfxs, hy])) hcp x hx
    · rw [if_neg c1]
      by_cases c2 : comN p q = heldN p.len
      · rw [if_pos c2]
        obtain ⟨hc, hl⟩ := put_up hp hq c1 c2
        have hu := good_under hgl
        by_cases c3 : halfB q.addr (heldN p.len) = 0
        · rw [if_pos c3]
          refine ⟨⟨hp, fun h => by simp at h, under_half hp hq hc hl hu c3.symm, under_nil _, hgl, trivial⟩, fun h ho hu' hcp => ?_⟩
          intro x hx
          rw [T.pfxs] at hx
          rcases List.mem_cons.1 hx with rfl | hx
          · exact hcp
          · simp only [T.pfxs, List.append_nil] at hx; exact hu' x hx
        · rw [if_neg c3]
          have c4 : halfB q.addr (heldN p.len) = 1 := by have := halfB_lt q.addr (heldN p.len); omega
          refine ⟨⟨hp, fun h => by simp at h, under_nil _, under_half hp hq hc hl hu c4.symm, trivial, hgl⟩, fun h ho hu' hcp => ?_⟩
          intro x hx
          rw [T.pfxs] at hx
          rcases List.mem_cons.1 hx with rfl | hx
          · exact hcp
          · simp only [T.pfxs, List.nil_append] at hx; exact hu' x hx
      · rw [if_neg c2]
        obtain ⟨hf, hf32, hfh, hfp, hfq, hlp, hlq⟩ := fork_facts hp hq c1 c2
        have hu := good_under hgl
        have hne := com_fork hp hq c2 c1
        have hlA := halfB_lt q.addr (comN p q); have hlB := halfB_lt p.addr (comN p q)
        have hup : ∀ h, okP h → cov h q → cov h p → cov h (cutP p (comN p q)) := by
          intro h ho a b
          have e1 := (com_cov hp ho).2 b
          have e2 := (com_cov hq ho).2 a
          have hn : heldN h.len ≤ comN p q := by
            have hh := heldN_le h.len
            unfold comN at *
            have k1 : heldN h.len ≤ lzN p.addr q.addr := by
              rw [lzN_iff hp.lt hq.lt hh]
              have d1 := (lzN_iff hp.lt ho.lt hh).1 (by omega)
              have d2 := (lzN_iff hq.lt ho.lt hh).1 (by omega)
              rw [d1, d2]
            omega
          have hci := (cutP_in hp (n := heldN h.len) (heldN_le _) (a := (cutP p (comN p q)).addr) hf.lt).1
          refine ⟨?_, ?_⟩
          · have := ho.cast; have := hf.cast; omega
          · have h1 := cutP_of_cov ho hp b
            have h2 : cov (cutP p (heldN h.len)) (cutP p (comN p q)) := by
              rcases nest (p := cutP p (heldN h.len)) (q := cutP p (comN p q)) (by rw [h1]; exact ho) hf (by rw [h1]; have := ho.cast; have := hf.cast; omega) with k | k | k
              · exact k
              · exfalso; have := hfp.2; rw [h1] at k; have := b.2; unfold inP at *; omega
              · exfalso; have := hfp.2; rw [h1] at k; have := b.2; unfold inP at *; omega
            rw [h1] at h2; exact h2.2
        by_cases c3 : halfB q.addr (comN p q) = 0
        · rw [if_pos c3]
          refine ⟨⟨hf, fun _ => ⟨rfl, rfl⟩, under_half hf hq hfq hlq hu (by rw [hfh]; exact c3.symm), ?_, hgl, good_leaf hp _ _⟩, fun h ho hu' hcp => ?_⟩
          · have := cov_kid hf hp hfp hlp
            rw [hfh, show halfB p.addr (comN p q) = 1 by omega] at this
            exact under_leaf this
          · intro x hx
            rw [T.pfxs] at hx
            rcases List.mem_cons.1 hx with rfl | hx
            · exact hup h ho (hu' q (by simp [T.pfxs])) hcp
            · rcases List.mem_append.1 hx with hx | hx
              · exact hu' x hx
              · exact under_leaf (i := layA s) (v := v) (th := true) hcp x hx
        · rw [if_neg c3]
          refine ⟨⟨hf, fun _ => ⟨rfl, rfl⟩, ?_, under_half hf hq hfq hlq hu (by rw [hfh]; omega), good_leaf hp _ _, hgl⟩, fun h ho hu' hcp => ?_⟩
          · have := cov_kid hf hp hfp hlp
            rw [hfh, show halfB p.addr (comN p q) = 0 by omega] at this
            exact under_leaf this
          · intro x hx
            rw [T.pfxs] at hx
            rcases List.mem_cons.1 hx with rfl | hx
            · exact hup h ho (hu' q (by simp [T.pfxs])) hcp
            · rcases List.mem_append.1 hx with hx | hx
              · exact under_leaf (i := layA s) (v := v) (th := true) hcp x hx
              · exact hu' x hx

theorem not_below {p q : PrefixM} {t : T} (hu : UnderP q t) (hl : p.len < q.len) {x : EntM} (hx : x ∈ t.ents) : x.p ≠ p := by
  rintro rfl
  have h : q.len ≤ x.p.len := (hu _ (ents_pfxs hx)).1
  omega
theorem mem_put {p : PrefixM} (hp : okP p) (v : Int) : ∀ {t : T} (s : AlM), Good t → ∀ x : EntM, x ∈ (putT t p v s).t.ents ↔ x = ⟨p, v⟩ ∨ (x ∈ t.ents ∧ x.p ≠ p)
  | .nil, s, _, x => by simp [putT, T.ents]
  | .node i q w th l r, s, hg, x => by
    have hgl := hg
    have hkk := good_kid hg
    have hu := good_under hg
    obtain ⟨hq, h2, h3, h4, h5, h6⟩ := hg
    unfold putT
    by_cases c1 : comN p q = heldN q.len
    · rw [if_pos c1]
      by_cases c2 : comN p q = heldN p.len
      · rw [if_pos c2]
        have hpq : q = p := cov_antisymm hq hp ((com_cov hp hq).1 c1) ((com_cov hq hp).1 (by rw [com_comm]; exact c2))
        subst hpq
        have n1 : x ∈ l.ents → x.p ≠ q := fun hx e => by have := (hkk.1 _ (ents_pfxs hx)).2.2; rw [e] at this; omega
        have n2 : x ∈ r.ents → x.p ≠ q := fun hx e => by have := (hkk.2 _ (ents_pfxs hx)).2.2; rw [e] at this; omega
        simp only [T.ents, if_true, List.singleton_append, List.mem_cons, List.mem_append]
        constructor
        · rintro (h | h | h)
          · exact .inl h
          · exact .inr ⟨.inr (.inl h), n1 h⟩
          · exact .inr ⟨.inr (.inr h), n2 h⟩
        · rintro (h | ⟨h | h | h, hne⟩)
          · exact .inl h
          · split at h
            · simp only [List.mem_singleton] at h; subst h; exact absurd rfl hne
            · simp at h
          · exact .inr (.inl h)
          · exact .inr (.inr h)
      · rw [if_neg c2]
        obtain ⟨hc, hl⟩ := put_pos hp hq c1 c2
        have h32 : q.len < 32 := by have := hp.bd; omega
        have n0 : x ∈ (if th then [(⟨q, w⟩ : EntM)] else []) → x.p ≠ p := fun hx e => by
          split at hx
          · simp only [List.mem_singleton] at hx; subst hx; simp only at e; subst e; omega
          · simp at hx
        by_cases c3 : halfB p.addr (heldN q.len) = 0
        · rw [if_pos c3]
          have n2 : x ∈ r.ents → x.p ≠ p := fun hx e => by
            have := kid_half hq h32 (by decide) (hkk.2 _ (ents_pfxs hx)).1
            rw [e, c3] at this; simp at this
          have ih := mem_put hp v s h5 x
          simp only [T.ents, List.mem_append, ih]
          constructor
          · rintro (h | (h | ⟨h, h'⟩) | h)
            · exact .inr ⟨.inl h, n0 h⟩
            · exact .inl h
            · exact .inr ⟨.inr (.inl h), h'⟩
            · exact .inr ⟨.inr (.inr h), n2 h⟩
          · rintro (h | ⟨h | h | h, hne⟩)
            · exact .inr (.inl (.inl h))
            · exact .inl h
            · exact .inr (.inl (.inr ⟨h, hne⟩))
            · exact .inr (.inr h)
        · rw [if_neg c3]
          have n1 : x ∈ l.ents → x.p ≠ p := fun hx e => by
            have := kid_half hq h32 (by decide) (hkk.1 _ (ents_pfxs hx)).1
            rw [e] at this; exact c3 this
          have ih := mem_put hp v s h6 x
          simp only [T.ents, List.mem_append, ih]
          constructor
          · rintro (h | h | (h | ⟨h, h'⟩))
            · exact .inr ⟨.inl h, n0 h⟩
            · exact .inr ⟨.inr (.inl h), n1 h⟩
            · exact .inl h
            · exact .inr ⟨.inr (.inr h), h'⟩
          · rintro (h | ⟨h | h | h, hne⟩)
            · exact .inr (.inr (.inl h))
            · exact .inl h
            · exact .inr (.inl h)
            · exact .inr (.inr (.inr ⟨h, hne⟩))
    · rw [if_neg c1]
      by_cases c2 : comN p q = heldN p.len
      · rw [if_pos c2]
        obtain ⟨hc, hl⟩ := put_up hp hq c1 c2
        have n0 : x ∈ (T.node i q w th l r).ents → x.p ≠ p := fun hx => not_below hu hl hx
        have e : (if halfB q.addr (heldN p.len) = 0 then T.node (layA s) p v true (.node i q w th l r) .nil else .node (layA s) p v true .nil (.node i q w th l r)).ents = ⟨p, v⟩ :: (T.node i q w th l r).ents := by
          split <;> rw [T.ents] <;> simp [T.ents]
        simp only [e, List.mem_cons]
        constructor
        · rintro (h | h)
          · exact .inl h
          · exact .inr ⟨h, n0 h⟩
        · rintro (h | ⟨h, _⟩)
          · exact .inl h
          · exact .inr h
      · rw [if_neg c2]
        have n0 : x ∈ (T.node i q w th l r).ents → x.p ≠ p := fun hx e => by
          have := hu _ (ents_pfxs hx)
          rw [e] at this
          exact c1 ((com_cov hp hq).2 this)
        have e : x ∈ (if halfB q.addr (comN p q) = 0 then T.node (layA (layS s)) (cutP p (comN p q)) 0 false (.node i q w th l r) (.node (layA s) p v true .nil .nil)
            else .node (layA (layS s)) (cutP p (comN p q)) 0 false (.node (layA s) p v true .nil .nil) (.node i q w th l r)).ents ↔ x = ⟨p, v⟩ ∨ x ∈ (T.node i q w th l r).ents := by
          have e1 : ∀ A B : T, (T.node (layA (layS s)) (cutP p (comN p q)) 0 false A B).ents = A.ents ++ B.ents := fun A B => by simp [T.ents]
          have e2 : (T.node (layA s) p v true .nil .nil).ents = [⟨p, v⟩] := by simp [T.ents]
          split <;> rw [e1, e2, List.mem_append, List.mem_singleton]
          exact Or.comm
        rw [e]
        constructor
        · rintro (h | h)
          · exact .inl h
          · exact .inr ⟨h, n0 h⟩
        · rintro (h | ⟨h, _⟩)
          · exact .inl h
          · exact .inr h
theorem put_length (p : PrefixM) (v : Int) : ∀ (t : T) (s : AlM), (putT t p v s).t.ents.length = t.ents.length + (putT t p v s).new
  | .nil, s => by simp [putT, T.ents]
  | .node i q w th l r, s => by
    have ih1 := put_length p v l s
    have ih2 := put_length p v r s
    unfold putT
    split
    · split
      · simp only [T.ents, List.length_append]; cases th <;> simp; omega
      · split <;> simp only [T.ents, List.length_append] <;> omega
    · split
      · simp only; split <;> simp [T.ents] <;> omega
      · simp only; split <;> simp [T.ents] <;> omega
theorem put_n (p : PrefixM) (v : Int) : ∀ (t : T) (s : AlM), s.n ≤ (putT t p v s).s.n ∧ (putT t p v s).s.n ≤ s.n + 2
  | .nil, s => by have := layS_n s; simp only [putT]; omega
  | .node i q w th l r, s => by
    have ih1 := put_n p v l s
    have ih2 := put_n p v r s
    have h1 := layS_n s
    have h2 := layS_n (layS s)
    unfold putT
    split
    · split
      · simp only; omega
      · split <;> simp only <;> omega
    · split <;> simp only <;> omega
theorem put_perm (p : PrefixM) (v : Int) : ∀ (t : T) (s : AlM), ((putT t p v s).t.ids ++ (putT t p v s).s.free).Perm (t.ids ++ (s.free ++ newIds s (putT t p v s).s))
  | .nil, s => by
    simp only [putT, T.ids, List.append_nil, List.nil_append, List.singleton_append]
    exact lay_perm s
  | .node i q w th l r, s => by
    have ih1 := put_perm p v l s
    have ih2 := put_perm p v r s
    have n1 := layS_n s
    have n2 := layS_n (layS s)
    unfold putT
    by_cases c1 : comN p q = heldN q.len
    · rw [if_pos c1]
      by_cases c2 : comN p q = heldN p.len
      · rw [if_pos c2]
        simp only [T.ids]
        rw [show newIds s s = [] from newIds_self s s.free, List.append_nil]
      · rw [if_neg c2]
        by_cases c3 : halfB p.addr (heldN q.len) = 0
        · rw [if_pos c3]
          simp only [T.ids, List.cons_append, List.append_assoc]
          refine List.Perm.cons _ ?_
          generalize putT l p v s = X at *
          refine List.Perm.trans (List.perm_append_left_iff _ |>.2 List.perm_append_comm) ?_
          rw [← List.append_assoc]
          refine List.Perm.trans (ih1.append_right _) ?_
          rw [List.append_assoc]
          exact List.perm_append_left_iff _ |>.2 List.perm_append_comm
        · rw [if_neg c3]
          simp only [T.ids, List.cons_append, List.append_assoc]
          exact List.Perm.cons _ (ih2.append_left _)
    · rw [if_neg c1]
      by_cases c2 : comN p q = heldN p.len
      · rw [if_pos c2]
        have e : (if halfB q.addr (heldN p.len) = 0 then T.node (layA s) p v true (.node i q w th l r) .nil else .node (layA s) p v true .nil (.node i q w th l r)).ids = layA s :: (T.node i q w th l r).ids := by
          split <;> rw [T.ids] <;> simp [T.ids]
        simp only [e, List.cons_append]
        refine List.Perm.trans (List.perm_middle).symm ?_
        exact (lay_perm s).append_left _
      · rw [if_neg c2]
        have e1 : (T.node (layA s) p v true .nil .nil).ids = [layA s] := by simp [T.ids]
        have e : (if halfB q.addr (comN p q) = 0 then T.node (layA (layS s)) (cutP p (comN p q)) 0 false (.node i q w th l r) (.node (layA s) p v true .nil .nil)
            else .node (layA (layS s)) (cutP p (comN p q)) 0 false (.node (layA s) p v true .nil .nil) (.node i q w th l r)).ids.Perm ((T.node i q w th l r).ids ++ [layA s, layA (layS s)]) := by
          generalize T.node i q w th l r = X
          split
          · rw [T.ids, e1]
            refine List.Perm.trans (List.perm_append_singleton _ _).symm ?_
            rw [List.append_assoc]; rfl
          · rw [T.ids, e1]
            simp only [List.singleton_append]
            refine List.Perm.trans (List.Perm.swap _ _ _) ?_
            exact List.perm_append_comm (l₁ := [layA s, layA (layS s)])
        refine List.Perm.trans (e.append_right _) ?_
        rw [List.append_assoc, newIds_add n1.1 n2.1, ← List.append_assoc s.free]
        refine List.Perm.append_left _ ?_
        simp only [List.cons_append, List.nil_append]
        refine List.Perm.trans ((lay_perm (layS s)).cons _) ?_
        rw [← List.cons_append]
        exact (lay_perm s).append_right _
end Go.Proofs.Ytgjabgneapdbiaa

namespace Go.Proofs.Ytgjabgneapdbiaa
set_option linter.unusedSimpArgs false
set_option linter.unusedVariables false

/-! ### cut -/
structure CutR where
  t : T
  s : AlM
  was : Bool
def shrT (i : Nat) (p : PrefixM) (v : Int) (th : Bool) (l r : T) (s : AlM) (was : Bool) : CutR :=
  if th || (!l.isNil && !r.isNil) then ⟨.node i p v th l r, s, was⟩ else ⟨if l.isNil then r else l, ⟨s.n, s.free ++ [i]⟩, was⟩
def cutT : T → PrefixM → AlM → CutR
  | .nil, _, s => ⟨.nil, s, false⟩
  | .node i q w th l r, p, s =>
    if covB q p = false then ⟨.node i q w th l r, s, false⟩
    else if q = p then shrT i q w false l r s th
    else if halfB p.addr (heldN q.len) = 0 then shrT i q w th (cutT l p s).t r (cutT l p s).s (cutT l p s).was
    else shrT i q w th l (cutT r p s).t (cutT r p s).s (cutT r p s).was

theorem nil_of {t : T} (h : t.isNil = true) : t = .nil := by cases t <;> simp_all [T.isNil]
theorem shr_good {i : Nat} {p : PrefixM} {v : Int} {th : Bool} {l r : T} (s : AlM) (was : Bool) (hp : okP p) (h3 : UnderP (kidP p 0) l) (h4 : UnderP (kidP p 1) r) (h5 : Good l) (h6 : Good r) :
    Good (shrT i p v th l r s was).t ∧ (∀ x ∈ (shrT i p v th l r s was).t.pfxs, x ∈ (T.node i p v th l r).pfxs) ∧ (∀ x, x ∈ (shrT i p v th l r s was).t.ents ↔ x ∈ (T.node i p v th l r).ents) ∧ (shrT i p v th l r s was).t.ents.length = (T.node i p v th l r).ents.length := by
  unfold shrT
  cases hth : th with
  | true =>
    simp only [Bool.true_or, if_true]
    exact ⟨⟨hp, fun h => by simp at h, h3, h4, h5, h6⟩, fun _ h => h, fun _ => by simp, by simp⟩
  | false =>
    cases hl : l.isNil with
    | true =>
      have := nil_of hl
      subst this
      simp only [Bool.false_or, Bool.not_true, Bool.false_and, Bool.false_eq_true, if_false, if_true]
      exact ⟨h6, fun x hx => by simp [T.pfxs, hx], fun x => by simp [T.ents], by simp [T.ents]⟩
    | false =>
      cases hr : r.isNil with
      | true =>
        have := nil_of hr
        subst this
        simp only [Bool.false_or, Bool.not_true, Bool.and_false, Bool.false_eq_true, if_false]
        exact ⟨h5, fun x hx => by simp [T.pfxs, hx], fun x => by simp [T.ents], by simp [T.ents]⟩
      | false =>
        simp only [Bool.false_or, Bool.not_false, Bool.and_self, if_true]
        exact ⟨⟨hp, fun _ => ⟨hl, hr⟩, h3, h4, h5, h6⟩, fun _ h => h, fun _ => by simp, by simp⟩
theorem shr_was (i : Nat) (p : PrefixM) (v : Int) (th : Bool) (l r : T) (s : AlM) (was : Bool) : (shrT i p v th l r s was).was = was := by unfold shrT; split <;> rfl
theorem shr_s {i : Nat} {p : PrefixM} {v : Int} {th : Bool} {l r : T} (s : AlM) (was : Bool) : (shrT i p v th l r s was).s.n = s.n ∧ ((shrT i p v th l r s was).t.ids ++ (shrT i p v th l r s was).s.free).Perm ((T.node i p v th l r).ids ++ s.free) := by
  unfold shrT
  split
  · exact ⟨rfl, List.Perm.refl _⟩
  · rename_i h
    refine ⟨rfl, ?_⟩
    have hn : l.isNil = true ∨ r.isNil = true := by
      cases hl : l.isNil <;> cases hr : r.isNil <;> simp_all
    have e : ∀ X : List Nat, (X ++ (s.free ++ [i])).Perm (i :: X ++ s.free) := fun X => by
      rw [← List.append_assoc]
      exact (List.perm_append_singleton i (X ++ s.free))
    rcases hn with hn | hn
    · rw [if_pos hn]
      have := nil_of hn
      subst this
      simp only [T.ids, List.nil_append]
      exact e _
    · have := nil_of hn
      subst this
      cases hl : l.isNil with
      | true =>
        have := nil_of hl
        subst this
        simp only [if_true, T.ids, List.nil_append]
        exact e []
      | false =>
        simp only [Bool.false_eq_true, if_false, T.ids, List.append_nil]
        exact e _

theorem cut_good {p : PrefixM} (hp : okP p) : ∀ {t : T} (s : AlM), Good t → Good (cutT t p s).t ∧ (∀ x ∈ (cutT t p s).t.pfxs, x ∈ t.pfxs) ∧ (∀ x : EntM, x ∈ (cutT t p s).t.ents ↔ x ∈ t.ents ∧ x.p ≠ p) ∧ ((cutT t p s).was = true ↔ ∃ x ∈ t.ents, x.p = p) ∧
    (cutT t p s).t.ents.length + (if (cutT t p s).was then 1 else 0) = t.ents.length
  | .nil, s, h => by simp [cutT, T.ents, T.pfxs, Good]
  | .node i q w th l r, s, hg => by
    have hgl := hg
    have hkk := good_kid hg
    have hu := good_under hg
    obtain ⟨hq, h2, h3, h4, h5, h6⟩ := hg
    unfold cutT
    cases hc : covB q p with
    | false =>
      simp only [if_true]
      have hno : ∀ x : EntM, x ∈ (T.node i q w th l r).ents → x.p ≠ p := fun x hx e => by
        have := hu _ (ents_pfxs hx)
        rw [e, ← covB_iff hq hp, hc] at this
        simp at this
      refine ⟨hgl, fun _ h => h, fun x => ⟨fun h => ⟨h, hno x h⟩, fun h => h.1⟩, ?_, by simp⟩
      simp only [Bool.false_eq_true, false_iff]
      rintro ⟨x, hx, e⟩
      exact hno x hx e
    | true =>
      have hcv := (covB_iff hq hp).1 hc
      simp only [Bool.true_eq_false, if_false]
      by_cases hqp : q = p
      · rw [if_pos hqp]
        subst hqp
        obtain ⟨g1, g2, g3, g4⟩ := shr_good (i := i) (v := w) (th := false) s th hq h3 h4 h5 h6
        have n1 : ∀ x : EntM, x ∈ l.ents → x.p ≠ q := fun x hx e => by have := (hkk.1 _ (ents_pfxs hx)).2.2; rw [e] at this; omega
        have n2 : ∀ x : EntM, x ∈ r.ents → x.p ≠ q := fun x hx e => by have := (hkk.2 _ (ents_pfxs hx)).2.2; rw [e] at this; omega
        refine ⟨g1, fun x hx => by have := g2 x hx; simpa [T.pfxs] using this, fun x => ?_, ?_, ?_⟩
        · rw [g3]
          simp only [T.ents, Bool.false_eq_true, if_false, List.nil_append, List.mem_append]
          constructor
          · rintro (h | h)
            · exact ⟨.inr (.inl h), n1 x h⟩
            · exact ⟨.inr (.inr h), n2 x h⟩
          · rintro ⟨h | h | h, hne⟩
            · split at h
              · simp only [List.mem_singleton] at h; subst h; exact absurd rfl hne
              · simp at h
            · exact .inl h
            · exact .inr h
        · rw [shr_was]
          constructor
          · intro h; exact ⟨⟨q, w⟩, by simp [T.ents, h], rfl⟩
          · rintro ⟨x, hx, e⟩
            simp only [T.ents, List.mem_append] at hx
            rcases hx with h | h | h
            · split at h
              · assumption
              · simp at h
            · exact absurd e (n1 x h)
            · exact absurd e (n2 x h)
        · rw [shr_was, g4]
          simp only [T.ents, List.length_append, Bool.false_eq_true, if_false, List.length_nil]
          cases th <;> simp; omega
      · rw [if_neg hqp]
        have hl := cov_len hq hp hcv hqp
        have h32 : q.len < 32 := by have := hp.bd; omega
        have n0 : ∀ x : EntM, x ∈ (if th then [(⟨q, w⟩ : EntM)] else []) → x.p ≠ p := fun x hx e => by
          split at hx
          · simp only [List.mem_singleton] at hx; subst hx; exact hqp e
          · simp at hx
        by_cases c3 : halfB p.addr (heldN q.len) = 0
        · rw [if_pos c3]
          have n2 : ∀ x : EntM, x ∈ r.ents → x.p ≠ p := fun x hx e => by
            have := kid_half hq h32 (by decide) (hkk.2 _ (ents_pfxs hx)).1
            rw [e, c3] at this; simp at this
          obtain ⟨k1, k2, k3, k4, k5⟩ := cut_good hp s h5
          obtain ⟨g1, g2, g3, g4⟩ := shr_good (i := i) (v := w) (th := th) (cutT l p s).s (cutT l p s).was hq (fun x hx => h3 x (k2 x hx)) h4 k1 h6
          refine ⟨g1, fun x hx => ?_, fun x => ?_, ?_, ?_⟩
          · have := g2 x hx
            simp only [T.pfxs, List.mem_cons, List.mem_append] at this ⊢
            rcases this with h | h | h
            · exact .inl h
            · exact .inr (.inl (k2 x h))
            · exact .inr (.inr h)
          · rw [g3]
            simp only [T.ents, List.mem_append, k3]
            constructor
            · rintro (h | ⟨h, h'⟩ | h)
              · exact ⟨.inl h, n0 x h⟩
              · exact ⟨.inr (.inl h), h'⟩
              · exact ⟨.inr (.inr h), n2 x h⟩
            · rintro ⟨h | h | h, hne⟩
              · exact .inl h
              · exact .inr (.inl ⟨h, hne⟩)
              · exact .inr (.inr h)
          · rw [shr_was, k4]
            simp only [T.ents, List.mem_append]
            constructor
            · rintro ⟨x, hx, e⟩; exact ⟨x, .inr (.inl hx), e⟩
            · rintro ⟨x, h | h | h, e⟩
              · exact absurd e (n0 x h)
              · exact ⟨x, h, e⟩
              · exact absurd e (n2 x h)
          · rw [shr_was, g4]
            simp only [T.ents, List.length_append]
            omega
        · rw [if_neg c3]
          have n1 : ∀ x : EntM, x ∈ l.ents → x.p ≠ p := fun x hx e => by
            have := kid_half hq h32 (by decide) (hkk.1 _ (ents_pfxs hx)).1
            rw [e] at this; exact c3 this
          obtain ⟨k1, k2, k3, k4, k5⟩ := cut_good hp s h6
          obtain ⟨g1, g2, g3, g4⟩ := shr_good (i := i) (v := w) (th := th) (cutT r p s).s (cutT r p s).was hq h3 (fun x hx => h4 x (k2 x hx)) h5 k1
          refine ⟨g1, fun x hx => ?_, fun x => ?_, ?_, ?_⟩
          · have := g2 x hx
            simp only [T.pfxs, List.mem_cons, List.mem_append] at this ⊢
            rcases this with h | h | h
            · exact .inl h
            · exact .inr (.inl h)
            · exact .inr (.inr (k2 x h))
          · rw [g3]
            simp only [T.ents, List.mem_append, k3]
            constructor
            · rintro (h | h | ⟨h, h'⟩)
              · exact ⟨.inl h, n0 x h⟩
              · exact ⟨.inr (.inl h), n1 x h⟩
              · exact ⟨.inr (.inr h), h'⟩
            · rintro ⟨h | h | h, hne⟩
              · exact .inl h
              · exact .inr (.inl h)
              · exact .inr (.inr ⟨h, hne⟩)
          · rw [shr_was, k4]
            simp only [T.ents, List.mem_append]
            constructor
            · rintro ⟨x, hx, e⟩; exact ⟨x, .inr (.inr hx), e⟩
            · rintro ⟨x, h | h | h, e⟩
              · exact absurd e (n0 x h)
              · exact absurd e (n1 x h)
              · exact ⟨x, h, e⟩
          · rw [shr_was, g4]
            simp only [T.ents, List.length_append]
            omega
theorem cut_perm (p : PrefixM) : ∀ (t : T) (s : AlM), (cutT t p s).s.n = s.n ∧ ((cutT t p s).t.ids ++ (cutT t p s).s.free).Perm (t.ids ++ s.free)
  | .nil, s => by simp [cutT]
  | .node i q w th l r, s => by
    obtain ⟨a1, a2⟩ := cut_perm p l s
    obtain ⟨b1, b2⟩ := cut_perm p r s
    unfold cutT
    split
    · exact ⟨rfl, List.Perm.refl _⟩
    · split
      · have := shr_s (i := i) (p := q) (v := w) (th := false) (l := l) (r := r) s th
        exact ⟨this.1, this.2⟩
      · split
        · have := shr_s (i := i) (p := q) (v := w) (th := th) (l := (cutT l p s).t) (r := r) (cutT l p s).s (cutT l p s).was
          refine ⟨this.1.trans a1, this.2.trans ?_⟩
          simp only [T.ids, List.cons_append, List.append_assoc]
          refine List.Perm.cons _ ?_
          refine List.Perm.trans (List.perm_append_left_iff _ |>.2 List.perm_append_comm) ?_
          rw [← List.append_assoc]
          refine List.Perm.trans (a2.append_right _) ?_
          rw [List.append_assoc]
          exact List.perm_append_left_iff _ |>.2 List.perm_append_comm
        · have := shr_s (i := i) (p := q) (v := w) (th := th) (l := l) (r := (cutT r p s).t) (cutT r p s).s (cutT r p s).was
          refine ⟨this.1.trans b1, this.2.trans ?_⟩
          simp only [T.ids, List.cons_append, List.append_assoc]
          exact List.Perm.cons _ (b2.append_left _)

/-! ### path -/
def pathT : T → PrefixM → List EntM
  | .nil, _ => []
  | .node _ q w th l r, p =>
    if covB q p then (if th then [⟨q, w⟩] else []) ++ (if q.len = p.len then [] else if halfB p.addr (heldN q.len) = 0 then pathT l p else pathT r p) else []
theorem path_eq {p : PrefixM} (hp : okP p) : ∀ {t : T}, Good t → pathT t p = t.ents.filter (fun e => covB e.p p)
  | .nil, _ => rfl
  | .node i q w th l r, hg => by
    have hkk := good_kid hg
    have hu := good_under hg
    have hok := good_ok hg
    obtain ⟨hq, h2, h3, h4, h5, h6⟩ := hg
    have none_of : ∀ L : List EntM, (∀ x ∈ L, covB x.p p = false) → L.filter (fun e => covB e.p p) = [] := fun L h => by
      rw [List.filter_eq_nil_iff]
      intro x hx
      rw [h x hx]; simp
    unfold pathT
    cases hc : covB q p with
    | false =>
      rw [if_neg (by simp)]
      symm
      refine none_of _ (fun x hx => ?_)
      have h1 := hu _ (ents_pfxs hx)
      cases hx2 : covB x.p p with
      | false => rfl
      | true =>
        have := cov_trans hq (hok _ (ents_pfxs hx)) h1 ((covB_iff (hok _ (ents_pfxs hx)) hp).1 hx2)
        rw [← covB_iff hq hp, hc] at this
        simp at this
    | true =>
      rw [if_pos rfl]
      have hcv := (covB_iff hq hp).1 hc
      simp only [T.ents, List.filter_append]
      congr 1
      · split
        · simp [hc]
        · rfl
      · by_cases hle : q.len = p.len
        · rw [if_pos hle]
          have n1 : ∀ x ∈ l.ents, covB x.p p = false := fun x hx => by
            have h1 := (hkk.1 _ (ents_pfxs hx)).2.2
            cases hx2 : covB x.p p with
            | false => rfl
            | true => have := ((covB_iff (good_ok h5 _ (ents_pfxs hx)) hp).1 hx2).1; omega
          have n2 : ∀ x ∈ r.ents, covB x.p p = false := fun x hx => by
            have h1 := (hkk.2 _ (ents_pfxs hx)).2.2
            cases hx2 : covB x.p p with
            | false => rfl
            | true => have := ((covB_iff (good_ok h6 _ (ents_pfxs hx)) hp).1 hx2).1; omega
          rw [none_of _ n1, none_of _ n2]; rfl
        · rw [if_neg hle]
          have hl : q.len < p.len := by have := hcv.1; omega
          have h32 : q.len < 32 := by have := hp.bd; omega
          have side : ∀ {k : Nat} {x : PrefixM}, k ≤ 1 → okP x → cov (kidP q k) x → covB x p = true → halfB p.addr (heldN q.len) = k := fun hk hx h1 h2 =>
            kid_half hq h32 hk (cov_trans (kid_ok hq h32 hk) hx h1 ((covB_iff hx hp).1 h2))
          by_cases c3 : halfB p.addr (heldN q.len) = 0
          · rw [if_pos c3, path_eq hp h5]
            have n2 : ∀ x ∈ r.ents, covB x.p p = false := fun x hx => by
              cases hx2 : covB x.p p with
              | false => rfl
              | true => have := side (by decide) (good_ok h6 _ (ents_pfxs hx)) (hkk.2 _ (ents_pfxs hx)).1 hx2; omega
            rw [none_of _ n2, List.append_nil]
          · rw [if_neg c3, path_eq hp h6]
            have n1 : ∀ x ∈ l.ents, covB x.p p = false := fun x hx => by
              cases hx2 : covB x.p p with
              | false => rfl
              | true => have := side (by decide) (good_ok h5 _ (ents_pfxs hx)) (hkk.1 _ (ents_pfxs hx)).1 hx2; omega
            rw [none_of _ n1, List.nil_append]

/-! ### How many forks there are -/
theorem ids_length : ∀ {t : T}, t.ids.length = t.ents.length + t.forks
  | .nil => rfl
  | .node _ p v th l r => by
    have h1 := ids_length (t := l)
    have h2 := ids_length (t := r)
    simp only [T.ids, T.ents, T.forks, List.length_cons, List.length_append]
    cases th <;> simp <;> omega
theorem forks_lt : ∀ {t : T}, Good t → t.isNil = false → t.forks < t.ents.length
  | .nil, _, h => by simp [T.isNil] at h
  | .node _ p v th l r, h, _ => by
    obtain ⟨_, h2, _, _, h5, h6⟩ := h
    have k1 : l.isNil = true → l.forks = 0 := fun h => by rw [nil_of h]; rfl
    have k2 : r.isNil = true → r.forks = 0 := fun h => by rw [nil_of h]; rfl
    have i1 := forks_lt h5
    have i2 := forks_lt h6
    simp only [T.forks, T.ents, List.length_append]
    cases th with
    | true =>
      simp only [if_true, List.length_singleton]
      cases hl : l.isNil <;> cases hr : r.isNil <;> simp_all <;> omega
    | false =>
      obtain ⟨a, b⟩ := h2 rfl
      have := i1 a; have := i2 b
      simp; omega
end Go.Proofs.Ytgjabgneapdbiaa

namespace Go.Proofs.Ytgjabgneapdbiaa
set_option linter.unusedSimpArgs false
set_option linter.unusedVariables false

/-- Does a fork stand between two neighbours? -/
def pairB (S : List PrefixM) (a b : PrefixM) : Bool :=
  if b.len ≤ (lzN a.addr b.addr : Nat) ∨ covB a b = true then false
  else !(decide (normP ⟨b.addr, (lzN a.addr b.addr : Nat)⟩ ∈ S)) && (S.any (fun x => covB (kidP (normP ⟨b.addr, (lzN a.addr b.addr : Nat)⟩) 0) x) && S.any (fun x => covB (kidP (normP ⟨b.addr, (lzN a.addr b.addr : Nat)⟩) 1) x))
def pairsN (S : List PrefixM) : List PrefixM → Nat
  | a :: b :: l => (if pairB S a b then 1 else 0) + pairsN S (b :: l)
  | _ => 0
def nodesN (S : List PrefixM) : Nat := S.length + pairsN S S
def T.ps (t : T) : List PrefixM := t.ents.map (·.p)

theorem pairs_app (S : List PrefixM) : ∀ (xs : List PrefixM) (a b : PrefixM) (ys : List PrefixM), pairsN S ((xs ++ [a]) ++ b :: ys) = pairsN S (xs ++ [a]) + ((if pairB S a b then 1 else 0) + pairsN S (b :: ys))
  | [], a, b, ys => by simp [pairsN]
  | [x], a, b, ys => by simp [pairsN]
  | x :: y :: xs, a, b, ys => by
    have ih := pairs_app S (y :: xs) a b ys
    simp only [List.cons_append, pairsN] at ih ⊢
    omega
theorem pairs_nil_right (S : List PrefixM) (xs : List PrefixM) : pairsN S (xs ++ []) = pairsN S xs := by rw [List.append_nil]
/-- Two parts and what stands between them. -/
theorem pairs_two {S xs ys : List PrefixM} {c : Nat} (hx : xs ≠ []) (hy : ys ≠ []) (h : ∀ a b, a ∈ xs → b ∈ ys → (if pairB S a b then 1 else 0) = c) : pairsN S (xs ++ ys) = pairsN S xs + c + pairsN S ys := by
  obtain ⟨b, ys', rfl⟩ := List.exists_cons_of_ne_nil hy
  have e := List.dropLast_concat_getLast hx
  rw [← e, pairs_app, h _ _ (List.getLast_mem hx) (by simp)]
  omega
theorem pairs_cons {S ys : List PrefixM} {a : PrefixM} (h : ∀ b, b ∈ ys → pairB S a b = false) : pairsN S (a :: ys) = pairsN S ys := by
  cases ys with
  | nil => rfl
  | cons b ys => rw [pairsN, h b (by simp)]; simp

theorem pair_cov {S : List PrefixM} {a b : PrefixM} (ha : okP a) (hb : okP b) (h : cov a b) : pairB S a b = false := by
  unfold pairB
  rw [if_pos (.inr ((covB_iff ha hb).2 h))]
/-- Of addresses in two halves of a prefix the shared bits are that prefix's. -/
theorem lz_halves {f a b : PrefixM} (hf : okP f) (hl : f.len < 32) (ha : okP a) (hb : okP b) (h0 : cov (kidP f 0) a) (h1 : cov (kidP f 1) b) : lzN a.addr b.addr = heldN f.len := by
  have e0 := kid_half hf hl (by decide) h0
  have e1 := kid_half hf hl (by decide) h1
  have c0 := cov_trans hf (kid_ok hf hl (k := 0) (by decide)) (kid_cov hf hl (by decide)) h0
  have c1 := cov_trans hf (kid_ok hf hl (k := 1) (by decide)) (kid_cov hf hl (by decide)) h1
  have h32 := (lt32 hf).2 hl
  have up : heldN f.len ≤ lzN a.addr b.addr := by
    rw [lzN_iff ha.lt hb.lt (by omega)]
    have d0 := (cutP_in hf (n := heldN f.len) (by omega) ha.lt).1 (by rw [cutP_of_cov hf hf (cov_refl f)]; exact c0.2)
    have d1 := (cutP_in hf (n := heldN f.len) (by omega) hb.lt).1 (by rw [cutP_of_cov hf hf (cov_refl f)]; exact c1.2)
    rw [← d0, ← d1]
  rcases Nat.lt_or_ge (heldN f.len) (lzN a.addr b.addr) with h | h
  · exfalso
    have := (lzN_iff ha.lt hb.lt (n := heldN f.len + 1) (by omega)).1 h
    unfold halfB at e0 e1
    rw [show 32 - (heldN f.len + 1) = 31 - heldN f.len by omega] at this
    rw [this] at e0
    omega
  · omega
theorem pair_fork {S : List PrefixM} {f a b : PrefixM} (hf : okP f) (ha : okP a) (hb : okP b) (h0 : cov (kidP f 0) a) (h1 : cov (kidP f 1) b) (haS : a ∈ S) (hbS : b ∈ S) : pairB S a b = !(decide (f ∈ S)) := by
  have hl := kid_lt ha h0
  have hz := lz_halves hf hl ha hb h0 h1
  have e0 := kid_half hf hl (by decide) h0
  have e1 := kid_half hf hl (by decide) h1
  have k0 := kid_ok hf hl (k := 0) (by decide)
  have k1 := kid_ok hf hl (k := 1) (by decide)
  have c1 := cov_trans hf k1 (kid_cov hf hl (by decide)) h1
  have hfb : normP ⟨b.addr, (lzN a.addr b.addr : Nat)⟩ = f := by rw [hz]; exact cutP_of_cov hf hb c1
  unfold pairB
  rw [hfb]
  have hcov : covB a b = false := by
    cases h : covB a b with
    | false => rfl
    | true =>
      exfalso
      have hab := (covB_iff ha hb).1 h
      have := kid_half hf hl (by decide) (cov_trans k0 ha h0 hab)
      omega
  have hlen : ¬ b.len ≤ ((lzN a.addr b.addr : Nat) : Int) := by
    have h2 : f.len + 1 ≤ b.len := h1.1
    rw [hz, hf.cast]; omega
  rw [if_neg (by rw [hcov]; simp; omega)]
  have s0 : S.any (fun x => covB (kidP f 0) x) = true := List.any_eq_true.2 ⟨a, haS, (covB_iff k0 ha).2 h0⟩
  have s1 : S.any (fun x => covB (kidP f 1) x) = true := List.any_eq_true.2 ⟨b, hbS, (covB_iff k1 hb).2 h1⟩
  rw [s0, s1]; simp

theorem ps_app (l r : T) (p : PrefixM) (v : Int) (th : Bool) (i : Nat) : (T.node i p v th l r).ps = (if th then [p] else []) ++ (l.ps ++ r.ps) := by
  unfold T.ps
  simp only [T.ents, List.map_append]
  cases th <;> simp
theorem mem_ps {t : T} {x : PrefixM} (h : x ∈ t.ps) : x ∈ t.pfxs := by
  obtain ⟨e, he, rfl⟩ := List.mem_map.1 h
  exact ents_pfxs he
theorem ps_ne {t : T} (h : Good t) (hn : t.isNil = false) : t.ps ≠ [] := by
  have := good_ne h hn
  unfold T.ps
  simpa using this
/-- Within a region all of whose prefixes are the tree's. -/
theorem forks_pairs {S : List PrefixM} : ∀ {t : T}, Good t → (∀ x ∈ t.ps, x ∈ S) → (∀ x ∈ S, okP x) → (∀ h, (∀ x ∈ t.pfxs, cov h x) → okP h → (∀ x ∈ S, cov h x → x ∈ t.ps) → pairsN S t.ps = t.forks)
  | .nil, _, _, _ => fun _ _ _ _ => rfl
  | .node i p v th l r, hg, hS, hok => fun h hh hho hall => by
    have hkk := good_kid hg
    have hpok := good_ok hg
    obtain ⟨hp, h2, h3, h4, h5, h6⟩ := hg
    have hhp : cov h p := hh p (by simp [T.pfxs])
    rw [ps_app] at hS
    simp only [List.mem_append] at hS
    have okl : ∀ x ∈ l.ps, okP x := fun x hx => good_ok h5 x (mem_ps hx)
    have okr : ∀ x ∈ r.ps, okP x := fun x hx => good_ok h6 x (mem_ps hx)
    have allmem : ∀ x ∈ S, cov p x → (th = true ∧ x = p) ∨ x ∈ l.ps ∨ x ∈ r.ps := fun x hx hc => by
      have := hall x hx (cov_trans hho hp hhp hc)
      rw [ps_app] at this
      simp only [List.mem_append] at this
      rcases this with h | h
      · split at h
        · rename_i hth; exact .inl ⟨hth, by simpa using h⟩
        · simp at h
      · exact .inr h
    have pS : p ∈ S ↔ th = true := by
      constructor
      · intro hpS
        rcases allmem p hpS (cov_refl p) with h | h | h
        · exact h.1
        · have := (hkk.1 _ (mem_ps h)).2.2; omega
        · have := (hkk.2 _ (mem_ps h)).2.2; omega
      · intro hth; exact hS p (.inl (by simp [hth]))
    have il : pairsN S l.ps = l.forks := by
      cases hl : l.isNil with
      | true => rw [nil_of hl]; rfl
      | false =>
        obtain ⟨x0, hx0⟩ := List.exists_mem_of_ne_nil _ (ps_ne h5 hl)
        have h32 := kid_lt (okl _ hx0) (hkk.1 _ (mem_ps hx0)).1
        refine forks_pairs h5 (fun x hx => hS x (.inr (.inl hx))) hok (kidP p 0) (fun x hx => (hkk.1 x hx).1) (kid_ok hp h32 (by decide)) (fun x hx hc => ?_)
        have hcp := cov_trans hp (kid_ok hp h32 (by decide)) (kid_cov hp h32 (by decide)) hc
        rcases allmem x hx hcp with ⟨_, rfl⟩ | h | h
        · have h1 : x.len + 1 ≤ x.len := hc.1
          omega
        · exact h
        · have a1 := kid_half hp h32 (by decide) hc
          have a2 := kid_half hp h32 (by decide) (hkk.2 _ (mem_ps h)).1
          omega
    have ir : pairsN S r.ps = r.forks := by
      cases hr : r.isNil with
      | true => rw [nil_of hr]; rfl
      | false =>
        obtain ⟨x0, hx0⟩ := List.exists_mem_of_ne_nil _ (ps_ne h6 hr)
        have h32 := kid_lt (okr _ hx0) (hkk.2 _ (mem_ps hx0)).1
        refine forks_pairs h6 (fun x hx => hS x (.inr (.inr hx))) hok (kidP p 1) (fun x hx => (hkk.2 x hx).1) (kid_ok hp h32 (by decide)) (fun x hx hc => ?_)
        have hcp := cov_trans hp (kid_ok hp h32 (by decide)) (kid_cov hp h32 (by decide)) hc
        rcases allmem x hx hcp with ⟨_, rfl⟩ | h | h
        · have h1 : x.len + 1 ≤ x.len := hc.1
          omega
        · have a1 := kid_half hp h32 (by decide) hc
          have a2 := kid_half hp h32 (by decide) (hkk.1 _ (mem_ps h)).1
          omega
        · exact h
    have ilr : pairsN S (l.ps ++ r.ps) = l.forks + (if l.isNil = false ∧ r.isNil = false then (if th then 0 else 1) else 0) + r.forks := by
      cases hl : l.isNil with
      | true => have := nil_of hl; subst this; simp [T.ps, T.ents, T.forks] at ir ⊢; exact ir
      | false =>
        cases hr : r.isNil with
        | true => have := nil_of hr; subst this; simp [T.ps, T.ents, T.forks] at il ⊢; exact il
        | false =>
          rw [pairs_two (c := if th then 0 else 1) (ps_ne h5 hl) (ps_ne h6 hr) (fun a b ha hb => by
            rw [pair_fork hp (okl a ha) (okr b hb) (hkk.1 _ (mem_ps ha)).1 (hkk.2 _ (mem_ps hb)).1 (hS a (.inr (.inl ha))) (hS b (.inr (.inr hb)))]
            cases th with
            | true => simp [pS.2 rfl]
            | false => have : ¬ p ∈ S := fun h => by have := pS.1 h; simp at this
                       simp [this]), il, ir]
          simp
    rw [ps_app]
    simp only [T.forks]
    cases th with
    | true =>
      simp only [if_true, List.singleton_append]
      rw [pairs_cons (fun b hb => by
        rcases List.mem_append.1 hb with hb | hb
        · exact pair_cov hp (okl b hb) (hkk.1 _ (mem_ps hb)).2.1
        · exact pair_cov hp (okr b hb) (hkk.2 _ (mem_ps hb)).2.1), ilr]
      simp
    | false =>
      obtain ⟨a, b⟩ := h2 rfl
      simp only [Bool.false_eq_true, if_false, List.nil_append]
      rw [ilr, a, b]
      simp; omega
theorem nodes_eq {t : T} (h : Good t) : t.ids.length = nodesN t.ps := by
  have h0 : okP (⟨0, 0⟩ : PrefixM) := by decide
  have hz : ∀ x : PrefixM, okP x → cov ⟨0, 0⟩ x := fun x hx => ⟨hx.bd.1, Nat.zero_le _, by
    have h1 := hx.lt
    have h2 : szP ⟨0, 0⟩ = 4294967296 := by decide
    show x.addr < 0 + szP ⟨0, 0⟩
    omega⟩
  have hf := forks_pairs (S := t.ps) h (fun _ h => h) (fun x hx => good_ok h x (mem_ps hx)) ⟨0, 0⟩ (fun x hx => hz x (good_ok h x hx)) h0 (fun x hx _ => hx)
  unfold nodesN
  rw [hf, ids_length]
  unfold T.ps
  rw [List.length_map]
end Go.Proofs.Ytgjabgneapdbiaa

namespace Go.Proofs.Ytgjabgneapdbiaa
set_option linter.unusedSimpArgs false
set_option linter.unusedVariables false

instance (p q : PrefixM) : Decidable (befP p q) := by unfold befP; exact inferInstance
def SortedE (l : List EntM) : Prop := l.Pairwise befE
/-- Where a prefix stands, or would. -/
def posE (l : List EntM) (p : PrefixM) : Nat := l.findIdx (fun x => !decide (befP x.p p))
def hasE (l : List EntM) (p : PrefixM) : Bool := match l[posE l p]? with | some x => decide (x.p = p) | none => false
def putE (l : List EntM) (p : PrefixM) (v : Int) : List EntM := if hasE l p then l.set (posE l p) ⟨p, v⟩ else l.take (posE l p) ++ ⟨p, v⟩ :: l.drop (posE l p)
def delE (l : List EntM) (p : PrefixM) : List EntM := if hasE l p then l.take (posE l p) ++ l.drop (posE l p + 1) else l
def getE (l : List EntM) (p : PrefixM) : Option EntM := l.find? (fun x => decide (x.p = p))

theorem posE_le (l : List EntM) (p : PrefixM) : posE l p ≤ l.length := List.findIdx_le_length
theorem posE_before {l : List EntM} {p : PrefixM} {j : Nat} {x : EntM} (hj : j < posE l p) (hx : l[j]? = some x) : befP x.p p := by
  obtain ⟨h, rfl⟩ := List.getElem?_eq_some_iff.1 hx
  have := List.not_of_lt_findIdx hj
  simpa using this
theorem posE_at {l : List EntM} {p : PrefixM} {x : EntM} (hx : l[posE l p]? = some x) : ¬ befP x.p p := by
  obtain ⟨h, rfl⟩ := List.getElem?_eq_some_iff.1 hx
  have h2 : (!decide (befP l[posE l p].p p)) = true := @List.findIdx_getElem _ (fun x : EntM => !decide (befP x.p p)) l h
  intro h3
  rw [decide_eq_true h3] at h2
  cases h2
theorem posE_eq {l : List EntM} {p : PrefixM} {i : Nat} (hi : i ≤ l.length) (h1 : ∀ j x, j < i → l[j]? = some x → befP x.p p) (h2 : ∀ x, l[i]? = some x → ¬ befP x.p p) : posE l p = i := by
  rcases Nat.lt_trichotomy (posE l p) i with h | h | h
  · exfalso
    have hl : posE l p < l.length := by omega
    exact posE_at (List.getElem?_eq_getElem hl) (h1 _ _ h (List.getElem?_eq_getElem hl))
  · exact h
  · exfalso
    have hl : i < l.length := by have := posE_le l p; omega
    exact h2 _ (List.getElem?_eq_getElem hl) (posE_before h (List.getElem?_eq_getElem hl))
theorem SortedE.get {l : List EntM} (h : SortedE l) {i j : Nat} (hij : i < j) {x y : EntM} (hx : l[i]? = some x) (hy : l[j]? = some y) : befE x y := by
  obtain ⟨h1, rfl⟩ := List.getElem?_eq_some_iff.1 hx
  obtain ⟨h2, rfl⟩ := List.getElem?_eq_some_iff.1 hy
  exact List.pairwise_iff_getElem.1 h i j h1 h2 hij
theorem SortedE.uniq {l : List EntM} (h : SortedE l) {x y : EntM} (hx : x ∈ l) (hy : y ∈ l) (hp : x.p = y.p) : x = y := by
  obtain ⟨i, hi⟩ := List.getElem?_of_mem hx
  obtain ⟨j, hj⟩ := List.getElem?_of_mem hy
  rcases Nat.lt_trichotomy i j with e | e | e
  · have := h.get e hi hj; unfold befE at this; rw [hp] at this; exact absurd this (befP_irrefl _)
  · subst e; rw [hi] at hj; exact Option.some.inj hj
  · have := h.get e hj hi; unfold befE at this; rw [hp] at this; exact absurd this (befP_irrefl _)
theorem hasE_iff {l : List EntM} (h : SortedE l) (p : PrefixM) : hasE l p = true ↔ ∃ x ∈ l, x.p = p := by
  unfold hasE
  constructor
  · intro hh
    split at hh
    · rename_i x hx
      exact ⟨x, List.mem_of_getElem? hx, of_decide_eq_true hh⟩
    · simp at hh
  · rintro ⟨x, hx, rfl⟩
    obtain ⟨i, hi⟩ := List.getElem?_of_mem hx
    have hil := (List.getElem?_eq_some_iff.1 hi).1
    have hp : posE l x.p = i := posE_eq (by omega) (fun j y hj hy => h.get hj hy hi) (fun y hy => by rw [hi] at hy; obtain rfl := Option.some.inj hy; exact befP_irrefl _)
    rw [hp, hi]
    simp
theorem hasE_some {l : List EntM} {p : PrefixM} (h : hasE l p = true) : ∃ x, l[posE l p]? = some x ∧ x.p = p := by
  unfold hasE at h
  split at h
  · rename_i x hx
    exact ⟨x, hx, of_decide_eq_true h⟩
  · simp at h
theorem hasE_lt {l : List EntM} {p : PrefixM} (h : hasE l p = true) : posE l p < l.length := by
  obtain ⟨x, hx, _⟩ := hasE_some h
  exact (List.getElem?_eq_some_iff.1 hx).1
theorem eq_of_sorted : ∀ {l1 l2 : List EntM}, SortedE l1 → SortedE l2 → (∀ x, x ∈ l1 ↔ x ∈ l2) → l1 = l2
  | [], [], _, _, _ => rfl
  | [], b :: l2, _, _, h => by have := (h b).2 (by simp); simp at this
  | a :: l1, [], _, _, h => by have := (h a).1 (by simp); simp at this
  | a :: l1, b :: l2, h1, h2, h => by
    unfold SortedE at h1 h2
    rw [List.pairwise_cons] at h1 h2
    have hir : ∀ x : EntM, ¬ befE x x := fun x => befP_irrefl _
    have hab : a = b := by
      rcases List.mem_cons.1 ((h a).1 (by simp)) with e | e
      · exact e
      · rcases List.mem_cons.1 ((h b).2 (by simp)) with e2 | e2
        · exact e2.symm
        · exact (befP_asymm (h1.1 b e2) (h2.1 a e)).elim
    subst hab
    congr 1
    refine eq_of_sorted h1.2 h2.2 (fun x => ?_)
    constructor
    · intro hx
      rcases List.mem_cons.1 ((h x).1 (List.mem_cons_of_mem _ hx)) with e | e
      · subst e; exact (hir _ (h1.1 _ hx)).elim
      · exact e
    · intro hx
      rcases List.mem_cons.1 ((h x).2 (List.mem_cons_of_mem _ hx)) with e | e
      · subst e; exact (hir _ (h2.1 _ hx)).elim
      · exact e

theorem take_bef {l : List EntM} {p : PrefixM} {x : EntM} (hx : x ∈ l.take (posE l p)) : befP x.p p := by
  obtain ⟨j, hj⟩ := List.getElem?_of_mem hx
  rw [List.getElem?_take] at hj
  split at hj
  · rename_i hlt; exact posE_before hlt hj
  · simp at hj
theorem drop_bef {l : List EntM} (h : SortedE l) {p : PrefixM} (hn : hasE l p = false) {x : EntM} (hx : x ∈ l.drop (posE l p)) : befP p x.p := by
  obtain ⟨j, hj⟩ := List.getElem?_of_mem hx
  rw [List.getElem?_drop] at hj
  obtain ⟨hlen, _⟩ := List.getElem?_eq_some_iff.1 hj
  have hp : posE l p < l.length := by omega
  have hy := List.getElem?_eq_getElem hp
  have hns : ¬ (l[posE l p]).p = p := by
    unfold hasE at hn
    rw [hy] at hn
    exact of_decide_eq_false hn
  have hlt : befP p (l[posE l p]).p := by
    rcases befP_tri (l[posE l p]).p p with h1 | h1 | h1
    · exact absurd h1 (posE_at hy)
    · exact absurd h1 hns
    · exact h1
  cases j with
  | zero =>
    rw [Nat.add_zero, hy] at hj
    obtain rfl := Option.some.inj hj
    exact hlt
  | succ j => exact befP_trans hlt (h.get (by omega) hy hj)
theorem mem_split {l : List EntM} {p : PrefixM} {y : EntM} (hy : l[posE l p]? = some y) (x : EntM) : x ∈ l ↔ x ∈ l.take (posE l p) ∨ x = y ∨ x ∈ l.drop (posE l p + 1) := by
  obtain ⟨h, rfl⟩ := List.getElem?_eq_some_iff.1 hy
  conv => lhs; rw [← List.take_append_drop (posE l p) l, List.drop_eq_getElem_cons h]
  simp only [List.mem_append, List.mem_cons]
theorem put_E_mem {l : List EntM} (h : SortedE l) (p : PrefixM) (v : Int) (x : EntM) : x ∈ putE l p v ↔ x = ⟨p, v⟩ ∨ (x ∈ l ∧ x.p ≠ p) := by
  unfold putE
  cases hh : hasE l p with
  | true =>
    obtain ⟨y, hy, hyp⟩ := hasE_some hh
    have hlt := hasE_lt hh
    rw [if_pos rfl, List.set_eq_take_append_cons_drop, if_pos hlt, mem_split hy]
    simp only [List.mem_append, List.mem_cons]
    have n1 : x ∈ l.take (posE l p) → x.p ≠ p := fun hx e => by have := take_bef hx; rw [e] at this; exact befP_irrefl _ this
    have n2 : x ∈ l.drop (posE l p + 1) → x.p ≠ p := fun hx e => by
      obtain ⟨j, hj⟩ := List.getElem?_of_mem hx
      rw [List.getElem?_drop] at hj
      have := h.get (by omega) hy hj
      unfold befE at this
      rw [hyp, e] at this
      exact befP_irrefl _ this
    constructor
    · rintro (h | h | h)
      · exact .inr ⟨.inl h, n1 h⟩
      · exact .inl h
      · exact .inr ⟨.inr (.inr h), n2 h⟩
    · rintro (h | ⟨h | h | h, hne⟩)
      · exact .inr (.inl h)
      · exact .inl h
      · subst h; exact absurd hyp hne
      · exact .inr (.inr h)
  | false =>
    rw [if_neg (by simp)]
    have hm : x ∈ l ↔ x ∈ l.take (posE l p) ∨ x ∈ l.drop (posE l p) := by rw [← List.mem_append, List.take_append_drop]
    rw [hm]
    simp only [List.mem_append, List.mem_cons]
    have n1 : x ∈ l.take (posE l p) → x.p ≠ p := fun hx e => by have := take_bef hx; rw [e] at this; exact befP_irrefl _ this
    have n2 : x ∈ l.drop (posE l p) → x.p ≠ p := fun hx e => by have := drop_bef h hh hx; rw [e] at this; exact befP_irrefl _ this
    constructor
    · rintro (h | h | h)
      · exact .inr ⟨.inl h, n1 h⟩
      · exact .inl h
      · exact .inr ⟨.inr h, n2 h⟩
    · rintro (h | ⟨h | h, hne⟩)
      · exact .inr (.inl h)
      · exact .inl h
      · exact .inr (.inr h)
theorem put_E_sorted {l : List EntM} (h : SortedE l) (p : PrefixM) (v : Int) : SortedE (putE l p v) := by
  unfold putE
  cases hh : hasE l p with
  | true =>
    obtain ⟨y, hy, hyp⟩ := hasE_some hh
    rw [if_pos rfl]
    have h' := h
    unfold SortedE at *
    rw [List.pairwise_iff_getElem] at *
    obtain ⟨hi, rfl⟩ := List.getElem?_eq_some_iff.1 hy
    intro a b ha hb hab
    simp only [List.length_set] at ha hb
    simp only [List.getElem_set]
    split
    · split
      · omega
      · rename_i e _; have := h a b ha hb hab; unfold befE at *; subst e; rw [hyp] at this; exact this
    · split
      · rename_i e; have := h a b ha hb hab; unfold befE at *; subst e; rw [hyp] at this; exact this
      · exact h a b ha hb hab
  | false =>
    rw [if_neg (by simp)]
    unfold SortedE
    rw [List.pairwise_append, List.pairwise_cons]
    refine ⟨h.sublist (List.take_sublist _ _), ⟨fun x hx => drop_bef h hh hx, h.sublist (List.drop_sublist _ _)⟩, ?_⟩
    intro a ha b hb
    rcases List.mem_cons.1 hb with rfl | hb
    · exact take_bef ha
    · exact befP_trans (take_bef ha) (drop_bef h hh hb)
theorem del_E_mem {l : List EntM} (h : SortedE l) (p : PrefixM) (x : EntM) : x ∈ delE l p ↔ x ∈ l ∧ x.p ≠ p := by
  unfold delE
  cases hh : hasE l p with
  | true =>
    obtain ⟨y, hy, hyp⟩ := hasE_some hh
    rw [if_pos rfl, mem_split hy]
    simp only [List.mem_append]
    have n1 : x ∈ l.take (posE l p) → x.p ≠ p := fun hx e => by have := take_bef hx; rw [e] at this; exact befP_irrefl _ this
    have n2 : x ∈ l.drop (posE l p + 1) → x.p ≠ p := fun hx e => by
      obtain ⟨j, hj⟩ := List.getElem?_of_mem hx
      rw [List.getElem?_drop] at hj
      have := h.get (by omega) hy hj
      unfold befE at this
      rw [hyp, e] at this
      exact befP_irrefl _ this
    constructor
    · rintro (h | h)
      · exact ⟨.inl h, n1 h⟩
      · exact ⟨.inr (.inr h), n2 h⟩
    · rintro ⟨h | h | h, hne⟩
      · exact .inl h
      · subst h; exact absurd hyp hne
      · exact .inr h
  | false =>
    rw [if_neg (by simp)]
    constructor
    · intro hx
      refine ⟨hx, fun e => ?_⟩
      have := (hasE_iff h p).2 ⟨x, hx, e⟩
      rw [hh] at this; cases this
    · exact fun h => h.1
theorem del_E_sorted {l : List EntM} (h : SortedE l) (p : PrefixM) : SortedE (delE l p) := by
  unfold delE
  split
  · have hs : (l.take (posE l p) ++ l.drop (posE l p + 1)).Sublist l := by
      have h : (l.take (posE l p) ++ l.drop (posE l p + 1)).Sublist (l.take (posE l p) ++ l.drop (posE l p)) := List.Sublist.append (List.Sublist.refl _) (by
        rw [← List.drop_drop]; exact List.drop_sublist _ _)
      rwa [List.take_append_drop] at h
    exact h.sublist hs
  · exact h
theorem ents_put {t : T} (h : Good t) {p : PrefixM} (hp : okP p) (v : Int) (s : AlM) : (putT t p v s).t.ents = putE t.ents p v := by
  have hs := good_sorted h
  refine eq_of_sorted (good_sorted (good_put hp v s h).1) (put_E_sorted hs p v) (fun x => ?_)
  rw [mem_put hp v s h x, put_E_mem hs]
theorem ents_cut {t : T} (h : Good t) {p : PrefixM} (hp : okP p) (s : AlM) : (cutT t p s).t.ents = delE t.ents p ∧ (cutT t p s).was = hasE t.ents p := by
  have hs := good_sorted h
  obtain ⟨k1, k2, k3, k4, k5⟩ := cut_good hp s h
  refine ⟨eq_of_sorted (good_sorted k1) (del_E_sorted hs p) (fun x => by rw [k3, del_E_mem hs]), ?_⟩
  rw [Bool.eq_iff_iff, k4, hasE_iff hs]
theorem getE_some {l : List EntM} (h : SortedE l) {p : PrefixM} {x : EntM} : getE l p = some x ↔ x ∈ l ∧ x.p = p := by
  unfold getE
  constructor
  · intro hf
    exact ⟨List.mem_of_find?_eq_some hf, by have := List.find?_some hf; simpa using this⟩
  · rintro ⟨hx, rfl⟩
    cases hf : l.find? (fun y => decide (y.p = x.p)) with
    | none =>
      rw [List.find?_eq_none] at hf
      have := hf x hx
      simp at this
    | some y =>
      have h1 := List.mem_of_find?_eq_some hf
      have h2 : y.p = x.p := by have := List.find?_some hf; simpa using this
      rw [h.uniq h1 hx h2]
theorem getE_none {l : List EntM} {p : PrefixM} : getE l p = none ↔ ∀ x ∈ l, x.p ≠ p := by
  unfold getE
  rw [List.find?_eq_none]
  constructor
  · intro h x hx e; have := h x hx; simp [e] at this
  · intro h x hx; simp [h x hx]
theorem getE_pos {l : List EntM} (h : SortedE l) (p : PrefixM) : getE l p = if hasE l p then l[posE l p]? else none := by
  cases hh : hasE l p with
  | true =>
    obtain ⟨y, hy, hyp⟩ := hasE_some hh
    rw [if_pos rfl, hy, getE_some h]
    exact ⟨List.mem_of_getElem? hy, hyp⟩
  | false =>
    rw [if_neg (by simp), getE_none]
    intro x hx e
    have := (hasE_iff h p).2 ⟨x, hx, e⟩
    rw [hh] at this; cases this
end Go.Proofs.Ytgjabgneapdbiaa

namespace Go.Proofs.Ytgjabgneapdbiaa
set_option linter.unusedSimpArgs false
set_option linter.unusedVariables false

def pathX (l : List EntM) (p : PrefixM) : List EntM := if p = normP p then l.filter (fun e => covB e.p p) else []
theorem pathX_mem {l : List EntM} {p : PrefixM} {x : EntM} (h : x ∈ pathX l p) : x ∈ l ∧ covB x.p p = true := by
  unfold pathX at h
  split at h
  · exact List.mem_filter.1 h
  · simp at h
theorem pathX_sorted {l : List EntM} (h : SortedE l) (p : PrefixM) : SortedE (pathX l p) := by
  unfold pathX
  split
  · exact h.sublist List.filter_sublist
  · exact List.Pairwise.nil
theorem pathX_len (l : List EntM) (p : PrefixM) : (pathX l p).length ≤ l.length := by
  unfold pathX
  split
  · exact List.length_filter_le _ _
  · simp
/-- The last one is the longest. -/
theorem pathX_last {l : List EntM} (h : SortedE l) (hok : ∀ x ∈ l, okP x.p) {p : PrefixM} (hp : p.wf) {z : EntM} (hz : (pathX l p).getLast? = some z) : z ∈ pathX l p ∧ ∀ y ∈ pathX l p, y.p.len ≤ z.p.len ∧ (y.p.len = z.p.len → y = z) := by
  obtain ⟨ys, e⟩ := List.getLast?_eq_some_iff.1 hz
  have hzm : z ∈ pathX l p := by rw [e]; simp
  refine ⟨hzm, fun y hy => ?_⟩
  have hs := pathX_sorted h p
  have hn : p = normP p := by
    unfold pathX at hy
    split at hy
    · assumption
    · simp at hy
  have hpo : okP p := ⟨hn, hp⟩
  have hcz := (covB_iff (hok _ (pathX_mem hzm).1) hpo).1 (pathX_mem hzm).2
  have hcy := (covB_iff (hok _ (pathX_mem hy).1) hpo).1 (pathX_mem hy).2
  have hoy := hok _ (pathX_mem hy).1
  have hoz := hok _ (pathX_mem hzm).1
  rw [e] at hs hy
  unfold SortedE at hs
  rw [List.pairwise_append] at hs
  rcases List.mem_append.1 hy with h1 | h1
  · have hb : befE y z := hs.2.2 y h1 z (by simp)
    have hlt : y.p.len < z.p.len := by
      rcases Int.lt_or_le y.p.len z.p.len with h2 | h2
      · exact h2
      · exfalso
        -- z covers what y is: then z stands ahead
        have hzy : cov z.p y.p := by
          rcases nest hoz hoy h2 with k | k | k
          · exact k
          · have := cov_sub hoy hpo hcy; have := cov_sub hoz hpo hcz; have := szP_pos p; omega
          · have := cov_sub hoy hpo hcy; have := cov_sub hoz hpo hcz; have := szP_pos p; omega
        unfold befE befP at hb
        have := hzy.2.1
        rcases hb with hb | hb <;> omega
    exact ⟨Int.le_of_lt hlt, fun e => by omega⟩
  · simp only [List.mem_singleton] at h1
    subst h1
    exact ⟨Int.le_refl _, fun _ => rfl⟩
theorem getE_last {l : List EntM} (h : SortedE l) (hok : ∀ x ∈ l, okP x.p) {p : PrefixM} (hp : p.wf) : getE l p = match (pathX l p).getLast? with | some x => if x.p = p then some x else none | none => none := by
  cases hl : (pathX l p).getLast? with
  | none =>
    have e : pathX l p = [] := by simpa using hl
    simp only
    rw [getE_none]
    rintro x hx rfl
    have ho := hok x hx
    have : x ∈ pathX l x.p := by unfold pathX; rw [if_pos ho.1]; exact List.mem_filter.2 ⟨hx, (covB_iff ho ho).2 (cov_refl _)⟩
    rw [e] at this; simp at this
  | some z =>
    obtain ⟨hz, hmax⟩ := pathX_last h hok hp hl
    simp only
    by_cases hzp : z.p = p
    · rw [if_pos hzp, getE_some h]
      exact ⟨(pathX_mem hz).1, hzp⟩
    · rw [if_neg hzp, getE_none]
      rintro x hx rfl
      have ho := hok x hx
      have hm : x ∈ pathX l x.p := by unfold pathX; rw [if_pos ho.1]; exact List.mem_filter.2 ⟨hx, (covB_iff ho ho).2 (cov_refl _)⟩
      have h1 := hmax x hm
      have hzo := hok z (pathX_mem hz).1
      have hc := (covB_iff hzo ho).1 (pathX_mem hz).2
      have := cov_same hzo ho hc (by have := hc.1; omega)
      exact hzp this

/-! ### The longest one -/
def addrP (a : Nat) : PrefixM := ⟨a, 32⟩
theorem addrP_ok {a : Nat} (ha : a < 4294967296) : okP (addrP a) := by
  refine ok_mk (k := a) (by decide) (by decide) ha ?_
  rw [show heldN 32 = 32 from by decide]
  simp
theorem covB_addr {q : PrefixM} (hq : okP q) {a : Nat} (ha : a < 4294967296) : covB q (addrP a) = hasB q.addr q.len a := by
  unfold covB addrP
  have := hq.bd
  rw [hq.held, show heldI 32 = 32 from by decide, decide_eq_true (by omega)]
  simp
def longE (l : List EntM) (a : Nat) : Option EntM := (pathX l (addrP a)).getLast?
structure LongIs (l : List EntM) (a : Nat) (o : Option EntM) : Prop where
  some_ : ∀ x, o = some x → x ∈ l ∧ hasB x.p.addr x.p.len a = true ∧ ∀ y ∈ l, hasB y.p.addr y.p.len a = true → y.p.len ≤ x.p.len
  none_ : o = none → ∀ y ∈ l, hasB y.p.addr y.p.len a = false
theorem longE_is {l : List EntM} (h : SortedE l) (hok : ∀ x ∈ l, okP x.p) {a : Nat} (ha : a < 4294967296) : LongIs l a (longE l a) := by
  have hpo := addrP_ok ha
  have hm : ∀ y, y ∈ pathX l (addrP a) ↔ y ∈ l ∧ hasB y.p.addr y.p.len a = true := fun y => by
    unfold pathX
    rw [if_pos hpo.1, List.mem_filter]
    constructor
    · rintro ⟨h1, h2⟩; exact ⟨h1, by rw [← covB_addr (hok y h1) ha]; exact h2⟩
    · rintro ⟨h1, h2⟩; exact ⟨h1, by rw [covB_addr (hok y h1) ha]; exact h2⟩
  refine ⟨fun x hx => ?_, fun hx y hy => ?_⟩
  · obtain ⟨h1, h2⟩ := pathX_last h hok hpo.2 hx
    exact ⟨((hm x).1 h1).1, ((hm x).1 h1).2, fun y hy hb => (h2 y ((hm y).2 ⟨hy, hb⟩)).1⟩
  · have e : pathX l (addrP a) = [] := by unfold longE at hx; simpa using hx
    cases hb : hasB y.p.addr y.p.len a with
    | false => rfl
    | true => have := (hm y).2 ⟨hy, hb⟩; rw [e] at this; simp at this
theorem LongIs.uniq {l : List EntM} (h : SortedE l) (hok : ∀ x ∈ l, okP x.p) {a : Nat} {o o' : Option EntM} (h1 : LongIs l a o) (h2 : LongIs l a o') : o = o' := by
  cases o with
  | none =>
    cases o' with
    | none => rfl
    | some y => obtain ⟨a1, a2, _⟩ := h2.some_ y rfl; have := h1.none_ rfl y a1; rw [a2] at this; cases this
  | some x =>
    obtain ⟨a1, a2, a3⟩ := h1.some_ x rfl
    cases o' with
    | none => have := h2.none_ rfl x a1; rw [a2] at this; cases this
    | some y =>
      obtain ⟨b1, b2, b3⟩ := h2.some_ y rfl
      have hl : x.p.len = y.p.len := by have := a3 y b1 b2; have := b3 x a1 a2; omega
      have hx := (hasB_iff (hok x a1) a).1 a2
      have hy := (hasB_iff (hok y b1) a).1 b2
      have hp : x.p = y.p := by
        rcases nest (hok x a1) (hok y b1) (Int.le_of_eq hl) with k | k | k
        · exact cov_same (hok x a1) (hok y b1) k hl
        · unfold inP at *; omega
        · unfold inP at *; omega
      rw [h.uniq a1 b1 hp]
end Go.Proofs.Ytgjabgneapdbiaa

/- A region that draws its order with two stores ('a, b = x, y'): its first two operations are moves, and the second one need not come ahead of the first store. -/
import Derived.Test.YtgjabgneapdbiaaMix2
namespace Go.Proofs.Ytgjabgneapdbiaa
open Go.RowKit
set_option linter.unusedSimpArgs false
set_option linter.unusedVariables false

section
variable {P : Program} {S S1 S2 : World → Prop} {ops : Array Oper} {md : Region.Mode} {Q : Exit → Act → World → Prop}
theorem no_out (hq : ∀ x a w, Q x a w → x = .normal) : ¬ LetsOut Q := fun ⟨a, w, h⟩ => by have := hq _ _ _ h; cases this
theorem wp_put2 {oj : Oper} {a : Act} {w : World} {x : Option Tmp} {v : Value} (hsj : ∀ cs b, oj.op ≠ .select cs b) (h1 : ∀ d, x = some d → d ∉ oj.looksAt ops) (h2 : ∀ d, x = some d → oj.dst ≠ some d)
    {K : Act → World → Prop} {Y : Act → Prop} (hY : ∀ u, Y (a.put oj.dst u)) (hYd : ∀ d, Y (({ a with defers := d :: a.defers } : Act).put oj.dst undef)) (h : oj.wp P (a.put x v) w K noQ) : oj.wp P a w (fun a' w' => Y a' ∧ K (a'.put x v) w') noQ := by
  unfold Oper.wp at *
  rw [execOp_put oj hsj a x v h1] at h
  generalize (execOp a.eval oj).run P w = r at *
  cases r with
  | ok n w' =>
    cases n <;> simp only [Oper.upon] at h ⊢
    case value u => exact ⟨hY _, by rw [← Act.put_comm a v u h2]; exact h⟩
    case skip => exact ⟨hY _, by rw [← Act.put_comm a v undef h2]; exact h⟩
    case defer d =>
      have e : ({ a.put x v with defers := d :: (a.put x v).defers } : Act) = ({ a with defers := d :: a.defers } : Act).put x v := by cases x <;> rfl
      refine ⟨hYd d, ?_⟩
      rw [← Act.put_comm _ v undef h2, ← e]
      exact h
    case enter f args =>
      refine Calls.mono h fun e w'' he => ?_
      cases e with
      | returned u => exact ⟨hY _, by rw [← Act.put_comm a v u h2]; exact he⟩
      | panicked c => exact he
      | outgrown => exact he
    case row row args => exact Rows.mono h fun u w'' he => ⟨hY _, by rw [← Act.put_comm a v u h2]; exact he⟩
  | halt x w' => cases x <;> simp only [Oper.upon] at h ⊢ <;> exact h
theorem YieldsM.plain {i : Nat} {o : Oper} {v : Value} {a : Act} {w : World} (hi : ops[i]? = some o) (hy : YieldsM P ops (fun _ => True) o v a) {K : Act → World → Prop} (h : K (a.put o.dst v) w) : wpOp P ops Q i K a w := by
  unfold wpOp
  simp only [hi]
  rcases hy with ⟨hw, hc, hv⟩ | ⟨hw, rfl⟩
  · rw [if_pos hw]
    left
    unfold Oper.wp
    rcases calm_same hc (hv w trivial) with e | ⟨e, rfl⟩
    · rw [e]; exact h
    · rw [e]; exact h
  · rw [if_neg (by rw [hw]; simp)]
    exact h
/-- A calm operation whose value hangs on no world may be taken first. -/
theorem wpAny_first (hQ : ∀ x a w, Q x a w → x = .normal) {i : Nat} {oi : Oper} {v : Value} (hi : ops[i]? = some oi) (hsel : ∀ (j : Nat) (o : Oper) cs b, ops[j]? = some o → o.op ≠ .select cs b) :
    ∀ (fuel : Nat) (listed : Array Bool) (a : Act) (w : World),
      (∀ j oj, ops[j]? = some oj → j ≠ i → listed.getD j true = false → (∀ e ∈ oj.after, Region.binds md e = true → e.on ≠ i) → oi.apart ops oj = true) →
      i ∈ Region.ready md ops listed → YieldsM P ops (fun _ => True) oi v a →
      wpAny P md ops Q fuel (listed.setIfInBounds i true) (a.put oi.dst v) w → wpAny P md ops Q (fuel + 1) listed a w := by
  intro fuel
  induction fuel with
  | zero =>
    intro listed a w _ hr hy H
    refine ⟨fun h => (by rw [h] at hr; cases hr), fun j hj => ?_⟩
    by_cases hji : j = i
    · subst hji; exact hy.plain hi H
    · have := ready_mono hj hji
      rw [H.1] at this
      cases this
  | succ fuel ih =>
    intro listed a w hfree hr hy H
    refine ⟨fun h => (by rw [h] at hr; cases hr), fun j hj => ?_⟩
    by_cases hji : j = i
    · subst hji; exact hy.plain hi H
    · have h1 := H.2 j (ready_mono hj hji)
      obtain ⟨hjun, oj, hoj, hall⟩ := mem_ready.1 hj
      have hnot : ∀ e ∈ oj.after, Region.binds md e = true → e.on ≠ i := fun e he hb heq => by
        have h1 := hall e he hb
        have h0 := (mem_ready.1 hr).1
        rw [heq] at h1
        rcases Nat.lt_or_ge i listed.size with h' | h'
        · simp [h'] at h0 h1; rw [h0] at h1; cases h1
        · simp [Array.getElem?_eq_none h'] at h1
      have hap := hfree j oj hoj hji hjun hnot
      obtain ⟨p1, p2, p3⟩ := Oper.apart_spec hap
      have keep : ∀ u, YieldsM P ops (fun _ => True) oi v (a.put oj.dst u) := fun u =>
        hy.of_same (execOp_put oi (fun cs b => hsel i oi cs b hi) a oj.dst u p3) (wanted_put oi a oj.dst u p3)
      have hfree' : ∀ k ok, ops[k]? = some ok → k ≠ i → (listed.setIfInBounds j true).getD k true = false →
          (∀ e ∈ ok.after, Region.binds md e = true → e.on ≠ i) → oi.apart ops ok = true := fun k ok hk hki hun hno => by
        refine hfree k ok hk hki ?_ hno
        by_cases hjk : j = k
        · subst hjk; exact hjun
        · rw [getD_set_ne true hjk] at hun; exact hun
      have hcomm : (listed.setIfInBounds j true).setIfInBounds i true = (listed.setIfInBounds i true).setIfInBounds j true := by rw [Array.setIfInBounds_comm _ _ hji]
      have cont : ∀ a' w', YieldsM P ops (fun _ => True) oi v a' → wpAny P md ops Q fuel ((listed.setIfInBounds i true).setIfInBounds j true) (a'.put oi.dst v) w' → wpAny P md ops Q (fuel + 1) (listed.setIfInBounds j true) a' w' := fun a' w' hy' h' =>
        ih (listed.setIfInBounds j true) a' w' hfree' (ready_mono hr (Ne.symm hji)) hy' (by rw [hcomm]; exact h')
      unfold wpOp at *
      simp only [hoj] at h1 ⊢
      rw [wanted_put oj a oi.dst v p1] at h1
      split
      · rename_i hw
        rw [if_pos hw] at h1
        left
        rcases h1 with h1 | ⟨_, h1⟩
        · have h0 := wp_toNo hQ h1
          exact Oper.wp_noQ (Oper.wp_mono (fun a' w' hx => cont a' w' hx.1 hx.2) (wp_put2 (Y := fun a' => YieldsM P ops (fun _ => True) oi v a') (fun cs b => hsel j oj cs b hoj) p1 p2 keep (fun d => YieldsM.of_same (a := a.put oj.dst undef) (keep undef) (by cases oj.dst <;> rfl) (by cases oj.dst <;> rfl)) h0))
        · exact absurd h1 (no_out hQ)
      · rename_i hw
        rw [if_neg hw] at h1
        exact cont _ _ (keep _) (by rw [← Act.put_comm a v undef p2]; exact h1)
theorem wpAny_toQ {Q1 : Exit → Act → World → Prop} (hQ : ∀ x a w, Q1 x a w → x = .normal) (h1 : ∀ a w, Q1 .normal a w → Q .normal a w) : ∀ (fuel : Nat) (listed : Array Bool) (a : Act) (w : World), wpAny P md ops Q1 fuel listed a w → wpAny P md ops Q fuel listed a w
  | 0, _, _, _, h => ⟨h.1, h1 _ _ h.2⟩
  | fuel + 1, listed, a, w, h => ⟨fun e => h1 _ _ (h.1 e), fun i hi => by
    have hh := h.2 i hi
    unfold wpOp at *
    split
    · rename_i hn
      simp only [hn] at hh
      exact wpAny_toQ hQ h1 fuel _ _ _ hh
    · rename_i o ho
      simp only [ho] at hh
      split
      · rename_i hw
        rw [if_pos hw] at hh
        left
        rcases hh with hh | ⟨_, hh⟩
        · exact Oper.wp_noQ (Oper.wp_mono (fun a w hx => wpAny_toQ hQ h1 fuel _ _ _ hx) (wp_toNo hQ hh))
        · exact absurd hh (no_out hQ)
      · rename_i hw
        rw [if_neg hw] at hh
        exact wpAny_toQ hQ h1 fuel _ _ _ hh⟩

/-- What is listed at the start of the walk: the two moves. -/
def two (n : Nat) : Array Bool := ((Array.replicate n false).setIfInBounds 1 true).setIfInBounds 0 true
def mix3B (ops : Array Oper) (k : Nat) : Bool :=
  Region.noSelect ops && decide (k < ops.size) && decide (2 ≤ k) && (match ops[k]? with | some o => o.guard == none | none => false) && (List.range k).all (fun i => (i == 1) || (blkArr .any ops i).getD k false) && (List.range ops.size).all (fun i => decide (i ≤ k) || (blkArr .any ops k).getD i false) &&
    mixFromG .any ops (fun listed => Region.ready .any ops listed == [k] && listed == upTo ops.size k) (k - 2) 2 (two ops.size) &&
    mixFromG .any ops (fun listed => (Region.ready .any ops listed).isEmpty) (ops.size - (k + 1)) (k + 1) ((upTo ops.size k).setIfInBounds k true) &&
    Region.free .any ops (Array.replicate ops.size false) 1 && Region.free .any ops ((Array.replicate ops.size false).setIfInBounds 1 true) 0 && (Region.ready .any ops (Array.replicate ops.size false)).contains 1 && (Region.ready .any ops ((Array.replicate ops.size false).setIfInBounds 1 true)).contains 0
theorem YieldsM.move {o : Oper} {a : Act} {x : Operand} (ho : o.op = .move x) (hg : o.guard = none) {v : Value} (hv : a.eval x = v) : YieldsM P ops (fun _ => True) o v a := by
  refine .inl ⟨by simp [Region.wanted, hg], by rw [ho]; rfl, fun w _ => ?_⟩
  unfold Oper.quietAt execOp
  simp only [ho, hv]
  exact ⟨rfl, rfl⟩
theorem wp_region_mix3 {id : Nat} {Q' : Exit → Act → World → Prop} {a : Act} {w : World} {o0 o1 : Oper} {l : List Oper} (k : Nat) (S1 : World → Prop) (hm : P.follows .mixedOrders = true) (hB : mix3B (o0 :: o1 :: l).toArray k = true) (hS : S1 w.drew)
    (x0 x1 : Operand) (v0 v1 : Value) (e0 : o0.op = .move x0) (g0 : o0.guard = none) (e1 : o1.op = .move x1) (g1 : o1.guard = none) (q1 : a.eval x1 = v1) (q0 : (a.put o1.dst v1).eval x0 = v0)
    (h : wpMix P (o0 :: o1 :: l).toArray S1 (fun a' w' => wpList P (o0 :: o1 :: l).toArray (fun x a2 w2 => x = .normal ∧ ∃ S2 : World → Prop, S2 w2 ∧ wpMix P (o0 :: o1 :: l).toArray S2 (fun a3 w3 => Q' .normal a3 w3) ((o0 :: o1 :: l).drop (k + 1)) a2 w2) (((o0 :: o1 :: l).drop k).take 1) a' w') (((o0 :: o1 :: l).take k).drop 2) ((a.put o1.dst v1).put o0.dst v0) w.drew) : (Code.region id (o0 :: o1 :: l).toArray true).wp P Q' a w := by
  have y1 : YieldsM P (o0 :: o1 :: l).toArray (fun _ => True) o1 v1 a := YieldsM.move e1 g1 q1
  have y0 : YieldsM P (o0 :: o1 :: l).toArray (fun _ => True) o0 v0 (a.put o1.dst v1) := YieldsM.move e0 g0 q0
  have t0 : (o0 :: o1 :: l).toArray[0]? = some o0 := by simp
  have t1 : (o0 :: o1 :: l).toArray[1]? = some o1 := by simp
  have hll : (o0 :: o1 :: l).length = l.length + 2 := rfl
  generalize o0 :: o1 :: l = L at *
  simp only [mix3B, Bool.and_eq_true, decide_eq_true_eq] at hB
  obtain ⟨⟨⟨⟨⟨⟨⟨⟨⟨⟨⟨hsel, hk⟩, hk2⟩, hg⟩, hb1⟩, hb2⟩, hm1⟩, hm2⟩, hf1⟩, hf0⟩, hr1⟩, hr0⟩ := hB
  have hsz : L.toArray.size = L.length := by simp
  have hkl : k < L.length := by simpa using hk
  have htl : ((L.take k).drop 2).length = k - 2 := by simp; omega
  obtain ⟨o, ho⟩ : ∃ o, L.toArray[k]? = some o := ⟨L[k], by simp⟩
  have hlo : L[k]? = some o := by simpa using ho
  have hd : (L.drop k).take 1 = [o] := by
    rw [List.drop_eq_getElem_cons hkl, List.take_succ_cons, List.take_zero]
    have := List.getElem?_eq_getElem hkl
    rw [hlo] at this
    rw [Option.some.inj this]
  rw [hd] at h
  simp only [ho] at hg
  have hg' : o.guard = none := by simpa using hg
  have hQ1 : ∀ x a w, (fun (x : Exit) (a : Act) (w : World) => x = Exit.normal ∧ Q' .normal a w) x a w → x = .normal := fun _ _ _ h => h.1
  have hC0 : ClosedL .any L.toArray (Array.replicate L.toArray.size false) := fun j oj hj hl => by
    exfalso
    simp only [Array.getD_eq_getD_getElem?, Array.getElem?_replicate] at hl
    split at hl <;> simp at hl
  have hr1' : 1 ∈ Region.ready .any L.toArray (Array.replicate L.toArray.size false) := by simpa using hr1
  have hr0' : 0 ∈ Region.ready .any L.toArray ((Array.replicate L.toArray.size false).setIfInBounds 1 true) := by simpa using hr0
  have hC2 : ClosedL .any L.toArray (two L.toArray.size) := (hC0.set hr1').set hr0'
  have hone : (two L.toArray.size).getD 1 false = true := by
    unfold two
    rw [hsz, hll]
    simp [Array.getD_eq_getD_getElem?]
  refine wp_region_any hm (wpAny_toQ (Q1 := fun x a w => x = .normal ∧ Q' .normal a w) hQ1 (fun _ _ h => h.2) _ _ _ _ ?_)
  have key : wpAny P .any L.toArray (fun x a w => x = .normal ∧ Q' .normal a w) (l.length + 1 + 1) (Array.replicate L.toArray.size false) a w.drew := by
    refine wpAny_first hQ1 t1 (Region.noSelect_spec hsel) (l.length + 1) _ a _ (Region.free_spec t1 hf1) hr1' y1 ?_
    refine wpAny_first hQ1 t0 (Region.noSelect_spec hsel) l.length _ _ _ (Region.free_spec t0 hf0) hr0' y0 ?_
    have hC : StepC .any L.toArray (fun listed => ClosedL .any L.toArray listed ∧ listed.getD 1 false = true) := fun listed j h hj => ⟨h.1.set hj, by
      by_cases e : j = 1
      · subst e
        simp only [Array.getD_eq_getD_getElem?, Array.getElem?_setIfInBounds]
        have := h.2
        simp only [Array.getD_eq_getD_getElem?] at this
        rcases Nat.lt_or_ge 1 listed.size with hs | hs
        · simp [hs]
        · rw [Array.getElem?_eq_none hs] at this; cases this
      · rw [getD_set_ne false e]; exact h.2⟩
    have hL : LastL .any L.toArray (fun listed => ClosedL .any L.toArray listed ∧ listed.getD 1 false = true) (fun listed a w => (Region.ready .any L.toArray listed = [k] ∧ listed = upTo L.toArray.size k) ∧ ClosedL .any L.toArray listed ∧ wpList P L.toArray (fun x a2 w2 => x = .normal ∧ ∃ S2 : World → Prop, S2 w2 ∧ wpMix P L.toArray S2 (fun a3 w3 => Q' .normal a3 w3) (L.drop (k + 1)) a2 w2) [o] a w) := fun listed i a w hcl hi h j hj => by
      by_cases e : j = i
      · exact e
      · exfalso
        have h1 := ready_mono hj e
        rw [h.1.1] at h1
        have hjk : j = k := by simpa using h1
        subst hjk
        obtain ⟨hun, oi, hoi, _⟩ := mem_ready.1 hi
        have hun' := getD_both' hun
        have hi1 : i ≠ 1 := by rintro rfl; rw [hcl.2] at hun'; cases hun'
        by_cases hij : i < j
        · simp only [List.all_eq_true, List.mem_range, Bool.or_eq_true, beq_iff_eq] at hb1
          exact blk_ready hcl.1 hun' ((hb1 i hij).resolve_left hi1) hj
        · have hj2 : j < i := by omega
          have hil := (Array.getElem?_eq_some_iff.1 hoi).1
          simp only [List.all_eq_true, List.mem_range, Bool.or_eq_true, decide_eq_true_eq] at hb2
          have h2 := (hb2 i hil).resolve_left (by omega)
          exact blk_ready hcl.1 (getD_both' (mem_ready.1 hj).1) h2 hi
    have hlex := wpAnyG_lex (P := P) (S := S1) (md := .any) (D := fun _ _ => False) (Q := fun a' w' => wpList P L.toArray (fun x a2 w2 => x = .normal ∧ ∃ S2 : World → Prop, S2 w2 ∧ wpMix P L.toArray S2 (fun a3 w3 => Q' .normal a3 w3) (L.drop (k + 1)) a2 w2) [o] a' w') hC hL
      (base := fun listed => Region.ready .any L.toArray listed == [k] && listed == upTo L.toArray.size k) (fun listed a w hc hb h => ⟨by simpa using hb, hc, h⟩) hsel ((L.take k).drop 2) 2 (two L.toArray.size) _ w.drew hS ⟨hC2, hone⟩ hC2 (fun j hj => by
        rw [htl] at hj
        rw [List.getElem?_drop, List.getElem?_take_of_lt (by omega)]
        simp) (by rw [htl]; exact hm1) h
    have hall := wpAny_of_mixG (m := L.toArray.size - (k + 1) + 1) (Q' := fun x a w => x = .normal ∧ Q' .normal a w) (md := .any) (fun _ _ _ h => h.elim) (fun listed a' w' hw' h => ?_) _ _ _ _ hS hlex
    · rw [htl] at hall
      have e : (k - 2) + (L.toArray.size - (k + 1) + 1) = l.length := by omega
      rw [e] at hall
      exact hall
    · obtain ⟨⟨hr, hle⟩, hcl, hw2⟩ := h
      refine ⟨fun h0 => by rw [hr] at h0; simp at h0, fun i hi => ?_⟩
      rw [hr] at hi
      have hik : i = k := by simpa using hi
      subst hik
      have hir : i ∈ Region.ready .any L.toArray listed := by rw [hr]; simp
      unfold wpOp
      simp only [ho]
      unfold wpList at hw2
      have hwt : Region.wanted o (yielded L.toArray a'.tmps) = true := by simp [Region.wanted, hg']
      rw [if_pos hwt] at hw2 ⊢
      left
      have cont : ∀ (S2 : World → Prop) a2 w2, S2 w2 → wpMix P L.toArray S2 (fun a3 w3 => Q' .normal a3 w3) (L.drop (i + 1)) a2 w2 → wpAny P .any L.toArray (fun x a w => x = .normal ∧ Q' .normal a w) (L.toArray.size - (i + 1)) (listed.setIfInBounds i true) a2 w2 := fun S2 a2 w2 h2 hx => by
        have hlex2 := wpAnyG_lex (P := P) (S := S2) (md := .any) (D := fun a' w' => Q' .normal a' w') (L := fun listed a w => Region.ready .any L.toArray listed = [] ∧ Q' .normal a w) (Q := fun a3 w3 => Q' .normal a3 w3) (C := fun _ => True) (fun _ _ _ _ => trivial) (fun listed i a w _ hi h j hj => by
          by_cases e : j = i
          · exact e
          · have := ready_mono hj e
            rw [h.1] at this
            cases this) (base := fun listed => (Region.ready .any L.toArray listed).isEmpty) (fun listed a w _ hb h => ⟨by simpa using hb, h⟩) hsel (L.drop (i + 1)) (i + 1) (listed.setIfInBounds i true) a2 w2 h2 trivial (hcl.set hir) (fun j hj => by simp [List.getElem?_drop]) (by
            rw [hle]
            have e : (L.drop (i + 1)).length = L.toArray.size - (i + 1) := by simp
            rw [e]
            exact hm2) hx
        have e : (L.drop (i + 1)).length = L.toArray.size - (i + 1) := by simp
        rw [e] at hlex2
        exact wpAny_of_mix (S := S2) (Q := fun a' w' => Q' .normal a' w') (fun _ _ _ h => ⟨rfl, h⟩) _ _ _ _ h2 hlex2
      rcases hw2 with hw2 | ⟨_, hw2⟩
      · have h0 := wp_toNo (fun x a w h => h.1) hw2
        exact Oper.wp_noQ (Oper.wp_mono (fun a2 w2 hx => by obtain ⟨_, S2, h1, h2⟩ := hx; exact cont S2 a2 w2 h1 h2) h0)
      · obtain ⟨_, _, hx⟩ := hw2
        cases hx.1
  have e2 : L.toArray.size = l.length + 1 + 1 := by rw [hsz, hll]
  have key2 := key
  rw [← e2] at key2
  exact key2
end
end Go.Proofs.Ytgjabgneapdbiaa

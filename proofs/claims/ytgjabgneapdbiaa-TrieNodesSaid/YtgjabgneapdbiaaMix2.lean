/- A region that draws its order whose operations fall in two parts, one operation between them: each part with a class of worlds of its own. -/
import Derived.Test.YtgjabgneapdbiaaMix
namespace Go.Proofs.Ytgjabgneapdbiaa
open Go.RowKit
set_option linter.unusedSimpArgs false
set_option linter.unusedVariables false

section
variable {P : Program} {S S1 S2 : World → Prop}
def upTo (n k : Nat) : Array Bool := (List.range k).foldl (fun acc i => acc.setIfInBounds i true) (Array.replicate n false)
def mix2B (md : Region.Mode) (ops : Array Oper) (k : Nat) : Bool :=
  Region.noSelect ops && decide (k < ops.size) && (match ops[k]? with | some o => o.guard == none | none => false) && (List.range k).all (fun i => (blkArr md ops i).getD k false) && (List.range ops.size).all (fun i => decide (i ≤ k) || (blkArr md ops k).getD i false) &&
    mixFromG md ops (fun listed => Region.ready md ops listed == [k] && listed == upTo ops.size k) k 0 (Array.replicate ops.size false) &&
    mixFromG md ops (fun listed => (Region.ready md ops listed).isEmpty) (ops.size - (k + 1)) (k + 1) ((upTo ops.size k).setIfInBounds k true)

theorem wp_toNo {o : Oper} {a : Act} {w : World} {K : Act → World → Prop} {Q : Exit → Act → World → Prop} (hq : ∀ x a w, Q x a w → x = .normal) (h : o.wp P a w K Q) : o.wp P a w K noQ := by
  have hp : ∀ c a w, ¬ Q (.panic c) a w := fun c a w h => by have := hq _ _ _ h; cases this
  have ho : ¬ LetsOut Q := fun ⟨a, w, h⟩ => by have := hq _ _ _ h; cases this
  unfold Oper.wp at *
  generalize (execOp a.eval o).run P w = r at *
  cases r with
  | ok n w' =>
    cases n <;> simp only [Oper.upon] at h ⊢ <;>
      first
        | exact h
        | exact Calls.mono h (fun e w'' he => by
            cases e
            · exact he
            · exact (hp _ _ _ he).elim
            · exact (ho he).elim)
  | halt x w' => cases x <;> simp only [Oper.upon] at h ⊢ <;> first | exact h | exact (hp _ _ _ h).elim
theorem wp_region_mix2 {id : Nat} {Q' : Exit → Act → World → Prop} {a : Act} {w : World} {l : List Oper} (k : Nat) (S1 : World → Prop) (hm : P.follows .mixedOrders = true) (hB : mix2B .any l.toArray k = true) (hS : S1 w.drew)
    (h : wpMix P l.toArray S1 (fun a' w' => wpList P l.toArray (fun x a2 w2 => x = .normal ∧ ∃ S2 : World → Prop, S2 w2 ∧ wpMix P l.toArray S2 (fun a3 w3 => Q' .normal a3 w3) (l.drop (k + 1)) a2 w2) ((l.drop k).take 1) a' w') (l.take k) a w.drew) : (Code.region id l.toArray true).wp P Q' a w := by
  simp only [mix2B, Bool.and_eq_true, decide_eq_true_eq] at hB
  obtain ⟨⟨⟨⟨⟨⟨hsel, hk⟩, hg⟩, hb1⟩, hb2⟩, hm1⟩, hm2⟩ := hB
  have hkl : k < l.length := by simpa using hk
  have htl : (l.take k).length = k := by simp; omega
  obtain ⟨o, ho⟩ : ∃ o, l.toArray[k]? = some o := ⟨l[k], by simp⟩
  have hlo : l[k]? = some o := by simpa using ho
  have hd : (l.drop k).take 1 = [o] := by
    rw [List.drop_eq_getElem_cons hkl, List.take_succ_cons, List.take_zero]
    have := List.getElem?_eq_getElem hkl
    rw [hlo] at this
    rw [Option.some.inj this]
  rw [hd] at h
  simp only [ho] at hg
  have hg' : o.guard = none := by simpa using hg
  have hL : LastL .any l.toArray (ClosedL .any l.toArray) (fun listed a w => (Region.ready .any l.toArray listed = [k] ∧ listed = upTo l.toArray.size k) ∧ ClosedL .any l.toArray listed ∧ wpList P l.toArray (fun x a2 w2 => x = .normal ∧ ∃ S2 : World → Prop, S2 w2 ∧ wpMix P l.toArray S2 (fun a3 w3 => Q' .normal a3 w3) (l.drop (k + 1)) a2 w2) [o] a w) := fun listed i a w hcl hi h j hj => by
    by_cases e : j = i
    · exact e
    · exfalso
      have h1 := ready_mono hj e
      rw [h.1.1] at h1
      have hjk : j = k := by simpa using h1
      subst hjk
      obtain ⟨hun, oi, hoi, _⟩ := mem_ready.1 hi
      have hun' := getD_both' hun
      by_cases hij : i < j
      · simp only [List.all_eq_true, List.mem_range] at hb1
        exact blk_ready hcl hun' (hb1 i hij) hj
      · have hij2 : j < i := by omega
        have hil := (Array.getElem?_eq_some_iff.1 hoi).1
        simp only [List.all_eq_true, List.mem_range, Bool.or_eq_true, decide_eq_true_eq] at hb2
        have h2 := (hb2 i hil).resolve_left (by omega)
        exact blk_ready hcl (getD_both' (mem_ready.1 hj).1) h2 hi
  have hlex := wpAnyG_lex (P := P) (S := S1) (md := .any) (D := fun _ _ => False) (Q := fun a' w' => wpList P l.toArray (fun x a2 w2 => x = .normal ∧ ∃ S2 : World → Prop, S2 w2 ∧ wpMix P l.toArray S2 (fun a3 w3 => Q' .normal a3 w3) (l.drop (k + 1)) a2 w2) [o] a' w') (fun _ _ h hj => h.set hj) hL
    (base := fun listed => Region.ready .any l.toArray listed == [k] && listed == upTo l.toArray.size k) (fun listed a w hc hb h => ⟨by simpa using hb, hc, h⟩) hsel (l.take k) 0 (Array.replicate l.toArray.size false) a w.drew hS (fun j oj hj hl => by
      exfalso
      simp only [Array.getD_eq_getD_getElem?, Array.getElem?_replicate] at hl
      split at hl <;> simp at hl)
    (fun j oj hj hl => by
      exfalso
      simp only [Array.getD_eq_getD_getElem?, Array.getElem?_replicate] at hl
      split at hl <;> simp at hl) ?_ ?_ h
  · refine wp_region_any hm ?_
    have hall := wpAny_of_mixG (m := l.toArray.size - (k + 1) + 1) (Q' := Q') (md := .any) (fun _ _ _ h => h.elim) (fun listed a' w' hw' h => ?_) _ _ _ _ hS hlex
    · rw [htl] at hall
      have e : k + (l.toArray.size - (k + 1) + 1) = l.toArray.size := by omega
      rw [e] at hall
      exact hall
    · obtain ⟨⟨hr, hle⟩, hcl, hw2⟩ := h
      refine ⟨fun h0 => by rw [hr] at h0; simp at h0, fun i hi => ?_⟩
      rw [hr] at hi
      have hik : i = k := by simpa using hi
      subst hik
      have hir : i ∈ Region.ready .any l.toArray listed := by rw [hr]; simp
      unfold wpOp
      simp only [ho]
      unfold wpList at hw2
      have hwt : Region.wanted o (yielded l.toArray a'.tmps) = true := by simp [Region.wanted, hg']
      rw [if_pos hwt] at hw2 ⊢
      left
      have cont : ∀ (S2 : World → Prop) a2 w2, S2 w2 → wpMix P l.toArray S2 (fun a3 w3 => Q' .normal a3 w3) (l.drop (i + 1)) a2 w2 → wpAny P .any l.toArray Q' (l.toArray.size - (i + 1)) (listed.setIfInBounds i true) a2 w2 := fun S2 a2 w2 h2 hx => by
        have hlex2 := wpAnyG_lex (P := P) (S := S2) (md := .any) (D := fun a' w' => Q' .normal a' w') (L := fun listed a w => Region.ready .any l.toArray listed = [] ∧ Q' .normal a w) (Q := fun a3 w3 => Q' .normal a3 w3) (C := fun _ => True) (fun _ _ _ _ => trivial) (fun listed i a w _ hi h j hj => by
          by_cases e : j = i
          · exact e
          · have := ready_mono hj e
            rw [h.1] at this
            cases this) (base := fun listed => (Region.ready .any l.toArray listed).isEmpty) (fun listed a w _ hb h => ⟨by simpa using hb, h⟩) hsel (l.drop (i + 1)) (i + 1) (listed.setIfInBounds i true) a2 w2 h2 trivial (hcl.set hir) (fun j hj => by simp [List.getElem?_drop]) (by
            rw [hle]
            have e : (l.drop (i + 1)).length = l.toArray.size - (i + 1) := by simp
            rw [e]
            exact hm2) hx
        have e : (l.drop (i + 1)).length = l.toArray.size - (i + 1) := by simp
        rw [e] at hlex2
        exact wpAny_of_mix (S := S2) (Q := fun a' w' => Q' .normal a' w') (fun _ _ _ h => h) _ _ _ _ h2 hlex2
      rcases hw2 with hw2 | ⟨_, hw2⟩
      · have h0 := wp_toNo (fun x a w h => h.1) hw2
        exact Oper.wp_noQ (Oper.wp_mono (fun a2 w2 hx => by obtain ⟨_, S2, h1, h2⟩ := hx; exact cont S2 a2 w2 h1 h2) h0)
      · obtain ⟨_, _, hx⟩ := hw2
        cases hx.1
  · intro j hj
    rw [htl] at hj
    rw [List.getElem?_take_of_lt hj]; simp
  · rw [htl]; exact hm1
end
end Go.Proofs.Ytgjabgneapdbiaa

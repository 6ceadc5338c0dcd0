/- What the document's Set answers, and what dir.Set answers, are one; how many blocks are owned behind each act. -/
import Derived.Test.YtgjabgneapdbiaaDirEnd
namespace Go.Proofs.Ytgjabgneapdbiaa
open Go.RowKit Go.BigFrame
set_option linter.unusedSimpArgs false
set_option linter.unusedVariables false
attribute [local irreducible] wpMix wpAnyG

theorem owned_nodup (p : PrefixM) : (ownedL p).Nodup := by
  unfold ownedL
  split <;> split <;> simp
  exact oh_ob _ _
theorem ownN_le2 {l l' : List EntM} (h : ∀ o, cnt l o ≠ 0 → cnt l' o ≠ 0) : ownN l ≤ ownN l' := by
  rw [← owners_len, ← owners_len]
  exact nodup_le _ _ (owners_nodup l) (fun o ho => (owners_mem l' o).2 (h o ((owners_mem l o).1 ho)))
theorem ownN_eq {l l' : List EntM} (h : ∀ o, cnt l o ≠ 0 ↔ cnt l' o ≠ 0) : ownN l = ownN l' :=
  Nat.le_antisymm (ownN_le2 (fun o => (h o).1)) (ownN_le2 (fun o => (h o).2))
theorem ownN_put_old {l : List EntM} {p : PrefixM} (h : hasE l p = true) (v : Int) : ownN (putE l p v) = ownN l :=
  ownN_eq (fun o => by rw [cnt_put_old h])
theorem ownN_put_new {l : List EntM} {p : PrefixM} (h : hasE l p = false) (v : Int) : ownN (putE l p v) = ownN l + needN l p := by
  have hm : ∀ o, o ∈ ownersL (putE l p v) ↔ o ∈ ownersL l ++ (ownedL p).filter (fun o => decide (cnt l o = 0)) := fun o => by
    rw [owners_mem, List.mem_append, owners_mem, cnt_put_new h, List.mem_filter, decide_eq_true_eq]
    by_cases h1 : cnt l o = 0
    · by_cases h2 : o ∈ ownedL p <;> simp [h1, h2]
    · simp [h1]
  have hn : (ownersL l ++ (ownedL p).filter (fun o => decide (cnt l o = 0))).Nodup := by
    rw [List.nodup_append]
    refine ⟨owners_nodup l, (owned_nodup p).filter _, fun a ha b hb e => ?_⟩
    subst e
    rw [owners_mem] at ha
    rw [List.mem_filter, decide_eq_true_eq] at hb
    exact ha hb.2
  have l1 := nodup_le _ _ (owners_nodup (putE l p v)) (fun o ho => (hm o).1 ho)
  have l2 := nodup_le _ _ hn (fun o ho => (hm o).2 ho)
  have e : ((ownedL p).filter (fun o => decide (cnt l o = 0))).length = needN l p := by unfold needN; rw [List.countP_eq_length_filter]
  rw [List.length_append, owners_len, owners_len, e] at l1
  rw [List.length_append, owners_len, owners_len, e] at l2
  omega
theorem ownN_del (l : List EntM) (p : PrefixM) : ownN (delE l p) ≤ ownN l := by
  cases h : hasE l p with
  | true => exact ownN_le2 (fun o ho => by rw [cnt_del h]; omega)
  | false => unfold delE; rw [h]; exact Nat.le_refl _
/-- What the document's Set answers. -/
def docX (most : Int) (l : List EntM) (p : PrefixM) (v : Int) : StepE :=
  if 0 ≤ v then (if p = normP p then (if (ownN (putE l p v) : Int) ≤ most then ⟨0, putE l p v⟩ else ⟨6, l⟩) else ⟨1, l⟩) else ⟨1, l⟩
theorem docX_dirX {most : Int} {l : List EntM} (h : (ownN l : Int) ≤ most) (p : PrefixM) (v : Int) : docX most l p v = dirX most l p v := by
  unfold docX dirX
  by_cases h1 : 0 ≤ v
  · by_cases h2 : p = normP p
    · rw [if_pos h1, if_pos h2, if_pos (show p = normP p ∧ 0 ≤ v from ⟨h2, h1⟩)]
      cases h3 : hasE l p with
      | true => rw [ownN_put_old h3, if_pos h, if_pos (.inl rfl)]
      | false =>
        rw [ownN_put_new h3]
        by_cases h4 : (needN l p : Int) ≤ most - (ownN l : Int)
        · rw [if_pos (by omega), if_pos (.inr h4)]
        · rw [if_neg (by omega), if_neg (by simp [h4])]
    · rw [if_pos h1, if_neg h2, if_neg (fun h => h2 h.1)]
  · rw [if_neg h1, if_neg (fun h => h1 h.2)]
theorem dirX_own {most : Int} {l : List EntM} (h : (ownN l : Int) ≤ most) (p : PrefixM) (v : Int) : (ownN (dirX most l p v).l : Int) ≤ most := by
  rw [← docX_dirX h]
  unfold docX
  split
  · split
    · split
      · assumption
      · exact h
    · exact h
  · exact h
theorem dirX_len (most : Int) (l : List EntM) (p : PrefixM) (v : Int) : (dirX most l p v).l.length ≤ l.length + 1 := by
  unfold dirX
  split
  · split
    · exact putE_len l p v
    · exact Nat.le_succ _
  · exact Nat.le_succ _
theorem dirX_mem {most : Int} {l : List EntM} (hs : SortedE l) {p : PrefixM} {v : Int} {x : EntM} (h : x ∈ (dirX most l p v).l) : x = ⟨p, v⟩ ∨ x ∈ l := by
  unfold dirX at h
  split at h
  · split at h
    · exact ((put_E_mem hs p v x).1 h).imp id (·.1)
    · exact .inr h
  · exact .inr h
theorem del_put {l : List EntM} (hs : SortedE l) {p : PrefixM} (h : hasE l p = false) (v : Int) : delE (putE l p v) p = l := by
  refine eq_of_sorted (del_E_sorted (put_E_sorted hs p v) p) hs (fun x => ?_)
  rw [del_E_mem (put_E_sorted hs p v), put_E_mem hs]
  constructor
  · rintro ⟨rfl | h1, h2⟩
    · exact absurd rfl h2
    · exact h1.1
  · intro hx
    have hne : x.p ≠ p := fun e => by
      have := (hasE_iff hs p).2 ⟨x, hx, e⟩
      rw [h] at this; cases this
    exact ⟨.inr ⟨hx, hne⟩, hne⟩
theorem has_put {l : List EntM} (hs : SortedE l) (p : PrefixM) (v : Int) : hasE (putE l p v) p = true :=
  (hasE_iff (put_E_sorted hs p v) p).2 ⟨⟨p, v⟩, (put_E_mem hs p v _).2 (.inl rfl), rfl⟩
end Go.Proofs.Ytgjabgneapdbiaa

/- The law DirOwned, walked: it returns true. -/
import Derived.Test.YtgjabgneapdbiaaDirPlays
import Derived.Lib.QuoteBits
namespace Go.Proofs.Ytgjabgneapdbiaa
open Go.RowKit Go.BigFrame
set_option linter.unusedSimpArgs false
set_option linter.unusedVariables false
attribute [local irreducible] wpMix wpAnyG

/-- A Dir of the call's own. -/
def MyDir (w0 w : World) (g : Nat) (most : Int) (l : List EntM) (m nb : Nat) : Prop := Fr noB w0 w ∧ ∃ D : Nat → Prop, DirRep w D g most l m nb ∧ ∀ b, D b → w0.heap.size ≤ b
theorem MyDir.new {w0 w w' : World} {g : Nat} {most : Int} {l : List EntM} {m nb : Nat} (h0 : Fr noB w0 w) (h : DirRep w' (newF w w') g most l m nb) (hf : Fr noB w w') : MyDir w0 w' g most l m nb :=
  ⟨h0.tr hf, newF w w', h, fun b hb => by have := hb.1; have := h0.size; omega⟩
theorem MyDir.step {w0 w w' : World} {D : Nat → Prop} {g : Nat} {most : Int} {l' : List EntM} {m nb : Nat} {v : Value} {e : Ending} (h0 : Fr noB w0 w) (h1 : ∀ b, D b → w0.heap.size ≤ b) (h : DirTo w D g most l' m nb v e w') : e = .returned v ∧ MyDir w0 w' g most l' m nb := by
  obtain ⟨he, ht, hf⟩ := h
  refine ⟨he, h0.trans hf (fun _ _ h => h) (fun b hb h => by have := h1 b h; omega), gr D w w', ht, fun b hb => ?_⟩
  rcases hb with hb | hb
  · exact h1 b hb
  · have := h0.size; omega
theorem MyDir.fr {w0 w w' : World} {g m nb : Nat} {most : Int} {l : List EntM} (h : MyDir w0 w g most l m nb) (f : Fr noB w w') : MyDir w0 w' g most l m nb := by
  obtain ⟨h0, D, h1, h2⟩ := h
  exact ⟨h0.tr f, D, h1.fr f (fun _ _ h => h), h2⟩
theorem MyDir.up {w0 w : World} {g m nb m' nb' : Nat} {most : Int} {l : List EntM} (h : MyDir w0 w g most l m nb) (hm : m ≤ m') (hn : nb ≤ nb') (hn' : nb' ≤ 1000000) : MyDir w0 w g most l m' nb' := by
  obtain ⟨h0, D, h1, h2⟩ := h
  exact ⟨h0, D, h1.up hm hn hn', h2⟩
theorem my_set {w0 w : World} {g : Nat} {most : Int} {l : List EntM} {m nb : Nat} (h : MyDir w0 w g most l m nb) (hm : m + 2 ≤ 1000000) (hnb : nb + 2 ≤ 1000000) (hmost : 0 ≤ most ∧ i64b most) (p : PrefixM) (hp : p.wf) (v : Int) (hv : i64b v) :
    Calls Try.prog 41 #[.pointer (some ⟨g, 0, none⟩), .agg p.cells.toArray, .int .i64 v] w fun e w' => e = .returned (.int .i64 (dirX most l p v).e) ∧ MyDir w0 w' g most (dirX most l p v).l (m + 2) (nb + 2) := by
  obtain ⟨h0, D, h1, h2⟩ := h
  exact (dir_setX w D g most l m nb h1 hm hnb hmost p hp v hv).mono fun e w' h => MyDir.step h0 h2 h
theorem my_del {w0 w : World} {g : Nat} {most : Int} {l : List EntM} {m nb : Nat} (h : MyDir w0 w g most l m nb) (hnb : nb + 2 ≤ 1000000) (p : PrefixM) (hp : p.wf) :
    Calls Try.prog 49 #[.pointer (some ⟨g, 0, none⟩), .agg p.cells.toArray] w fun e w' => e = .returned (.bool (hasE l p)) ∧ MyDir w0 w' g most (delE l p) m (nb + 2) := by
  obtain ⟨h0, D, h1, h2⟩ := h
  exact (dir_del w D g most l m nb h1 hnb p hp).mono fun e w' h => MyDir.step h0 h2 h
theorem my_look {w0 w : World} {g : Nat} {most : Int} {l : List EntM} {m nb : Nat} (h : MyDir w0 w g most l m nb) (a : Nat) (ha : a < 4294967296) :
    Calls Try.prog 42 #[.pointer (some ⟨g, 0, none⟩), .int .u32 (a : Nat)] w fun e w' => e = .returned (getV (longE l a)) ∧ Fr noB w w' := by
  obtain ⟨h0, D, h1, h2⟩ := h
  exact dir_look w D g most l m nb h1 a ha
theorem my_blocks {w0 w : World} {g : Nat} {most : Int} {l : List EntM} {m nb : Nat} (h : MyDir w0 w g most l m nb) :
    Calls Try.prog 43 #[.pointer (some ⟨g, 0, none⟩)] w fun e w' => e = .returned (.int .i64 (ownN l : Nat)) ∧ w' = w := by
  obtain ⟨h0, D, h1, h2⟩ := h
  exact dir_blocks w D g most l m nb h1
theorem my_len {w0 w : World} {g : Nat} {most : Int} {l : List EntM} {m nb : Nat} (h : MyDir w0 w g most l m nb) :
    Calls Try.prog 51 #[.pointer (some ⟨g, 0, none⟩)] w fun e w' => e = .returned (.int .i64 (l.length : Nat)) ∧ w' = w := by
  obtain ⟨h0, D, h1, h2⟩ := h
  exact dir_len w D g most l m nb h1
theorem MyDir.trie {w0 w : World} {g m nb : Nat} {most : Int} {l : List EntM} (h : MyDir w0 w g most l m nb) : SortedE l ∧ ∀ x ∈ l, okP x.p := by
  obtain ⟨h0, D, h1, h2⟩ := h
  exact h1.trie

theorem mask_and63 (n : Int) : ∃ m : Nat, m ≤ 63 ∧ bits BinOp.and IntKind.i64 n 63 = (m : Int) := by
  refine ⟨(BitVec.ofInt 64 n).toNat % 64, by omega, ?_⟩
  show IntKind.i64.wrap ((BitVec.ofInt 64 n &&& BitVec.ofInt 64 63).toNat : Int) = _
  have e : (BitVec.ofInt 64 63).toNat = 2 ^ 6 - 1 := by decide
  rw [BitVec.toNat_and, e, Nat.and_two_pow_sub_one_eq_mod]
  exact Lib.wrap_i64_small _ (by omega)
theorem norm_in {a : Nat} {n : Int} (ha : a < 4294967296) : inP (normP ⟨a, n⟩) a := by
  have hh : heldN (normP ⟨a, n⟩).len = heldN n := by
    show heldN (heldI n) = heldN n
    have := heldI_bd n
    unfold heldN
    have e : heldI (heldI n) = heldI n := by unfold heldI; omega
    rw [e]
  unfold inP szP
  rw [hh]
  show normN a n ≤ a ∧ a < normN a n + _
  rw [normN_eq a n ha]
  have h1 := Nat.div_mul_le_self a (2 ^ (32 - heldN n))
  have h2 := Nat.div_add_mod a (2 ^ (32 - heldN n))
  have h3 := Nat.mod_lt a (Nat.two_pow_pos (32 - heldN n))
  rw [Nat.mul_comm] at h2
  omega
def wantN (p : PrefixM) : Nat := (if 16 < p.len then 1 else 0) + (if 24 < p.len then 1 else 0)
theorem need_one (p : PrefixM) : needN [] p = wantN p := by
  have h : needN [] p = (ownedL p).length := by
    unfold needN
    rw [List.countP_eq_length]
    intro o _
    simp [cnt]
  rw [h]
  unfold ownedL wantN
  split <;> split <;> rfl
theorem own_nil : ownN [] = 0 := rfl
theorem put_one (p : PrefixM) (v : Int) : putE [] p v = [⟨p, v⟩] := by
  unfold putE hasE posE
  simp
theorem has_nil (p : PrefixM) : hasE [] p = false := by
  unfold hasE posE
  simp
theorem dirX_one {p : PrefixM} (hp : okP p) {most v : Int} (hv : 0 ≤ v) : dirX most [] p v = if (wantN p : Int) ≤ most then ⟨0, [⟨p, v⟩]⟩ else ⟨6, []⟩ := by
  unfold dirX
  rw [if_pos (show p = normP p ∧ 0 ≤ v from ⟨hp.1, hv⟩), need_one, own_nil, has_nil, put_one]
  by_cases h : (wantN p : Int) ≤ most
  · rw [if_pos h, if_pos (.inr (by omega))]
  · rw [if_neg h, if_neg (by simp; omega)]
theorem own_single (p : PrefixM) (v : Int) : ownN [⟨p, v⟩] = wantN p := by
  rw [← put_one p v, ownN_put_new (has_nil p), own_nil, need_one, Nat.zero_add]
theorem long_one {p : PrefixM} (hp : okP p) (v : Int) {a : Nat} (ha : a < 4294967296) (h : inP p a) : longE [⟨p, v⟩] a = some ⟨p, v⟩ :=
  long_is (List.pairwise_singleton _ _) (fun x hx => by simp only [List.mem_singleton] at hx; subst hx; exact hp) ha (List.mem_singleton.2 rfl) h (fun y hy _ => by simp only [List.mem_singleton] at hy; subst hy; exact Int.le_refl _)

set_option maxRecDepth 100000 in
set_option maxHeartbeats 8000000 in
theorem law_downed (a : Nat) (ha : a < 4294967296) (n : Int) (w : World) :
    Calls Try.prog 13 #[.int .u32 (a : Nat), .int .i64 n] w fun e w' => e = .returned (.bool true) ∧ Fr noB w w' := by
  obtain ⟨m, hm, hbm⟩ := mask_and63 n
  have hr : 0 ≤ (m : Int) % 33 ∧ (m : Int) % 33 ≤ 32 := by omega
  go_enter Try.func13, Try.ntmps13
  go_wp2_with (refine wpList_build_as rfl 28 _ rfl (PrefixM.mk a ((m : Int) % 33)).cells.toArray (by kernel_rfl) ?_)
  clear hbm
  generalize (m : Int) % 33 = n' at *
  have hwf : (PrefixM.mk a n').wf := ⟨ha, by unfold i64b; simp only; omega⟩
  refine (ref3_Norm ⟨a, n'⟩ hwf w).mono ?_
  rintro e w1 ⟨rfl, hf1⟩
  have hpo : okP (normP ⟨a, n'⟩) := okP.norm hwf
  have hpi : inP (normP ⟨a, n'⟩) a := norm_in ha
  generalize normP ⟨a, n'⟩ = p at *
  have Hpo := hide hpo; have Hpi := hide hpi; have Hf1 := hide hf1
  clear hf1 hpi hwf hr hm
  go_upto_region 2 with (refine wpList_store_new rfl 28 _ _ rfl _ _ (PrefixM.cells _) _ rfl rfl (by simp) (by kernel_rfl) rfl (by kernel_rfl) ?_)
  refine wp_gen (fun W => CellsAt W w1.heap.size 0 p.cells ∧ Fr noB w W) ⟨cells_new _ _ _ rfl, Hf1.out.alloc _⟩ ?_
  rintro w2 ⟨hc2, hf2⟩
  have Hc2 := hide hc2; have Hf2 := hide hf2
  clear hc2 hf2
  obtain ⟨bp, hbp⟩ : ∃ b, w1.heap.size = b := ⟨_, rfl⟩
  rw [hbp] at Hc2 ⊢
  clear hbp
  go_wp2_with fail
  refine (dir_new w2 2 (by unfold i64b; decide)).mono ?_
  rintro e w3 ⟨g, rfl, hr3, hf3⟩
  rw [show max (2 : Int) 0 = 2 from rfl] at hr3
  have Hd3 := hide (MyDir.new (Fr.refl noB w2) hr3 hf3)
  have hc3 : CellsAt w3 bp 0 p.cells := Hc2.out.fr hf3 (fun h => h)
  clear hr3 hf3
  go_wp2_with (refine wpList_load_atw rfl 28 _ rfl _ _ rfl (PrefixM.cells _) (by (repeat (first | assumption | exact cells_new _ _ _ (by simp) | refine CellsAt.alloc ?_ _ | refine CellsAt.drew ?_ | refine CellsAt.drewN ?_ _))) _ Try.underlying28 rfl (by kernel_rfl) ?_)
  refine (my_set Hd3.out (by decide) (by decide) ⟨by decide, by unfold i64b; decide⟩ p Hpo.out.2 7 (by unfold i64b; decide)).mono ?_
  rw [dirX_one Hpo.out (by decide), if_pos (by unfold wantN; split <;> split <;> decide)]
  rintro e w4 ⟨rfl, hd4⟩
  have Hd4 := hide hd4
  have hc4 : CellsAt w4 bp 0 p.cells := Hc2.out.fr hd4.1 (fun h => h)
  have Hc4 := hide hc4
  have p1 : w4.cell? ⟨bp, 1, none⟩ = some (.int .i64 p.len) := by have := hc4 1 _ rfl; rwa [Nat.zero_add] at this
  clear hd4 hc3 hc4 hpo
  have hcase : (¬ 16 < p.len ∧ ¬ 24 < p.len ∧ wantN p = 0) ∨ (16 < p.len ∧ ¬ 24 < p.len ∧ wantN p = 1) ∨ (16 < p.len ∧ 24 < p.len ∧ wantN p = 2) := by
    unfold wantN
    by_cases h1 : 16 < p.len
    · by_cases h2 : 24 < p.len
      · exact .inr (.inr ⟨h1, h2, by rw [if_pos h1, if_pos h2]⟩)
      · exact .inr (.inl ⟨h1, h2, by rw [if_pos h1, if_neg h2]⟩)
    · exact .inl ⟨h1, by omega, by rw [if_neg h1, if_neg (by omega)]⟩
  rcases hcase with ⟨h1, h2, h3⟩ | ⟨h1, h2, h3⟩ | ⟨h1, h2, h3⟩
  case' inl =>
    have d1 : decide (16 < p.len) = false := decide_eq_false h1
    have d2 : decide (24 < p.len) = false := decide_eq_false h2
    have H3 := hide h3
    have HN := hide (show dirX (max ((wantN p : Int) - 1) 0) [] p 7 = ⟨0, [⟨p, 7⟩]⟩ from by rw [dirX_one Hpo.out (by decide), h3, if_pos (by decide)])
  case' inr.inl =>
    have d1 : decide (16 < p.len) = true := decide_eq_true h1
    have d2 : decide (24 < p.len) = false := decide_eq_false h2
    have H3 := hide h3
    have HN := hide (show dirX (max ((wantN p : Int) - 1) 0) [] p 7 = ⟨6, []⟩ from by rw [dirX_one Hpo.out (by decide), h3, if_neg (by decide)])
  case' inr.inr =>
    have d1 : decide (16 < p.len) = true := decide_eq_true h1
    have d2 : decide (24 < p.len) = true := decide_eq_true h2
    have H3 := hide h3
    have HN := hide (show dirX (max ((wantN p : Int) - 1) 0) [] p 7 = ⟨6, []⟩ from by rw [dirX_one Hpo.out (by decide), h3, if_neg (by decide)])
  all_goals
    clear h1 h2 h3
    go_wp2_with fail
    refine (my_look Hd4.out a ha).mono ?_
    rw [long_one Hpo.out 7 ha Hpi.out]
    rintro e w5 ⟨rfl, hf5⟩
    unfold getV
    have Hd5 := hide (Hd4.out.fr hf5); have Hc5 := hide (Hc4.out.fr hf5 (fun h => h))
    clear hf5 p1 d1 d2
    go_wp2_with fail
    refine (dir_new w5 _ (by unfold i64b; decide)).mono ?_
    rintro e w6 ⟨gc, rfl, hr6, hf6⟩
    have Hd6 := hide (Hd5.out.fr hf6); have Hc6 := hide (Hc5.out.fr hf6 (fun h => h))
    have He6 := hide (MyDir.new (Fr.refl noB w5) hr6 hf6)
    clear hr6 hf6
    go_wp2_with fail
    refine (my_blocks Hd6.out).mono ?_
    rw [own_single, H3.out]
    rintro e w7 ⟨rfl, rfl⟩
    have hc7 : CellsAt w7 bp 0 p.cells := Hc6.out
    go_wp2_with (refine wpList_load_atw rfl 28 _ rfl _ _ rfl (PrefixM.cells _) (by (repeat (first | assumption | exact cells_new _ _ _ (by simp) | refine CellsAt.alloc ?_ _ | refine CellsAt.drew ?_ | refine CellsAt.drewN ?_ _))) _ Try.underlying28 rfl (by kernel_rfl) ?_)
    refine (my_set He6.out (by decide) (by decide) ⟨by decide, by unfold i64b; decide⟩ p Hpo.out.2 7 (by unfold i64b; decide)).mono ?_
    have hn := HN.out
    rw [H3.out] at hn
    first | rw [show max (((0 : Nat) : Int) - 1) 0 = max (-1) 0 from rfl] at hn | rw [show max (((1 : Nat) : Int) - 1) 0 = max 0 0 from rfl] at hn | rw [show max (((2 : Nat) : Int) - 1) 0 = max 1 0 from rfl] at hn
    rw [hn]
    rintro e w8 ⟨rfl, hd8⟩
    have Hf8 := hide (Hf2.out.tr (Hd5.out.1.tr hd8.1))
    clear hd8 hc7 hn
    go_wp2_with fail
    refine (dir_known w8).mono ?_
    rintro e w9 ⟨rfl, hf9⟩
    have Hf9 := hide (Hf8.out.tr hf9)
    clear hf9
    go_wp2_with fail
    go_ret
    exact ⟨rfl, Hf9.out⟩
end Go.Proofs.Ytgjabgneapdbiaa

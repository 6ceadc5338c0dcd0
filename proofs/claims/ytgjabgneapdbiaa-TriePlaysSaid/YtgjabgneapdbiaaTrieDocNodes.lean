/- The document's answer to chapter 9: Nodes. -/
import Derived.Test.YtgjabgneapdbiaaTrieDocGet
import Derived.Test.YtgjabgneapdbiaaNew2
namespace Go.Proofs.Ytgjabgneapdbiaa
open Go.RowKit Go.BigFrame
set_option linter.unusedSimpArgs false
set_option linter.unusedVariables false
attribute [local irreducible] wpMix wpAnyG

theorem pairs_le (S : List PrefixM) : ∀ l : List PrefixM, pairsN S l ≤ l.length
  | [] => by simp [pairsN]
  | [x] => by simp [pairsN]
  | a :: b :: l => by
    have := pairs_le S (b :: l)
    simp only [pairsN, List.length_cons] at *
    split <;> omega
theorem pairs_step {S : List PrefixM} {k : Nat} {a b : PrefixM} (ha : S[k]? = some a) (hb : S[k + 1]? = some b) : pairsN S (S.take (k + 1 + 1)) = pairsN S (S.take (k + 1)) + (if pairB S a b then 1 else 0) := by
  have e1 : S.take (k + 1) = S.take k ++ [a] := by rw [List.take_add_one, ha]; rfl
  have e2 : S.take (k + 1 + 1) = (S.take k ++ [a]) ++ b :: [] := by rw [List.take_add_one, hb, e1]; rfl
  rw [e2, pairs_app, e1]
  simp [pairsN]
theorem lz_test {a b : PrefixM} (ha : okP a) (hb : okP b) {m : Nat} (hm : m < 32) : (bits BinOp.and IntKind.u32 (bits BinOp.xor IntKind.u32 ↑a.addr ↑b.addr) ↑(maskN (heldN ((m : Int) + 1))) == 0) = decide (m + 1 ≤ lzN a.addr b.addr) := by
  rw [hasB_of a.addr ((m : Int) + 1) b.addr ha.lt hb.lt]
  unfold hasB
  have e : heldN ((m : Int) + 1) = m + 1 := by unfold heldN heldI; omega
  rw [e]
  exact decide_eq_decide.2 (lzN_iff ha.lt hb.lt (by omega)).symm
theorem high_bits : ∀ m, m ≤ 31 → bits BinOp.andNot IntKind.u32 ((maskN (m + 1) : Nat) : Int) ((maskN m : Nat) : Int) = ((2 ^ (31 - m) : Nat) : Int) := by decide +kernel
theorem high_val {f : PrefixM} (hf : okP f) {m : Nat} (hm : m < 32) (hl : f.len = (m : Int)) :
    bits BinOp.or IntKind.u32 (f.addr : Int) (bits BinOp.andNot IntKind.u32 ((maskN (heldN ((m : Int) + 1)) : Nat) : Int) ((maskN (heldN (m : Int)) : Nat) : Int)) = (((kidP f 1).addr : Nat) : Int) := by
  have e1 : heldN ((m : Int) + 1) = m + 1 := by unfold heldN heldI; omega
  have e0 : heldN (m : Int) = m := by unfold heldN heldI; omega
  have hh : heldN f.len = m := by rw [hl, e0]
  have hlt : 2 ^ (31 - m) < 4294967296 := Nat.pow_lt_pow_right (m := 31 - m) (n := 32) (by decide) (by omega)
  rw [e1, e0, high_bits m (by omega), u32_or_nat _ _ hf.lt hlt]
  have hmul := hf.mul
  unfold kidP
  simp only [Nat.one_mul]
  unfold szP at hmul
  unfold hsP
  rw [hh] at hmul ⊢
  generalize f.addr / 2 ^ (32 - m) = q at hmul
  rw [hmul]
  have e2 : q * 2 ^ (32 - m) = 2 ^ (31 - m) * (2 * q) := by
    rw [show 32 - m = (31 - m) + 1 by omega, Nat.pow_succ, Nat.mul_comm (2 ^ (31 - m)) (2 * q), Nat.mul_comm 2 q, Nat.mul_assoc, Nat.mul_comm 2 (2 ^ (31 - m))]
  have e3 : q * 2 ^ (32 - m) = 2 ^ (32 - m) * q := Nat.mul_comm _ _
  rw [e3, ← Nat.two_pow_add_eq_or_of_lt (Nat.pow_lt_pow_right (by decide) (by omega))]
theorem low_is {f : PrefixM} (hf : okP f) {m : Nat} (hm : m < 32) (hl : f.len = (m : Int)) : normP ⟨f.addr, (m : Int) + 1⟩ = kidP f 0 := by
  have h := kid_ok hf (by omega) (k := 0) (by decide)
  have e : (kidP f 0) = ⟨f.addr, (m : Int) + 1⟩ := by unfold kidP; simp [hl]
  rw [e] at h ⊢
  exact h.1.symm
theorem fork_ok {b : PrefixM} (hb : okP b) {m : Nat} (hm : m ≤ 32) : okP (normP ⟨b.addr, (m : Int)⟩) ∧ (normP ⟨b.addr, (m : Int)⟩).len = (m : Int) := by
  refine ⟨okP.norm ⟨hb.lt, by unfold i64b; simp only; omega⟩, ?_⟩
  unfold normP heldI
  simp only
  omega
theorem has_mem {l : List EntM} (hs : SortedE l) (p : PrefixM) : hasE l p = decide (p ∈ l.map (·.p)) := by
  rw [Bool.eq_iff_iff, decide_eq_true_eq, hasE_iff hs]
  simp

theorem wpList_load_ho {P : Program} {ops : Array Oper} {o : Oper} {rest : List Oper} {a : Act} {w : World} {Q : Exit → Act → World → Prop} (ty : TypeId) (x : Operand) (ho : o.op = .load ty x) (hw : Region.wanted o (yielded ops a.tmps) = true)
    (b off : Nat) (hx : a.eval x = .pointer (some ⟨b, off, none⟩)) (cs : List Value) (hc : CellsAt w b off cs) (d : TypeDesc)
    (hu : P.underlying ty = some d) (hd : (match d with | .struct _ | .array _ _ => true | _ => false) = true) (hi : (P.info? ty).map (·.size) = some cs.length)
    (h : wpList P ops Q rest (a.put o.dst (.agg cs.toArray)) w) : wpList P ops Q (o :: rest) a w := wpList_load_atw hw ty x ho b off hx cs hc d hu hd hi h

def NdAt (w0 : World) (S : List PrefixM) (nv iv : Value) (wr : World) : Prop := ∃ k : Nat, k ≤ S.length ∧ iv = .int .i64 k ∧ nv = .int .i64 ((S.length + pairsN S (S.take (k + 1)) : Nat) : Int) ∧ Fr noB w0 wr
def LzAt (w0 : World) (z : Nat) (iv : Value) (wr : World) : Prop := ∃ m : Nat, m ≤ z ∧ iv = .int .i64 m ∧ Fr noB w0 wr

set_option maxRecDepth 100000 in
set_option maxHeartbeats 8000000 in
theorem doc_nodes (w : World) (F : Nat → Prop) (g : Nat) (ty : TypeId) (rest : List Value) (l : List EntM) (h : DocT w F g ty rest l) (hs : SortedE l) (hok : ∀ x ∈ l, okP x.p) :
    Calls Try.prog 61 #[.pointer (some ⟨g, 0, none⟩)] w fun e w' => e = .returned (.int .i64 (nodesN (l.map (·.p)) : Nat)) ∧ Fr noB w w' := by
  have H := hide h; have Hok := hide hok; have Hso := hide hs
  have hlen := h.len
  obtain ⟨S, hS⟩ : ∃ S, S = l.map (·.p) := ⟨_, rfl⟩
  rw [← hS]
  have HS := hide hS
  have hSl : S.length = l.length := by rw [hS, List.length_map]
  have HSl := hide hSl
  have hS1 : S.length ≤ 1000 := by omega
  clear h hok hs hS hSl
  go_enter Try.func61, Try.ntmps61
  obtain ⟨⟨⟨qa, ql, qc⟩, qv, qblk, qown, _⟩, _⟩ := H.out
  have hql : ql = S.length := by have := qown.1; rw [HSl.out]; exact this
  have q0 : w.cell? ⟨g, 0, none⟩ = some (.slice qa ql qc) := qblk.cell 0
  have HN : Hid (NdAt w S (.int .i64 (ql : Nat)) (.int .i64 0) w) := hide ⟨0, Nat.zero_le _, rfl, by
    have e : pairsN S (S.take (0 + 1)) = 0 := by
      cases S with
      | nil => rfl
      | cons a t => rfl
    rw [e, Nat.add_zero, hql], Fr.refl _ _⟩
  clear qblk qown hql
  go_wp2_with fail
  clear q0
  go_loopw [3, 4] (NdAt w S) (fun _ i _ => l.length - (intOf i).toNat)
  case atStart => exact HN.out
  case round =>
    obtain ⟨k, hk, rfl, rfl, hf1⟩ := hrel
    have Hf1 := hide hf1
    clear hf1 HN
    obtain ⟨⟨⟨sa, sl, sc⟩, sv, hblk, hown, _⟩, _⟩ := H.out.frN Hf1.out
    have hsl : sl = l.length := hown.1
    have hg0 : ∀ z : Grow wr, z.v.cell? ⟨g, 0, none⟩ = some (.slice sa sl sc) := fun z => by rw [(hblk.fr z.fr (fun h => h)).cell 0]; rfl
    have c0 : wr.cell? ⟨g, 0, none⟩ = some (.slice sa sl sc) := hblk.cell 0
    have hmax : sl ≤ 1000 := by rw [hsl]; exact hlen
    have Hsl := hide hsl; have Hown := hide hown
    have hpl : pairsN S (S.take (k + 1)) ≤ 1000 := Nat.le_trans (pairs_le S _) (by rw [List.length_take]; omega)
    have hkk : k ≤ 1000 := by omega
    generalize hpc : pairsN S (S.take (k + 1)) = pc at hpl
    have Hpc := hide hpc
    clear hsl hblk hown hpc
    by_cases hlt : k + 1 < sl
    · obtain ⟨x, hx⟩ : ∃ x, l[k]? = some x := ⟨_, List.getElem?_eq_getElem (by have := Hsl.out; omega)⟩
      obtain ⟨y, hy⟩ : ∃ y, l[k + 1]? = some y := ⟨_, List.getElem?_eq_getElem (by have := Hsl.out; omega)⟩
      obtain ⟨gs, rfl, _, hcx, _⟩ := own_at Hown.out pcE_length hx
      obtain ⟨gs', hgs', _, hcy, _⟩ := own_at Hown.out pcE_length hy
      obtain rfl : gs = gs' := by simpa using hgs'
      have Hcx := hide (show CellsAt wr gs (k * 2) x.p.cells from hcx)
      have Hcy := hide (show CellsAt wr gs ((k + 1) * 2) y.p.cells from hcy)
      have Hxo := hide (Hok.out x (List.mem_of_getElem? hx)); have Hyo := hide (Hok.out y (List.mem_of_getElem? hy))
      have Hst := hide (pairs_step (S := S) (k := k) (a := x.p) (b := y.p) (by rw [HS.out, List.getElem?_map, hx]; rfl) (by rw [HS.out, List.getElem?_map, hy]; rfl))
      have hmul : ((k : Int) * 2).toNat = k * 2 := by omega
      have hmul2 : (((k : Int) + 1) * 2).toNat = (k + 1) * 2 := by omega
      have hkl : k < sl := by omega
      clear hx hy hcx hcy hgs' hk
      go_upto_region 5 with (fail)
      refine any_start (fun W => ∃ z : Grow wr, W = z.v) 19 rfl (by kernel_rfl) (inGrow (Fr.refl _ _).drew) (fun L hL hleaf => ?_)
      have hS : ∃ z : Grow wr, wr.drew = z.v := inGrow (Fr.refl _ _).drew
      (refine any_calm 0 (by assumption) (by simp only [List.getElem?_toArray, List.getElem?_cons_succ, List.getElem?_cons_zero]; exact rfl) (by kernel_rfl) (by kernel_rfl) (by kernel_rfl) (by kernel_rfl) (by assumption) (by rfl) (by rfl) (fun K hK => ?_); go_big_quiet_op; refine hK _ ?_; clear hK K)
      (refine any_calm 1 (by assumption) (by simp only [List.getElem?_toArray, List.getElem?_cons_succ, List.getElem?_cons_zero]; exact rfl) (by kernel_rfl) (by kernel_rfl) (by kernel_rfl) (by kernel_rfl) (by assumption) (by rfl) (by rfl) (fun K hK => ?_); go_big_quiet_op; refine hK _ ?_; clear hK K)
      (refine any_calm 2 (by assumption) (by simp only [List.getElem?_toArray, List.getElem?_cons_succ, List.getElem?_cons_zero]; exact rfl) (by kernel_rfl) (by kernel_rfl) (by kernel_rfl) (by kernel_rfl) (by assumption) (by rfl) (by rfl) (fun K hK => ?_); go_big_quiet_op; refine hK _ ?_; clear hK K)
      (refine any_calm 3 (by assumption) (by simp only [List.getElem?_toArray, List.getElem?_cons_succ, List.getElem?_cons_zero]; exact rfl) (by kernel_rfl) (by kernel_rfl) (by kernel_rfl) (by kernel_rfl) (by assumption) (by rfl) (by rfl) (fun K hK => ?_); go_big_quiet_op; refine hK _ ?_; clear hK K)
      (refine any_calm 4 (by assumption) (by simp only [List.getElem?_toArray, List.getElem?_cons_succ, List.getElem?_cons_zero]; exact rfl) (by kernel_rfl) (by kernel_rfl) (by kernel_rfl) (by kernel_rfl) (by assumption) (by rfl) (by rfl) (fun K hK => ?_); go_big_quiet_op; refine hK _ ?_; clear hK K)
      (refine any_calm 5 (by assumption) (by simp only [List.getElem?_toArray, List.getElem?_cons_succ, List.getElem?_cons_zero]; exact rfl) (by kernel_rfl) (by kernel_rfl) (by kernel_rfl) (by kernel_rfl) (by assumption) (by rfl) (by rfl) (fun K hK => ?_); go_big_quiet_op; refine hK _ ?_; clear hK K)
      refine any_load_at 6 (by assumption) (by simp only [List.getElem?_toArray, List.getElem?_cons_succ, List.getElem?_cons_zero]; exact rfl) (by kernel_rfl) (by kernel_rfl) (by kernel_rfl) (by kernel_rfl) (by assumption) (by rfl) 28 (.tmp 33) (by rfl) gs (k * 2) (by go_simp) x.p.cells (fun W hW => by obtain ⟨z, rfl⟩ := hW; exact Hcx.out.fr z.fr (fun h => h)) _ Try.underlying28 rfl (by kernel_rfl) ?_
      simp only [Act.put, List.setIfInBounds_toArray, List.set_cons_succ, List.set_cons_zero]
      (refine any_calm 7 (by assumption) (by simp only [List.getElem?_toArray, List.getElem?_cons_succ, List.getElem?_cons_zero]; exact rfl) (by kernel_rfl) (by kernel_rfl) (by kernel_rfl) (by kernel_rfl) (by assumption) (by rfl) (by rfl) (fun K hK => ?_); go_big_quiet_op; refine hK _ ?_; clear hK K)
      (refine any_calm 8 (by assumption) (by simp only [List.getElem?_toArray, List.getElem?_cons_succ, List.getElem?_cons_zero]; exact rfl) (by kernel_rfl) (by kernel_rfl) (by kernel_rfl) (by kernel_rfl) (by assumption) (by rfl) (by rfl) (fun K hK => ?_); go_big_quiet_op; refine hK _ ?_; clear hK K)
      (refine any_calm 9 (by assumption) (by simp only [List.getElem?_toArray, List.getElem?_cons_succ, List.getElem?_cons_zero]; exact rfl) (by kernel_rfl) (by kernel_rfl) (by kernel_rfl) (by kernel_rfl) (by assumption) (by rfl) (by rfl) (fun K hK => ?_); go_big_quiet_op; refine hK _ ?_; clear hK K)
      (refine any_calm 10 (by assumption) (by simp only [List.getElem?_toArray, List.getElem?_cons_succ, List.getElem?_cons_zero]; exact rfl) (by kernel_rfl) (by kernel_rfl) (by kernel_rfl) (by kernel_rfl) (by assumption) (by rfl) (by rfl) (fun K hK => ?_); go_big_quiet_op; refine hK _ ?_; clear hK K)
      (refine any_calm 11 (by assumption) (by simp only [List.getElem?_toArray, List.getElem?_cons_succ, List.getElem?_cons_zero]; exact rfl) (by kernel_rfl) (by kernel_rfl) (by kernel_rfl) (by kernel_rfl) (by assumption) (by rfl) (by rfl) (fun K hK => ?_); go_big_quiet_op; refine hK _ ?_; clear hK K)
      (refine any_calm 12 (by assumption) (by simp only [List.getElem?_toArray, List.getElem?_cons_succ, List.getElem?_cons_zero]; exact rfl) (by kernel_rfl) (by kernel_rfl) (by kernel_rfl) (by kernel_rfl) (by assumption) (by rfl) (by rfl) (fun K hK => ?_); go_big_quiet_op; refine hK _ ?_; clear hK K)
      (refine any_calm 13 (by assumption) (by simp only [List.getElem?_toArray, List.getElem?_cons_succ, List.getElem?_cons_zero]; exact rfl) (by kernel_rfl) (by kernel_rfl) (by kernel_rfl) (by kernel_rfl) (by assumption) (by rfl) (by rfl) (fun K hK => ?_); go_big_quiet_op; refine hK _ ?_; clear hK K)
      refine any_load_at 14 (by assumption) (by simp only [List.getElem?_toArray, List.getElem?_cons_succ, List.getElem?_cons_zero]; exact rfl) (by kernel_rfl) (by kernel_rfl) (by kernel_rfl) (by kernel_rfl) (by assumption) (by rfl) 28 (.tmp 41) (by rfl) gs ((k + 1) * 2) (by go_simp) y.p.cells (fun W hW => by obtain ⟨z, rfl⟩ := hW; exact Hcy.out.fr z.fr (fun h => h)) _ Try.underlying28 rfl (by kernel_rfl) ?_
      simp only [Act.put, List.setIfInBounds_toArray, List.set_cons_succ, List.set_cons_zero]
      refine any_new2 (w0 := wr) 15 16 17 18 5 6 34 42 28 rfl rfl rfl rfl rfl rfl rfl rfl rfl rfl rfl rfl rfl rfl rfl rfl (by kernel_rfl) (by kernel_rfl) (by kernel_rfl) (by kernel_rfl) (by kernel_rfl) (by decide) (by simp) (by simp)
        (PrefixM.mk 0 0).cells.toArray x.p.cells y.p.cells rfl rfl (by kernel_rfl) (PrefixM.mem _) (PrefixM.mem _) rfl rfl (Fr.refl _ _).drew ?_
      intro ga gb w3 hab hga hgb hca hcb hf3
      simp only [Act.put, List.setIfInBounds_toArray, List.set_cons_succ, List.set_cons_zero]
      refine any_leaf (hleaf _ _ _ (by kernel_rfl) ?_)
      have Hca := hide hca; have Hcb := hide hcb; have Hf3 := hide (Hf1.out.tr ((Fr.refl noB wr).drew.tr hf3))
      clear hca hcb hf3 hab hga hgb hS hL hleaf hg0 c0
      have hz32 := lzN_le x.p.addr y.p.addr
      go_wp2_with fail
      go_loopw [7] (LzAt w3 (lzN x.p.addr y.p.addr)) (fun i _ => 32 - (intOf i).toNat)
      case atStart => exact ⟨0, Nat.zero_le _, rfl, Fr.refl _ _⟩
      case round =>
        obtain ⟨m, hm, rfl, hf4⟩ := hrel
        have Hf4 := hide hf4
        have Ha4 := hide (Hca.out.fr hf4 (fun h => h)); have Hb4 := hide (Hcb.out.fr hf4 (fun h => h))
        clear hf4
        have a0 : ∀ z : Grow wr, z.v.cell? ⟨ga, 0, none⟩ = some (.int .u32 (x.p.addr : Nat)) := fun z => by have := (Ha4.out.fr z.fr (fun h => h)) 0 _ rfl; rwa [Nat.zero_add] at this
        have b0 : ∀ z : Grow wr, z.v.cell? ⟨gb, 0, none⟩ = some (.int .u32 (y.p.addr : Nat)) := fun z => by have := (Hb4.out.fr z.fr (fun h => h)) 0 _ rfl; rwa [Nat.zero_add] at this
        by_cases hmlt : m < lzN x.p.addr y.p.addr
        · have Ht := hide (lz_test Hxo.out Hyo.out (m := m) (by omega))
          have Hd := hide (decide_eq_true (show m + 1 ≤ lzN x.p.addr y.p.addr by omega))
          have hm32 : m < 32 := by omega
          go_upto_region 7 with (fail)
          refine wp_region_mix (fun W => ∃ z : Grow wr, W = z.v) (by kernel_rfl) (by kernel_rfl) (inGrow (Fr.refl _ _).drew) ?_
          iterate 3 (first | (refine wpMix_skip rfl ?_; simp only [Act.put, List.setIfInBounds_toArray, List.set_cons_succ, List.set_cons_zero]) | (refine wpMix_calm rfl rfl (fun K hK => ?_); go_big_quiet_op; refine hK _ ?_; clear hK K))
          rw [decide_eq_true (show (m : Int) < 32 by omega)]
          iterate 7 (first | (refine wpMix_skip rfl ?_; simp only [Act.put, List.setIfInBounds_toArray, List.set_cons_succ, List.set_cons_zero]) | (refine wpMix_calm rfl rfl (fun K hK => ?_); go_big_quiet_op; refine hK _ ?_; clear hK K))
          refine wpMix_spine rfl rfl (fun K hK => ?_); go_wp2_with fail
          refine (ref3_Mask ((m : Int) + 1) _).mono ?_
          rintro e w5 ⟨rfl, rfl⟩
          refine hK _ _ rfl (inGrow (Fr.refl _ _).drew) ?_
          clear hK K
          iterate 2 (first | (refine wpMix_skip rfl ?_; simp only [Act.put, List.setIfInBounds_toArray, List.set_cons_succ, List.set_cons_zero]) | (refine wpMix_calm rfl rfl (fun K hK => ?_); go_big_quiet_op; refine hK _ ?_; clear hK K))
          rw [Ht.out, Hd.out]
          repeat (first | (refine wpMix_skip rfl ?_; simp only [Act.put, List.setIfInBounds_toArray, List.set_cons_succ, List.set_cons_zero]) | (refine wpMix_calm rfl rfl (fun K hK => ?_); go_big_quiet_op; refine hK _ ?_; clear hK K))
          refine wpMix_nil ?_
          clear a0 b0
          go_wp2_with fail
          go_roundw
          case rel => exact ⟨m + 1, by omega, by go_num, Hf4.out.drew⟩
          case measure => simp [intOf]; omega
        · obtain rfl : m = lzN x.p.addr y.p.addr := by omega
          -- the walk behind the inner loop, of any world
          have Hb4' := hide (show CellsAt wr.drew gb 0 y.p.cells from Hb4.out)
          have hend : (lzN x.p.addr y.p.addr < 32 ∧ decide (lzN x.p.addr y.p.addr + 1 ≤ lzN x.p.addr y.p.addr) = false) ∨ ¬ lzN x.p.addr y.p.addr < 32 := by
            by_cases h : lzN x.p.addr y.p.addr < 32
            · exact .inl ⟨h, decide_eq_false (by omega)⟩
            · exact .inr h
          have Ht : lzN x.p.addr y.p.addr < 32 → _ := fun h => lz_test Hxo.out Hyo.out (m := lzN x.p.addr y.p.addr) h
          obtain ⟨fok, flen⟩ := fork_ok (b := y.p) Hyo.out hz32
          have Hpb : Hid (pairB S x.p y.p = if y.p.len ≤ (lzN x.p.addr y.p.addr : Nat) ∨ covB x.p y.p = true then false else !(hasE l (normP ⟨y.p.addr, (lzN x.p.addr y.p.addr : Nat)⟩)) && (S.any (fun e => covB (kidP (normP ⟨y.p.addr, (lzN x.p.addr y.p.addr : Nat)⟩) 0) e) && S.any (fun e => covB (kidP (normP ⟨y.p.addr, (lzN x.p.addr y.p.addr : Nat)⟩) 1) e))) := hide (by
            rw [has_mem Hso.out, ← HS.out]; rfl)
          generalize lzN x.p.addr y.p.addr = m at *
          generalize hf : normP ⟨y.p.addr, (m : Int)⟩ = f at *
          have Hf := hide hf; have Hfok := hide fok; have Hflen := hide flen
          have Hfw := hide (show (PrefixM.mk y.p.addr (m : Int)).wf from ⟨Hyo.out.lt, by unfold i64b; simp only; omega⟩)
          clear hf fok flen
          rcases hend with ⟨hm32, hd⟩ | hm32
          case' inl =>
            have Ht' := hide (Ht hm32); have Hd := hide hd
            clear Ht hd
            go_upto_region 7 with (fail)
            refine wp_region_mix (fun W => ∃ z : Grow wr, W = z.v) (by kernel_rfl) (by kernel_rfl) (inGrow (Fr.refl _ _).drew) ?_
            iterate 3 (first | (refine wpMix_skip rfl ?_; simp only [Act.put, List.setIfInBounds_toArray, List.set_cons_succ, List.set_cons_zero]) | (refine wpMix_calm rfl rfl (fun K hK => ?_); go_big_quiet_op; refine hK _ ?_; clear hK K))
            rw [decide_eq_true (show (m : Int) < 32 by omega)]
            iterate 7 (first | (refine wpMix_skip rfl ?_; simp only [Act.put, List.setIfInBounds_toArray, List.set_cons_succ, List.set_cons_zero]) | (refine wpMix_calm rfl rfl (fun K hK => ?_); go_big_quiet_op; refine hK _ ?_; clear hK K))
            refine wpMix_spine rfl rfl (fun K hK => ?_); go_wp2_with fail
            refine (ref3_Mask ((m : Int) + 1) _).mono ?_
            rintro e w5 ⟨rfl, rfl⟩
            refine hK _ _ rfl (inGrow (Fr.refl _ _).drew) ?_
            clear hK K
            iterate 2 (first | (refine wpMix_skip rfl ?_; simp only [Act.put, List.setIfInBounds_toArray, List.set_cons_succ, List.set_cons_zero]) | (refine wpMix_calm rfl rfl (fun K hK => ?_); go_big_quiet_op; refine hK _ ?_; clear hK K))
            rw [Ht'.out, Hd.out]
            repeat (first | (refine wpMix_skip rfl ?_; simp only [Act.put, List.setIfInBounds_toArray, List.set_cons_succ, List.set_cons_zero]) | (refine wpMix_calm rfl rfl (fun K hK => ?_); go_big_quiet_op; refine hK _ ?_; clear hK K))
            refine wpMix_nil ?_
            clear a0 b0 Ht' Hd
          case' inr =>
            clear Ht
            go_upto_region 7 with (fail)
            refine wp_region_mix (fun W => ∃ z : Grow wr, W = z.v) (by kernel_rfl) (by kernel_rfl) (inGrow (Fr.refl _ _).drew) ?_
            iterate 3 (first | (refine wpMix_skip rfl ?_; simp only [Act.put, List.setIfInBounds_toArray, List.set_cons_succ, List.set_cons_zero]) | (refine wpMix_calm rfl rfl (fun K hK => ?_); go_big_quiet_op; refine hK _ ?_; clear hK K))
            rw [decide_eq_false (show ¬ (m : Int) < 32 by omega)]
            repeat (first | (refine wpMix_skip rfl ?_; simp only [Act.put, List.setIfInBounds_toArray, List.set_cons_succ, List.set_cons_zero]) | (refine wpMix_calm rfl rfl (fun K hK => ?_); go_big_quiet_op; refine hK _ ?_; clear hK K))
            refine wpMix_nil ?_
            clear a0 b0
          all_goals
            have b0' : wr.drew.cell? ⟨gb, 0, none⟩ = some (.int .u32 (y.p.addr : Nat)) := by have := Hb4'.out 0 _ rfl; rwa [Nat.zero_add] at this
            go_wp2_with (refine wpList_build_as rfl 28 _ rfl (PrefixM.mk y.p.addr (m : Int)).cells.toArray (by kernel_rfl) ?_)
            refine (ref3_Norm ⟨y.p.addr, (m : Int)⟩ Hfw.out _).mono ?_
            rintro e w5 ⟨rfl, hf5⟩
            rw [Hf.out]
            have Hf5 := hide (Hf4.out.drew.tr hf5)
            clear hf5 b0'
            go_upto_region 10 with (refine wpList_store_new rfl 28 _ _ rfl _ _ (PrefixM.cells _) _ rfl rfl (by simp) (by kernel_rfl) rfl (by kernel_rfl) ?_)
            refine wp_gen (fun W => CellsAt W w5.heap.size 0 f.cells ∧ Fr noB w3 W) ⟨cells_new _ _ _ rfl, Hf5.out.alloc _⟩ ?_
            rintro w6 ⟨hc6, hf6⟩
            have Hc6 := hide hc6; have Hf6 := hide hf6
            have Ha6 := hide (Hca.out.fr hf6 (fun h => h)); have Hb6 := hide (Hcb.out.fr hf6 (fun h => h))
            have b1 : w6.cell? ⟨gb, 1, none⟩ = some (.int .i64 y.p.len) := by have := Hb6.out 1 _ rfl; rwa [Nat.zero_add] at this
            clear hc6 hf6
            by_cases hge : y.p.len ≤ (m : Int)
            · have HP := hide (show pairB S x.p y.p = false from by rw [Hpb.out, if_pos (.inl hge)])
              go_wp2_with fail
              go_roundw
              case rel => exact ⟨k + 1, by have := Hsl.out; have := HSl.out; omega, by go_num, by rw [Hst.out, Hpc.out, HP.out]; simp, Hf3.out.tr Hf6.out⟩
              case measure => have := Hsl.out; simp [intOf]; omega
            · have hgl : (m : Int) < y.p.len := by omega
              cases hcv : covB x.p y.p with
              | true =>
                have HP := hide (show pairB S x.p y.p = false from by rw [Hpb.out, if_pos (.inr hcv)])
                have Hcv := hide hcv
                clear hcv hge
                go_wp2_with (first | rw [decide_eq_false (Int.not_le.2 hgl)] | (refine wpList_load_ho 28 (.tmp 5) rfl rfl ga 0 rfl x.p.cells Ha6.out _ Try.underlying28 rfl (by kernel_rfl) ?_) | (refine wpList_load_ho 28 (.tmp 6) rfl rfl gb 0 rfl y.p.cells Hb6.out _ Try.underlying28 rfl (by kernel_rfl) ?_))
                refine (ref3_Covers x.p y.p Hxo.out.2 Hyo.out.2 _).mono ?_
                rintro e w7 ⟨rfl, hf7⟩
                rw [Hcv.out]
                have Hf7 := hide (Hf6.out.tr hf7)
                clear hf7 b1
                go_wp2_with fail
                go_roundw
                case rel => exact ⟨k + 1, by have := Hsl.out; have := HSl.out; omega, by go_num, by rw [Hst.out, Hpc.out, HP.out]; simp, Hf3.out.tr Hf7.out⟩
                case measure => have := Hsl.out; simp [intOf]; omega
              | false =>
                have HP := hide (show pairB S x.p y.p = (!(hasE l f) && (S.any (fun e => covB (kidP f 0) e) && S.any (fun e => covB (kidP f 1) e))) from by rw [Hpb.out, if_neg (fun h => by rcases h with h | h; exact hge h; rw [hcv] at h; cases h)])
                have Hcv := hide hcv
                have Hmm := hide (show m < 32 by have := Hyo.out.bd; omega)
                clear hcv hge
                go_wp2_with (first | rw [decide_eq_false (Int.not_le.2 hgl)] | (refine wpList_load_ho 28 (.tmp 5) rfl rfl ga 0 rfl x.p.cells Ha6.out _ Try.underlying28 rfl (by kernel_rfl) ?_) | (refine wpList_load_ho 28 (.tmp 6) rfl rfl gb 0 rfl y.p.cells Hb6.out _ Try.underlying28 rfl (by kernel_rfl) ?_))
                refine (ref3_Covers x.p y.p Hxo.out.2 Hyo.out.2 _).mono ?_
                rintro e w7 ⟨rfl, hf7⟩
                rw [Hcv.out]
                have Hc7 := hide (Hc6.out.fr hf7 (fun h => h)); have Hf7 := hide (Hf6.out.tr hf7)
                clear hf7 b1
                go_wp2_with (refine wpList_load_atw rfl 28 (.tmp 8) rfl w5.heap.size 0 rfl f.cells Hc7.out _ Try.underlying28 rfl (by kernel_rfl) ?_)
                refine (doc_place w7 F g ty rest l (H.out.frN (Hf3.out.tr Hf7.out)) f).mono ?_
                rintro e w8 ⟨rfl, hf8⟩
                unfold searchE
                generalize posE l f = pos
                have Hc8 := hide (Hc7.out.fr hf8 (fun h => h)); have Hf8 := hide (Hf7.out.tr hf8)
                have f0 : w8.cell? ⟨w5.heap.size, 0, none⟩ = some (.int .u32 (f.addr : Nat)) := by have := Hc8.out 0 _ rfl; rwa [Nat.zero_add] at this
                have Hkw := hide (show (PrefixM.mk f.addr ((m : Int) + 1)).wf from ⟨Hfok.out.lt, by unfold i64b; simp only; omega⟩)
                have Hk0 := hide (kid_ok Hfok.out (by have := Hflen.out; have := Hmm.out; omega) (k := 0) (by decide)); have Hk1 := hide (kid_ok Hfok.out (by have := Hflen.out; have := Hmm.out; omega) (k := 1) (by decide))
                clear hf8
                go_wp2_with (refine wpList_build_as rfl 28 _ rfl (PrefixM.mk f.addr ((m : Int) + 1)).cells.toArray (by kernel_rfl) ?_)
                refine (ref3_Norm ⟨f.addr, (m : Int) + 1⟩ Hkw.out _).mono ?_
                rintro e w9 ⟨rfl, hf9⟩
                rw [low_is Hfok.out Hmm.out Hflen.out]
                have Hf9 := hide (Hf8.out.tr hf9); have Hc9 := hide (Hc8.out.fr hf9 (fun h => h))
                clear hf9 f0
                go_upto_region 13 with (refine wpList_store_new rfl 28 _ _ rfl _ _ (PrefixM.cells _) _ rfl rfl (by simp) (by kernel_rfl) rfl (by kernel_rfl) ?_)
                simp only [Act.put, List.setIfInBounds_toArray, List.set_cons_succ, List.set_cons_zero]
                refine wp_gen (fun W => CellsAt W w9.heap.size 0 (kidP f 0).cells ∧ CellsAt W w5.heap.size 0 f.cells ∧ Fr noB w3 W) ⟨cells_new _ _ _ rfl, Hc9.out.fr ((Fr.refl noB _).alloc _) (fun h => h), Hf9.out.alloc _⟩ ?_
                rintro w10 ⟨hc10, hcf10, hf10⟩
                have Hc10 := hide hc10; have Hcf10 := hide hcf10; have Hf10 := hide hf10
                clear hc10 hcf10 hf10
                have f0 : ∀ z : Grow w10, z.v.cell? ⟨w5.heap.size, 0, none⟩ = some (.int .u32 (f.addr : Nat)) := fun z => by have := (Hcf10.out.fr z.fr (fun h => h)) 0 _ rfl; rwa [Nat.zero_add] at this
                have Hhv := hide (high_val Hfok.out Hmm.out Hflen.out)
                refine any_start (fun W => ∃ z : Grow w10, W = z.v) 14 rfl (by kernel_rfl) (inGrow (Fr.refl _ _).drew) (fun L hL hleaf => ?_)
                have hS : ∃ z : Grow w10, w10.drew = z.v := inGrow (Fr.refl _ _).drew
                (refine any_calm 0 (by assumption) (by simp only [List.getElem?_toArray, List.getElem?_cons_succ, List.getElem?_cons_zero]; exact rfl) (by kernel_rfl) (by kernel_rfl) (by kernel_rfl) (by kernel_rfl) (by assumption) (by rfl) (by rfl) (fun K hK => ?_); go_big_quiet_op; refine hK _ ?_; clear hK K)
                (refine any_calm 1 (by assumption) (by simp only [List.getElem?_toArray, List.getElem?_cons_succ, List.getElem?_cons_zero]; exact rfl) (by kernel_rfl) (by kernel_rfl) (by kernel_rfl) (by kernel_rfl) (by assumption) (by rfl) (by rfl) (fun K hK => ?_); go_big_quiet_op; refine hK _ ?_; clear hK K)
                (refine any_calm 2 (by assumption) (by simp only [List.getElem?_toArray, List.getElem?_cons_succ, List.getElem?_cons_zero]; exact rfl) (by kernel_rfl) (by kernel_rfl) (by kernel_rfl) (by kernel_rfl) (by assumption) (by rfl) (by rfl) (fun K hK => ?_); go_big_quiet_op; refine hK _ ?_; clear hK K)
                (refine any_calm 3 (by assumption) (by simp only [List.getElem?_toArray, List.getElem?_cons_succ, List.getElem?_cons_zero]; exact rfl) (by kernel_rfl) (by kernel_rfl) (by kernel_rfl) (by kernel_rfl) (by assumption) (by rfl) (by rfl) (fun K hK => ?_); go_big_quiet_op; refine hK _ ?_; clear hK K)
                refine any_pure 4 (by assumption) (by simp only [List.getElem?_toArray, List.getElem?_cons_succ, List.getElem?_cons_zero]; exact rfl) (by kernel_rfl) (by kernel_rfl) (by kernel_rfl) (by kernel_rfl) hS rfl 54 _ _ rfl Try.func54 (by kernel_rfl) (by kernel_rfl) #[.int .i64 ((m : Int) + 1)] (by simp only [List.map_toArray, List.map_cons, List.map_nil]; rfl) _ (fun w _ => (ref3_Mask ((m : Int) + 1) w).mono (fun e w' ⟨h1, h2⟩ => ⟨h1, h2.symm⟩)) ?_
                simp only [Act.put, List.setIfInBounds_toArray, List.set_cons_succ, List.set_cons_zero]
                (refine any_calm 5 (by assumption) (by simp only [List.getElem?_toArray, List.getElem?_cons_succ, List.getElem?_cons_zero]; exact rfl) (by kernel_rfl) (by kernel_rfl) (by kernel_rfl) (by kernel_rfl) (by assumption) (by rfl) (by rfl) (fun K hK => ?_); go_big_quiet_op; refine hK _ ?_; clear hK K)
                refine any_pure 6 (by assumption) (by simp only [List.getElem?_toArray, List.getElem?_cons_succ, List.getElem?_cons_zero]; exact rfl) (by kernel_rfl) (by kernel_rfl) (by kernel_rfl) (by kernel_rfl) hS rfl 54 _ _ rfl Try.func54 (by kernel_rfl) (by kernel_rfl) #[.int .i64 (m : Int)] (by simp only [List.map_toArray, List.map_cons, List.map_nil]; rfl) _ (fun w _ => (ref3_Mask (m : Int) w).mono (fun e w' ⟨h1, h2⟩ => ⟨h1, h2.symm⟩)) ?_
                simp only [Act.put, List.setIfInBounds_toArray, List.set_cons_succ, List.set_cons_zero]
                (refine any_calm 7 (by assumption) (by simp only [List.getElem?_toArray, List.getElem?_cons_succ, List.getElem?_cons_zero]; exact rfl) (by kernel_rfl) (by kernel_rfl) (by kernel_rfl) (by kernel_rfl) (by assumption) (by rfl) (by rfl) (fun K hK => ?_); go_big_quiet_op; refine hK _ ?_; clear hK K)
                (refine any_calm 8 (by assumption) (by simp only [List.getElem?_toArray, List.getElem?_cons_succ, List.getElem?_cons_zero]; exact rfl) (by kernel_rfl) (by kernel_rfl) (by kernel_rfl) (by kernel_rfl) (by assumption) (by rfl) (by rfl) (fun K hK => ?_); go_big_quiet_op; refine hK _ ?_; clear hK K)
                rw [Hhv.out]
                (refine any_calm 9 (by assumption) (by simp only [List.getElem?_toArray, List.getElem?_cons_succ, List.getElem?_cons_zero]; exact rfl) (by kernel_rfl) (by kernel_rfl) (by kernel_rfl) (by kernel_rfl) (by assumption) (by rfl) (by rfl) (fun K hK => ?_); go_big_quiet_op; refine hK _ ?_; clear hK K)
                (refine any_calm 10 (by assumption) (by simp only [List.getElem?_toArray, List.getElem?_cons_succ, List.getElem?_cons_zero]; exact rfl) (by kernel_rfl) (by kernel_rfl) (by kernel_rfl) (by kernel_rfl) (by assumption) (by rfl) (by rfl) (fun K hK => ?_); go_big_quiet_op; refine hK _ ?_; clear hK K)
                (refine any_calm 11 (by assumption) (by simp only [List.getElem?_toArray, List.getElem?_cons_succ, List.getElem?_cons_zero]; exact rfl) (by kernel_rfl) (by kernel_rfl) (by kernel_rfl) (by kernel_rfl) (by assumption) (by rfl) (by rfl) (fun K hK => ?_); go_big_quiet_op; refine hK _ ?_; clear hK K)
                have Hkl := hide (show (kidP f 1).len = (m : Int) + 1 from by unfold kidP; simp only; rw [Hflen.out])
                refine any_new1 (w0 := w10) 12 13 12 96 28 rfl rfl rfl rfl rfl rfl rfl rfl (by kernel_rfl) (by kernel_rfl) (by decide) (by simp) (PrefixM.mk 0 0).cells.toArray (kidP f 1).cells rfl (by kernel_rfl) (PrefixM.mem _) (by unfold PrefixM.cells; rw [Hkl.out]; rfl) (Fr.refl _ _).drew ?_
                intro w11 hc11 hf11 _
                simp only [Act.put, List.setIfInBounds_toArray, List.set_cons_succ, List.set_cons_zero]
                refine any_leaf (hleaf _ _ _ (by kernel_rfl) ?_)
                have hf11' : Fr noB w10 w11 := (Fr.refl noB w10).drew.tr hf11
                have Hh11 := hide (show CellsAt w11 w10.heap.size 0 (kidP f 1).cells from hc11); have Hf11 := hide (Hf10.out.tr hf11'); have Hl11 := hide (Hc10.out.fr hf11' (fun h => h))
                clear hc11 hf11 hf11' f0 hS hL hleaf
                cases hh : hasE l f with
                | true =>
                  have HP' := hide (show pairB S x.p y.p = false from by rw [HP.out, hh]; rfl)
                  clear hh
                  go_wp2_with fail
                  go_roundw
                  case rel => exact ⟨k + 1, by have := Hsl.out; have := HSl.out; omega, by go_num, by rw [Hst.out, Hpc.out, HP'.out]; simp, Hf3.out.tr Hf11.out⟩
                  case measure => have := Hsl.out; simp [intOf]; omega
                | false =>
                  have Hhh := hide hh
                  clear hh
                  go_wp2_with (refine wpList_load_atw rfl 28 (.tmp 11) rfl w9.heap.size 0 rfl (kidP f 0).cells Hl11.out _ Try.underlying28 rfl (by kernel_rfl) ?_)
                  refine (doc_below w11 F g ty rest l (H.out.frN (Hf3.out.tr Hf11.out)) Hok.out (kidP f 0) Hk0.out.2).mono ?_
                  rintro e w12 ⟨rfl, hf12⟩
                  rw [← HS.out]
                  have Hf12 := hide (Hf11.out.tr hf12); have Hh12 := hide (Hh11.out.fr hf12 (fun h => h))
                  clear hf12
                  cases hb0 : S.any (fun e => covB (kidP f 0) e) with
                  | false =>
                    have HP' := hide (show pairB S x.p y.p = false from by rw [HP.out, Hhh.out, hb0]; rfl)
                    clear hb0
                    go_wp2_with fail
                    go_roundw
                    case rel => exact ⟨k + 1, by have := Hsl.out; have := HSl.out; omega, by go_num, by rw [Hst.out, Hpc.out, HP'.out]; simp, Hf3.out.tr Hf12.out⟩
                    case measure => have := Hsl.out; simp [intOf]; omega
                  | true =>
                    have HP2 := hide (show pairB S x.p y.p = S.any (fun e => covB (kidP f 1) e) from by rw [HP.out, Hhh.out, hb0]; simp)
                    clear hb0
                    go_wp2_with (refine wpList_load_atw rfl 28 (.tmp 12) rfl w10.heap.size 0 rfl (kidP f 1).cells Hh12.out _ Try.underlying28 rfl (by kernel_rfl) ?_)
                    refine (doc_below w12 F g ty rest l (H.out.frN (Hf3.out.tr Hf12.out)) Hok.out (kidP f 1) Hk1.out.2).mono ?_
                    rintro e w13 ⟨rfl, hf13⟩
                    rw [← HS.out, ← HP2.out]
                    have Hf13 := hide (Hf12.out.tr hf13)
                    clear hf13
                    cases hpp : pairB S x.p y.p with
                    | false =>
                      have HP' := hide hpp
                      clear hpp
                      go_wp2_with fail
                      go_roundw
                      case rel => exact ⟨k + 1, by have := Hsl.out; have := HSl.out; omega, by go_num, by rw [Hst.out, Hpc.out, HP'.out]; simp, Hf3.out.tr Hf13.out⟩
                      case measure => have := Hsl.out; simp [intOf]; omega
                    | true =>
                      have HP' := hide hpp
                      clear hpp
                      go_wp2_with fail
                      go_roundw
                      case rel => exact ⟨k + 1, by have := Hsl.out; have := HSl.out; omega, by go_num, by rw [Hst.out, Hpc.out, HP'.out]; go_num, Hf3.out.tr Hf13.out⟩
                      case measure => have := Hsl.out; simp [intOf]; omega
    · have hk1 : pairsN S S = pc := by
        rw [← Hpc.out, List.take_of_length_le (by have := Hsl.out; have := HSl.out; omega)]
      have HE := hide (show nodesN S = S.length + pc from by unfold nodesN; rw [hk1])
      clear hg0 hk1
      go_wp2_with fail
      go_ret
      rw [HE.out]
      exact ⟨rfl, Hf1.out⟩
end Go.Proofs.Ytgjabgneapdbiaa

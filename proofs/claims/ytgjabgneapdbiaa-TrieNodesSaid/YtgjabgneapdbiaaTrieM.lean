/- Chapter 9's tree in memory; half, common, Covers. -/
import Derived.Test.YtgjabgneapdbiaaTrieN
import Derived.Test.YtgjabgneapdbiaaStep
import Derived.Test.YtgjabgneapdbiaaSub
import Derived.Shelf.Small.Bits
namespace Go.Proofs.Ytgjabgneapdbiaa
open Go.RowKit Go.BigFrame
set_option linter.unusedSimpArgs false
set_option linter.unusedVariables false
attribute [local irreducible] wpMix wpAnyG

set_option maxHeartbeats 1000000 in
theorem addr_Covers (p q : PrefixM) (hp : p.wf) (hq : q.wf) (w : World) :
    Calls Try.prog 77 #[.agg p.cells.toArray, .agg q.cells.toArray] w fun e w' => e = .returned (.bool (covB p q)) ∧ Fr noB w w' := by
  go_enter Try.func77, Try.ntmps77
  go_upto_region 1 with (fail)
  refine wp_gen (fun W => CellsAt W w.heap.size 0 p.cells ∧ CellsAt W (w.heap.size + 1) 0 q.cells ∧ Fr noB w W) ⟨by (repeat (first | assumption | exact cells_new _ _ _ (by simp) | refine CellsAt.alloc ?_ _ | refine CellsAt.drew ?_ | refine CellsAt.drewN ?_ _)), by (repeat (first | assumption | exact cells_new _ _ _ (by simp) | refine CellsAt.alloc ?_ _ | refine CellsAt.drew ?_ | refine CellsAt.drewN ?_ _)), ((Fr.refl _ _).alloc _).alloc _⟩ ?_
  rintro w1 ⟨hc, hd, hf⟩
  have Hf := hide hf
  have p1 : ∀ z : Grow w1, z.v.cell? ⟨w.heap.size, 1, none⟩ = some (.int .i64 p.len) := fun z => by have := (hc.fr z.fr (fun h => h)) 1 _ rfl; rwa [Nat.zero_add] at this
  have q0 : ∀ z : Grow w1, z.v.cell? ⟨w.heap.size + 1, 0, none⟩ = some (.int .u32 (q.addr : Nat)) := fun z => by have := (hd.fr z.fr (fun h => h)) 0 _ rfl; rwa [Nat.zero_add] at this
  have q1 : ∀ z : Grow w1, z.v.cell? ⟨w.heap.size + 1, 1, none⟩ = some (.int .i64 q.len) := fun z => by have := (hd.fr z.fr (fun h => h)) 1 _ rfl; rwa [Nat.zero_add] at this
  clear hf hd
  cases hd : decide (heldI p.len ≤ heldI q.len) with
  | false =>
    have HR := hide (show covB p q = false from by unfold covB; rw [hd]; rfl)
    refine wp_region_mix (fun W => ∃ z : Grow w1, W = z.v) (by kernel_rfl) (by kernel_rfl) (inGrow (Fr.refl _ _).drew) ?_
    iterate 2 (first | (refine wpMix_skip rfl ?_; simp only [Act.put, List.setIfInBounds_toArray, List.set_cons_succ, List.set_cons_zero]) | (refine wpMix_calm rfl rfl (fun K hK => ?_); go_big_quiet_op; refine hK _ ?_; clear hK K))
    refine wpMix_spine rfl rfl (fun K hK => ?_); go_wp2_with fail
    refine (addr_held p.len _).mono ?_
    rintro e w' ⟨rfl, rfl⟩
    refine hK _ _ rfl (inGrow (Fr.refl _ _).drew) ?_
    clear hK K
    iterate 2 (first | (refine wpMix_skip rfl ?_; simp only [Act.put, List.setIfInBounds_toArray, List.set_cons_succ, List.set_cons_zero]) | (refine wpMix_calm rfl rfl (fun K hK => ?_); go_big_quiet_op; refine hK _ ?_; clear hK K))
    refine wpMix_spine rfl rfl (fun K hK => ?_); go_wp2_with fail
    refine (addr_held q.len _).mono ?_
    rintro e w' ⟨rfl, rfl⟩
    refine hK _ _ rfl (inGrow (Fr.refl _ _).drew) ?_
    clear hK K
    repeat (first | (refine wpMix_skip rfl ?_; simp only [Act.put, List.setIfInBounds_toArray, List.set_cons_succ, List.set_cons_zero]) | (refine wpMix_calm rfl rfl (fun K hK => ?_); go_big_quiet_op; refine hK _ ?_; clear hK K))
    refine wpMix_nil ?_
    clear p1 q0 q1 hc hd
    go_wp2_with fail
    go_ret
    exact ⟨ret_bool HR.out.symm, Hf.out.drew⟩
  | true =>
    have HR := hide (show covB p q = hasB p.addr p.len q.addr from by unfold covB; rw [hd]; rfl)
    refine wp_region_mix (fun W => ∃ z : Grow w1, W = z.v) (by kernel_rfl) (by kernel_rfl) (inGrow (Fr.refl _ _).drew) ?_
    iterate 2 (first | (refine wpMix_skip rfl ?_; simp only [Act.put, List.setIfInBounds_toArray, List.set_cons_succ, List.set_cons_zero]) | (refine wpMix_calm rfl rfl (fun K hK => ?_); go_big_quiet_op; refine hK _ ?_; clear hK K))
    refine wpMix_spine rfl rfl (fun K hK => ?_); go_wp2_with fail
    refine (addr_held p.len _).mono ?_
    rintro e w' ⟨rfl, rfl⟩
    refine hK _ _ rfl (inGrow (Fr.refl _ _).drew) ?_
    clear hK K
    iterate 2 (first | (refine wpMix_skip rfl ?_; simp only [Act.put, List.setIfInBounds_toArray, List.set_cons_succ, List.set_cons_zero]) | (refine wpMix_calm rfl rfl (fun K hK => ?_); go_big_quiet_op; refine hK _ ?_; clear hK K))
    refine wpMix_spine rfl rfl (fun K hK => ?_); go_wp2_with fail
    refine (addr_held q.len _).mono ?_
    rintro e w' ⟨rfl, rfl⟩
    refine hK _ _ rfl (inGrow (Fr.refl _ _).drew) ?_
    clear hK K
    iterate 2 (first | (refine wpMix_skip rfl ?_; simp only [Act.put, List.setIfInBounds_toArray, List.set_cons_succ, List.set_cons_zero]) | (refine wpMix_calm rfl rfl (fun K hK => ?_); go_big_quiet_op; refine hK _ ?_; clear hK K))
    (refine wpMix_load_atw rfl 28 (.tmp 2) rfl _ _ rfl (PrefixM.cells _) (fun W hW => by obtain ⟨z, rfl⟩ := hW; exact CellsAt.fr (by (repeat (first | assumption | exact cells_new _ _ _ (by simp) | refine CellsAt.alloc ?_ _ | refine CellsAt.drew ?_ | refine CellsAt.drewN ?_ _))) z.fr (fun h => h)) _ Try.underlying28 rfl (by kernel_rfl) ?_; simp only [Act.put, List.setIfInBounds_toArray, List.set_cons_succ, List.set_cons_zero])
    iterate 2 (first | (refine wpMix_skip rfl ?_; simp only [Act.put, List.setIfInBounds_toArray, List.set_cons_succ, List.set_cons_zero]) | (refine wpMix_calm rfl rfl (fun K hK => ?_); go_big_quiet_op; refine hK _ ?_; clear hK K))
    refine wpMix_spine rfl rfl (fun K hK => ?_); go_wp2_with fail
    refine (addr_Has p.addr q.addr p.len hp.1 hq.1 _).mono ?_
    rintro e w2 ⟨rfl, f2⟩
    have f2 : Fr noB w1 w2 := (Fr.refl _ _).drew.tr f2
    have Hf2 := hide (Hf.out.tr f2)
    refine hK _ _ rfl (inGrow f2) ?_
    clear hK K f2
    repeat (first | (refine wpMix_skip rfl ?_; simp only [Act.put, List.setIfInBounds_toArray, List.set_cons_succ, List.set_cons_zero]) | (refine wpMix_calm rfl rfl (fun K hK => ?_); go_big_quiet_op; refine hK _ ?_; clear hK K))
    refine wpMix_nil ?_
    clear p1 q0 q1 hc hd
    go_wp2_with fail
    go_ret
    exact ⟨ret_bool HR.out.symm, Hf2.out⟩

theorem half_val (a n : Nat) (ha : a < 4294967296) (hn : n < 32) : wrap64 (bits BinOp.and IntKind.u32 ((a : Int) / 2 ^ (31 - n)) 1) = ((halfB a n : Nat) : Int) := by
  have e : (a : Int) / 2 ^ (31 - n) = ((a / 2 ^ (31 - n) : Nat) : Int) := by simp
  have h1 : a / 2 ^ (31 - n) < 4294967296 := Nat.lt_of_le_of_lt (Nat.div_le_self _ _) ha
  rw [e, show (1 : Int) = ((1 : Nat) : Int) from rfl, u32_and_nat _ _ h1 (by decide), Nat.and_one_is_mod]
  unfold halfB
  rw [IntWalk.wrap64_in _ (by omega)]
set_option maxHeartbeats 400000 in
theorem trie_half (a n : Nat) (ha : a < 4294967296) (hn : n < 32) (w : World) :
    Calls Try.prog 76 #[.int .u32 a, .int .i64 n] w fun e w' => e = .returned (.int .i64 (halfB a n : Nat)) ∧ w' = w := by
  go_enter Try.func76, Try.ntmps76
  go_wp2_with fail
  go_ret
  exact ⟨ret_int (half_val a n ha hn), rfl⟩

/-! ### The bits that two prefixes share -/
theorem len8_at (x : Int) (h0 : 0 ≤ x) (h1 : x ≤ 255) : ∀ w : World, (Instr.index 9 (.string Lib.len8tab) (.int .u8 x)).run Try.prog w = .ok (.int .u8 (Lib.len8 x)) w := fun w => Lib.run_index_len8tab w 9 .u8 x Try.underlying9 h0 h1
theorem len_val {x : Nat} {y : Int} (k : Nat) (hk : k ≤ 24) (h0 : 0 ≤ y) (h1 : y ≤ 255) (he : Lib.bitLen x = k + Lib.bitLen y.toNat) : wrap64 (k + wrap64 (Lib.len8 y)) = ((Lib.bitLen x : Nat) : Int) := by
  have l := Lib.bitLen_le8' y h0 h1
  rw [Lib.len8_of y h0 h1, IntWalk.wrap64_in ((Lib.bitLen y.toNat : Nat) : Int) (by omega), IntWalk.wrap64_in _ (by omega), he]
  omega
set_option maxHeartbeats 4000000 in
set_option maxRecDepth 100000 in
theorem bits_len32 (x : Int) (w : World) (h0 : 0 ≤ x) (h1 : x ≤ 4294967295) :
    Calls Try.prog 93 #[.int .u32 x] w fun e w' => e = .returned (.int .i64 (Lib.bitLen x.toNat)) ∧ w' = w := by
  by_cases c1 : x < 65536
  · by_cases c2 : x < 256
    · have H := hide (len_val (x := x.toNat) (y := x) 0 (by omega) h0 (by omega) (by omega))
      have i1 := len8_at x h0 (by omega)
      go_enter Try.func93, Try.ntmps93
      go_wp2
      go_ret
      exact ⟨ret_int (by simpa using H.out), rfl⟩
    · have H := hide (len_val (x := x.toNat) (y := x / 256) 8 (by omega) (by omega) (by omega) (by
        have := Lib.bitLen_shift8 x.toNat (by omega) (by omega)
        rw [this]; congr 2; omega))
      have i1 := len8_at (x / 256) (by omega) (by omega)
      go_enter Try.func93, Try.ntmps93
      go_wp2
      go_ret
      exact ⟨ret_int H.out, rfl⟩
  · by_cases c2 : x < 16777216
    · have H := hide (len_val (x := x.toNat) (y := x / 65536) 16 (by omega) (by omega) (by omega) (by
        have := Lib.bitLen_shift16 x.toNat (by omega) (by omega)
        rw [this]; congr 2; omega))
      have i1 := len8_at (x / 65536) (by omega) (by omega)
      go_enter Try.func93, Try.ntmps93
      go_wp2
      go_ret
      exact ⟨ret_int H.out, rfl⟩
    · have H := hide (len_val (x := x.toNat) (y := x / 65536 / 256) 24 (by omega) (by omega) (by omega) (by
        have := Lib.bitLen_shift24 x.toNat (by omega) (by omega)
        rw [this]; congr 2; omega))
      have i1 := len8_at (x / 65536 / 256) (by omega) (by omega)
      go_enter Try.func93, Try.ntmps93
      go_wp2
      go_ret
      exact ⟨ret_int H.out, rfl⟩
set_option maxHeartbeats 400000 in
theorem bits_lz32 (x : Int) (w : World) (h0 : 0 ≤ x) (h1 : x ≤ 4294967295) :
    Calls Try.prog 87 #[.int .u32 x] w fun e w' => e = .returned (.int .i64 (32 - (Lib.bitLen x.toNat : Int))) ∧ w' = w := by
  have l := Lib.bitLen_le x.toNat 32 (by omega) (by omega)
  go_enter Try.func87, Try.ntmps87
  go_wp2_with fail
  refine (bits_len32 x _ h0 h1).mono ?_
  rintro e w' ⟨rfl, rfl⟩
  go_wp2_with fail
  go_ret
  exact ⟨rfl, rfl⟩

theorem com_val (p q : PrefixM) (hp : okP p) (hq : okP q) : min p.len (min q.len (32 - (Lib.bitLen (p.addr ^^^ q.addr) : Int))) = ((comN p q : Nat) : Int) := by
  have h1 := hp.cast; have h2 := hq.cast
  have hx : p.addr ^^^ q.addr < 2 ^ 32 := Nat.xor_lt_two_pow (by have := hp.lt; omega) (by have := hq.lt; omega)
  have h3 := Lib.bitLen_le (p.addr ^^^ q.addr) 32 (by omega) hx
  unfold comN lzN
  omega
theorem run_min3 (P : Program) (k : IntKind) (ats : Array TypeId) (ty : TypeId) (x y z : Int) (w : World) : (Builtin.min_ ats ty #[.int k x, .int k y, .int k z]).run P w = .ok (.int k (min (min x y) z)) w := by
  have e : ∀ x y : Int, (if y < x then y else x) = min x y := fun x y => by
    by_cases h : y < x
    · rw [if_pos h]; omega
    · rw [if_neg h]; omega
  simp [Builtin.min_, Builtin.min2, e]
set_option maxHeartbeats 400000 in
theorem trie_common (p q : PrefixM) (hp : okP p) (hq : okP q) (w : World) :
    Calls Try.prog 75 #[.agg p.cells.toArray, .agg q.cells.toArray] w fun e w' => e = .returned (.int .i64 (comN p q : Nat)) ∧ Fr noB w w' := by
  have Hv := hide (com_val p q hp hq)
  have hx : p.addr ^^^ q.addr < 4294967296 := Nat.xor_lt_two_pow (n := 32) (by have := hp.lt; omega) (by have := hq.lt; omega)
  have Hx := hide (u32_xor_nat _ _ hp.lt hq.lt)
  go_enter Try.func75, Try.ntmps75
  go_upto_region 1 with (fail)
  refine wp_gen (fun W => CellsAt W w.heap.size 0 p.cells ∧ CellsAt W (w.heap.size + 1) 0 q.cells ∧ Fr noB w W) ⟨by (repeat (first | assumption | exact cells_new _ _ _ (by simp) | refine CellsAt.alloc ?_ _ | refine CellsAt.drew ?_ | refine CellsAt.drewN ?_ _)), by (repeat (first | assumption | exact cells_new _ _ _ (by simp) | refine CellsAt.alloc ?_ _ | refine CellsAt.drew ?_ | refine CellsAt.drewN ?_ _)), ((Fr.refl _ _).alloc _).alloc _⟩ ?_
  rintro w1 ⟨hc, hd, hf⟩
  have Hf := hide hf
  have p0 : ∀ z : Grow w1, z.v.cell? ⟨w.heap.size, 0, none⟩ = some (.int .u32 (p.addr : Nat)) := fun z => by have := (hc.fr z.fr (fun h => h)) 0 _ rfl; rwa [Nat.zero_add] at this
  have p1 : ∀ z : Grow w1, z.v.cell? ⟨w.heap.size, 1, none⟩ = some (.int .i64 p.len) := fun z => by have := (hc.fr z.fr (fun h => h)) 1 _ rfl; rwa [Nat.zero_add] at this
  have q0 : ∀ z : Grow w1, z.v.cell? ⟨w.heap.size + 1, 0, none⟩ = some (.int .u32 (q.addr : Nat)) := fun z => by have := (hd.fr z.fr (fun h => h)) 0 _ rfl; rwa [Nat.zero_add] at this
  have q1 : ∀ z : Grow w1, z.v.cell? ⟨w.heap.size + 1, 1, none⟩ = some (.int .i64 q.len) := fun z => by have := (hd.fr z.fr (fun h => h)) 1 _ rfl; rwa [Nat.zero_add] at this
  have hmn := run_min3 Try.prog
  clear hf hc hd
  refine wp_region_mix (fun W => ∃ z : Grow w1, W = z.v) (by kernel_rfl) (by kernel_rfl) (inGrow (Fr.refl _ _).drew) ?_
  iterate 9 (first | (refine wpMix_skip rfl ?_; simp only [Act.put, List.setIfInBounds_toArray, List.set_cons_succ, List.set_cons_zero]) | (refine wpMix_calm rfl rfl (fun K hK => ?_); go_big_quiet_op; refine hK _ ?_; clear hK K))
  rw [Hx.out]
  refine wpMix_spine rfl rfl (fun K hK => ?_); go_wp2_with fail
  refine (bits_lz32 _ _ (by omega) (by omega)).mono ?_
  rintro e w' ⟨rfl, rfl⟩
  refine hK _ _ rfl (inGrow (Fr.refl _ _).drew) ?_
  clear hK K
  rw [Int.toNat_natCast]
  repeat (first | (refine wpMix_skip rfl ?_; simp only [Act.put, List.setIfInBounds_toArray, List.set_cons_succ, List.set_cons_zero]) | (refine wpMix_calm rfl rfl (fun K hK => ?_); go_big_quiet_op; refine hK _ ?_; clear hK K))
  refine wpMix_nil ?_
  clear p0 p1 q0 q1
  go_wp2_with fail
  go_ret
  exact ⟨ret_int Hv.out, Hf.out.drew⟩
end Go.Proofs.Ytgjabgneapdbiaa

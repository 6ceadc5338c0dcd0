/- Chapter 9's tree in memory; half, common, Covers. Chapter 9's tree in memory. trie.lay. Chapter 9's tree in memory: what is read and written of it. -/
import Derived.Test.YtgjabgneapdbiaaTriePlain
import Derived.Test.YtgjabgneapdbiaaBase
import Derived.Shelf.Small.Bits
import Derived.Test.YtgjabgneapdbiaaTrieBase
namespace Go.Proofs.Ytgjabgneapdbiaa
open Go.RowKit Go.BigFrame
set_option linter.unusedSimpArgs false
set_option linter.unusedVariables false
attribute [local irreducible] wpMix wpAnyG

set_option maxHeartbeats 1000000 in
theorem addr_Covers (p q : PrefixM) (hp : p.wf) (hq : q.wf) (w : World) :
    Calls Try.prog 77 #[.agg p.cells.toArray, .agg q.cells.toArray] w fun e w' => e = .returned (.bool (covB p q)) ∧ Fr noB w w' := by
  go_enter Try.func77, Try.ntmps77
  go_upto_region 1 with (fail)
  refine wp_gen (fun W => CellsAt W w.heap.size 0 p.cells ∧ CellsAt W (w.heap.size + 1) 0 q.cells ∧ Fr noB w W) ⟨by (repeat (first | assumption | exact cells_new _ _ _ (by simp) | refine CellsAt.alloc ?_ _ | refine CellsAt.drew ?_ | refine CellsAt.drewN ?_ _)), by (repeat (first | assumption | exact cells_new _ _ _ (by simp) | refine CellsAt.alloc ?_ _ | refine CellsAt.drew ?_ | refine CellsAt.drewN ?_ _)), ((Fr.refl _ _).alloc _).alloc _⟩ ?_
  rintro w1 ⟨hc, hd, hf⟩
  have Hf := hide hf
  have p1 : ∀ z : Grow w1, z.v.cell? ⟨w.heap.size, 1, none⟩ = some (.int .i64 p.len) := fun z => by have := (hc.fr z.fr (fun h => h)) 1 _ rfl; rwa [Nat.zero_add] at this
  have q0 : ∀ z : Grow w1, z.v.cell? ⟨w.heap.size + 1, 0, none⟩ = some (.int .u32 (q.addr : Nat)) := fun z => by have := (hd.fr z.fr (fun h => h)) 0 _ rfl; rwa [Nat.zero_add] at this
  have q1 : ∀ z : Grow w1, z.v.cell? ⟨w.heap.size + 1, 1, none⟩ = some (.int .i64 q.len) := fun z => by have := (hd.fr z.fr (fun h => h)) 1 _ rfl; rwa [Nat.zero_add] at this
  clear hf hd
  cases hd : decide (heldI p.len ≤ heldI q.len) with
  | false =>
    have HR := hide (show covB p q = false from by unfold covB; rw [hd]; rfl)
    refine wp_region_mix (fun W => ∃ z : Grow w1, W = z.v) (by kernel_rfl) (by kernel_rfl) (inGrow (Fr.refl _ _).drew) ?_
    iterate 2 (first | (refine wpMix_skip rfl ?_; simp only [Act.put, List.setIfInBounds_toArray, List.set_cons_succ, List.set_cons_zero]) | (refine wpMix_calm rfl rfl (fun K hK => ?_); go_big_quiet_op; refine hK _ ?_; clear hK K))
    refine wpMix_spine rfl rfl (fun K hK => ?_); go_wp2_with fail
    refine (addr_held p.len _).mono ?_
    rintro e w' ⟨rfl, rfl⟩
    refine hK _ _ rfl (inGrow (Fr.refl _ _).drew) ?_
    clear hK K
    iterate 2 (first | (refine wpMix_skip rfl ?_; simp only [Act.put, List.setIfInBounds_toArray, List.set_cons_succ, List.set_cons_zero]) | (refine wpMix_calm rfl rfl (fun K hK => ?_); go_big_quiet_op; refine hK _ ?_; clear hK K))
    refine wpMix_spine rfl rfl (fun K hK => ?_); go_wp2_with fail
    refine (addr_held q.len _).mono ?_
    rintro e w' ⟨rfl, rfl⟩
    refine hK _ _ rfl (inGrow (Fr.refl _ _).drew) ?_
    clear hK K
    repeat (first | (refine wpMix_skip rfl ?_; simp only [Act.put, List.setIfInBounds_toArray, List.set_cons_succ, List.set_cons_zero]) | (refine wpMix_calm rfl rfl (fun K hK => ?_); go_big_quiet_op; refine hK _ ?_; clear hK K))
    refine wpMix_nil ?_
    clear p1 q0 q1 hc hd
    go_wp2_with fail
    go_ret
    exact ⟨ret_bool HR.out.symm, Hf.out.drew⟩
  | true =>
    have HR := hide (show covB p q = hasB p.addr p.len q.addr from by unfold covB; rw [hd]; rfl)
    refine wp_region_mix (fun W => ∃ z : Grow w1, W = z.v) (by kernel_rfl) (by kernel_rfl) (inGrow (Fr.refl _ _).drew) ?_
    iterate 2 (first | (refine wpMix_skip rfl ?_; simp only [Act.put, List.setIfInBounds_toArray, List.set_cons_succ, List.set_cons_zero]) | (refine wpMix_calm rfl rfl (fun K hK => ?_); go_big_quiet_op; refine hK _ ?_; clear hK K))
    refine wpMix_spine rfl rfl (fun K hK => ?_); go_wp2_with fail
    refine (addr_held p.len _).mono ?_
    rintro e w' ⟨rfl, rfl⟩
    refine hK _ _ rfl (inGrow (Fr.refl _ _).drew) ?_
    clear hK K
    iterate 2 (first | (refine wpMix_skip rfl ?_; simp only [Act.put, List.setIfInBounds_toArray, List.set_cons_succ, List.set_cons_zero]) | (refine wpMix_calm rfl rfl (fun K hK => ?_); go_big_quiet_op; refine hK _ ?_; clear hK K))
    refine wpMix_spine rfl rfl (fun K hK => ?_); go_wp2_with fail
    refine (addr_held q.len _).mono ?_
    rintro e w' ⟨rfl, rfl⟩
    refine hK _ _ rfl (inGrow (Fr.refl _ _).drew) ?_
    clear hK K
    iterate 2 (first | (refine wpMix_skip rfl ?_; simp only [Act.put, List.setIfInBounds_toArray, List.set_cons_succ, List.set_cons_zero]) | (refine wpMix_calm rfl rfl (fun K hK => ?_); go_big_quiet_op; refine hK _ ?_; clear hK K))
    (refine wpMix_load_atw rfl 28 (.tmp 2) rfl _ _ rfl (PrefixM.cells _) (fun W hW => by obtain ⟨z, rfl⟩ := hW; exact CellsAt.fr (by (repeat (first | assumption | exact cells_new _ _ _ (by simp) | refine CellsAt.alloc ?_ _ | refine CellsAt.drew ?_ | refine CellsAt.drewN ?_ _))) z.fr (fun h => h)) _ Try.underlying28 rfl (by kernel_rfl) ?_; simp only [Act.put, List.setIfInBounds_toArray, List.set_cons_succ, List.set_cons_zero])
    iterate 2 (first | (refine wpMix_skip rfl ?_; simp only [Act.put, List.setIfInBounds_toArray, List.set_cons_succ, List.set_cons_zero]) | (refine wpMix_calm rfl rfl (fun K hK => ?_); go_big_quiet_op; refine hK _ ?_; clear hK K))
    refine wpMix_spine rfl rfl (fun K hK => ?_); go_wp2_with fail
    refine (addr_Has p.addr q.addr p.len hp.1 hq.1 _).mono ?_
    rintro e w2 ⟨rfl, f2⟩
    have f2 : Fr noB w1 w2 := (Fr.refl _ _).drew.tr f2
    have Hf2 := hide (Hf.out.tr f2)
    refine hK _ _ rfl (inGrow f2) ?_
    clear hK K f2
    repeat (first | (refine wpMix_skip rfl ?_; simp only [Act.put, List.setIfInBounds_toArray, List.set_cons_succ, List.set_cons_zero]) | (refine wpMix_calm rfl rfl (fun K hK => ?_); go_big_quiet_op; refine hK _ ?_; clear hK K))
    refine wpMix_nil ?_
    clear p1 q0 q1 hc hd
    go_wp2_with fail
    go_ret
    exact ⟨ret_bool HR.out.symm, Hf2.out⟩

theorem half_val (a n : Nat) (ha : a < 4294967296) (hn : n < 32) : wrap64 (bits BinOp.and IntKind.u32 ((a : Int) / 2 ^ (31 - n)) 1) = ((halfB a n : Nat) : Int) := by
  have e : (a : Int) / 2 ^ (31 - n) = ((a / 2 ^ (31 - n) : Nat) : Int) := by simp
  have h1 : a / 2 ^ (31 - n) < 4294967296 := Nat.lt_of_le_of_lt (Nat.div_le_self _ _) ha
  rw [e, show (1 : Int) = ((1 : Nat) : Int) from rfl, u32_and_nat _ _ h1 (by decide), Nat.and_one_is_mod]
  unfold halfB
  rw [IntWalk.wrap64_in _ (by omega)]
set_option maxHeartbeats 400000 in
theorem trie_half (a n : Nat) (ha : a < 4294967296) (hn : n < 32) (w : World) :
    Calls Try.prog 76 #[.int .u32 a, .int .i64 n] w fun e w' => e = .returned (.int .i64 (halfB a n : Nat)) ∧ w' = w := by
  go_enter Try.func76, Try.ntmps76
  go_wp2_with fail
  go_ret
  exact ⟨ret_int (half_val a n ha hn), rfl⟩

/-! ### The bits that two prefixes share -/
theorem len8_at (x : Int) (h0 : 0 ≤ x) (h1 : x ≤ 255) : ∀ w : World, (Instr.index 9 (.string Lib.len8tab) (.int .u8 x)).run Try.prog w = .ok (.int .u8 (Lib.len8 x)) w := fun w => Lib.run_index_len8tab w 9 .u8 x Try.underlying9 h0 h1
theorem len_val {x : Nat} {y : Int} (k : Nat) (hk : k ≤ 24) (h0 : 0 ≤ y) (h1 : y ≤ 255) (he : Lib.bitLen x = k + Lib.bitLen y.toNat) : wrap64 (k + wrap64 (Lib.len8 y)) = ((Lib.bitLen x : Nat) : Int) := by
  have l := Lib.bitLen_le8' y h0 h1
  rw [Lib.len8_of y h0 h1, IntWalk.wrap64_in ((Lib.bitLen y.toNat : Nat) : Int) (by omega), IntWalk.wrap64_in _ (by omega), he]
  omega
set_option maxHeartbeats 4000000 in
set_option maxRecDepth 100000 in
theorem bits_len32 (x : Int) (w : World) (h0 : 0 ≤ x) (h1 : x ≤ 4294967295) :
    Calls Try.prog 93 #[.int .u32 x] w fun e w' => e = .returned (.int .i64 (Lib.bitLen x.toNat)) ∧ w' = w := by
  by_cases c1 : x < 65536
  · by_cases c2 : x < 256
    · have H := hide (len_val (x := x.toNat) (y := x) 0 (by omega) h0 (by omega) (by omega))
      have i1 := len8_at x h0 (by omega)
      go_enter Try.func93, Try.ntmps93
      go_wp2
      go_ret
      exact ⟨ret_int (by simpa using H.out), rfl⟩
    · have H := hide (len_val (x := x.toNat) (y := x / 256) 8 (by omega) (by omega) (by omega) (by
        have := Lib.bitLen_shift8 x.toNat (by omega) (by omega)
        rw [this]; congr 2; omega))
      have i1 := len8_at (x / 256) (by omega) (by omega)
      go_enter Try.func93, Try.ntmps93
      go_wp2
      go_ret
      exact ⟨ret_int H.out, rfl⟩
  · by_cases c2 : x < 16777216
    · have H := hide (len_val (x := x.toNat) (y := x / 65536) 16 (by omega) (by omega) (by omega) (by
        have := Lib.bitLen_shift16 x.toNat (by omega) (by omega)
        rw [this]; congr 2; omega))
      have i1 := len8_at (x / 65536) (by omega) (by omega)
      go_enter Try.func93, Try.ntmps93
      go_wp2
      go_ret
      exact ⟨ret_int H.out, rfl⟩
    · have H := hide (len_val (x := x.toNat) (y := x / 65536 / 256) 24 (by omega) (by omega) (by omega) (by
        have := Lib.bitLen_shift24 x.toNat (by omega) (by omega)
        rw [this]; congr 2; omega))
      have i1 := len8_at (x / 65536 / 256) (by omega) (by omega)
      go_enter Try.func93, Try.ntmps93
      go_wp2
      go_ret
      exact ⟨ret_int H.out, rfl⟩
set_option maxHeartbeats 400000 in
theorem bits_lz32 (x : Int) (w : World) (h0 : 0 ≤ x) (h1 : x ≤ 4294967295) :
    Calls Try.prog 87 #[.int .u32 x] w fun e w' => e = .returned (.int .i64 (32 - (Lib.bitLen x.toNat : Int))) ∧ w' = w := by
  have l := Lib.bitLen_le x.toNat 32 (by omega) (by omega)
  go_enter Try.func87, Try.ntmps87
  go_wp2_with fail
  refine (bits_len32 x _ h0 h1).mono ?_
  rintro e w' ⟨rfl, rfl⟩
  go_wp2_with fail
  go_ret
  exact ⟨rfl, rfl⟩

theorem com_val (p q : PrefixM) (hp : okP p) (hq : okP q) : min p.len (min q.len (32 - (Lib.bitLen (p.addr ^^^ q.addr) : Int))) = ((comN p q : Nat) : Int) := by
  have h1 := hp.cast; have h2 := hq.cast
  have hx : p.addr ^^^ q.addr < 2 ^ 32 := Nat.xor_lt_two_pow (by have := hp.lt; omega) (by have := hq.lt; omega)
  have h3 := Lib.bitLen_le (p.addr ^^^ q.addr) 32 (by omega) hx
  unfold comN lzN
  omega
theorem run_min3 (P : Program) (k : IntKind) (ats : Array TypeId) (ty : TypeId) (x y z : Int) (w : World) : (Builtin.min_ ats ty #[.int k x, .int k y, .int k z]).run P w = .ok (.int k (min (min x y) z)) w := by
  have e : ∀ x y : Int, (if y < x then y else x) = min x y := fun x y => by
    by_cases h : y < x
    · rw [if_pos h]; omega
    · rw [if_neg h]; omega
  simp [Builtin.min_, Builtin.min2, e]
set_option maxHeartbeats 400000 in
theorem trie_common (p q : PrefixM) (hp : okP p) (hq : okP q) (w : World) :
    Calls Try.prog 75 #[.agg p.cells.toArray, .agg q.cells.toArray] w fun e w' => e = .returned (.int .i64 (comN p q : Nat)) ∧ Fr noB w w' := by
  have Hv := hide (com_val p q hp hq)
  have hx : p.addr ^^^ q.addr < 4294967296 := Nat.xor_lt_two_pow (n := 32) (by have := hp.lt; omega) (by have := hq.lt; omega)
  have Hx := hide (u32_xor_nat _ _ hp.lt hq.lt)
  go_enter Try.func75, Try.ntmps75
  go_upto_region 1 with (fail)
  refine wp_gen (fun W => CellsAt W w.heap.size 0 p.cells ∧ CellsAt W (w.heap.size + 1) 0 q.cells ∧ Fr noB w W) ⟨by (repeat (first | assumption | exact cells_new _ _ _ (by simp) | refine CellsAt.alloc ?_ _ | refine CellsAt.drew ?_ | refine CellsAt.drewN ?_ _)), by (repeat (first | assumption | exact cells_new _ _ _ (by simp) | refine CellsAt.alloc ?_ _ | refine CellsAt.drew ?_ | refine CellsAt.drewN ?_ _)), ((Fr.refl _ _).alloc _).alloc _⟩ ?_
  rintro w1 ⟨hc, hd, hf⟩
  have Hf := hide hf
  have p0 : ∀ z : Grow w1, z.v.cell? ⟨w.heap.size, 0, none⟩ = some (.int .u32 (p.addr : Nat)) := fun z => by have := (hc.fr z.fr (fun h => h)) 0 _ rfl; rwa [Nat.zero_add] at this
  have p1 : ∀ z : Grow w1, z.v.cell? ⟨w.heap.size, 1, none⟩ = some (.int .i64 p.len) := fun z => by have := (hc.fr z.fr (fun h => h)) 1 _ rfl; rwa [Nat.zero_add] at this
  have q0 : ∀ z : Grow w1, z.v.cell? ⟨w.heap.size + 1, 0, none⟩ = some (.int .u32 (q.addr : Nat)) := fun z => by have := (hd.fr z.fr (fun h => h)) 0 _ rfl; rwa [Nat.zero_add] at this
  have q1 : ∀ z : Grow w1, z.v.cell? ⟨w.heap.size + 1, 1, none⟩ = some (.int .i64 q.len) := fun z => by have := (hd.fr z.fr (fun h => h)) 1 _ rfl; rwa [Nat.zero_add] at this
  have hmn := run_min3 Try.prog
  clear hf hc hd
  refine wp_region_mix (fun W => ∃ z : Grow w1, W = z.v) (by kernel_rfl) (by kernel_rfl) (inGrow (Fr.refl _ _).drew) ?_
  iterate 9 (first | (refine wpMix_skip rfl ?_; simp only [Act.put, List.setIfInBounds_toArray, List.set_cons_succ, List.set_cons_zero]) | (refine wpMix_calm rfl rfl (fun K hK => ?_); go_big_quiet_op; refine hK _ ?_; clear hK K))
  rw [Hx.out]
  refine wpMix_spine rfl rfl (fun K hK => ?_); go_wp2_with fail
  refine (bits_lz32 _ _ (by omega) (by omega)).mono ?_
  rintro e w' ⟨rfl, rfl⟩
  refine hK _ _ rfl (inGrow (Fr.refl _ _).drew) ?_
  clear hK K
  rw [Int.toNat_natCast]
  repeat (first | (refine wpMix_skip rfl ?_; simp only [Act.put, List.setIfInBounds_toArray, List.set_cons_succ, List.set_cons_zero]) | (refine wpMix_calm rfl rfl (fun K hK => ?_); go_big_quiet_op; refine hK _ ?_; clear hK K))
  refine wpMix_nil ?_
  clear p0 p1 q0 q1
  go_wp2_with fail
  go_ret
  exact ⟨ret_int Hv.out, Hf.out.drew⟩
end Go.Proofs.Ytgjabgneapdbiaa

namespace Go.Proofs.Ytgjabgneapdbiaa
open Go.RowKit Go.BigFrame
set_option linter.unusedSimpArgs false
set_option linter.unusedVariables false

def gr (F : Nat → Prop) (w w' : World) : Nat → Prop := fun b => F b ∨ (w.heap.size ≤ b ∧ b < w'.heap.size)
theorem own_at {α : Type} {w : World} {e : TypeId} {N : Nat} {cells : α → List Value} {s : SlV} {xs : List α} (h : OwnL w e N cells s xs) (hN : ∀ x, (cells x).length = N) {k : Nat} {x : α} (hx : xs[k]? = some x) :
    ∃ g, s.a = some ⟨g, 0, none⟩ ∧ k < s.len ∧ CellsAt w g (k * N) (cells x) ∧ ∃ junk, Blk w g (xs.flatMap cells ++ junk).toArray e := by
  obtain ⟨h1, h2⟩ := h
  have hk := (List.getElem?_eq_some_iff.1 hx).1
  rcases h2 with rfl | ⟨g, junk, ha, hb, _, _, _⟩
  · simp only at h1; omega
  · refine ⟨g, ha, by omega, fun j v hv => ?_, junk, hb⟩
    have hj : j < N := by rw [← hN x]; exact (List.getElem?_eq_some_iff.1 hv).1
    rw [hb.cell, List.getElem?_toArray, flat_get hN junk xs k x j hx hj, hv]
theorem gr_trans {F : Nat → Prop} {a b c : World} (h : a.heap.size ≤ b.heap.size) (k : b.heap.size ≤ c.heap.size) : gr (gr F a b) b c = gr F a c := by
  funext x
  unfold gr
  apply propext
  constructor
  · rintro ((h1 | ⟨h1, h2⟩) | ⟨h1, h2⟩)
    · exact .inl h1
    · exact .inr ⟨h1, by omega⟩
    · exact .inr ⟨by omega, h2⟩
  · rintro (h1 | ⟨h1, h2⟩)
    · exact .inl (.inl h1)
    · by_cases h3 : x < b.heap.size
      · exact .inl (.inr ⟨h1, h3⟩)
      · exact .inr ⟨by omega, h2⟩
/-- What a part may write is what the whole may, or new. -/
theorem Fr.gr {F : Nat → Prop} {a b c : World} (h : Fr F a b) (k : Fr (gr F a b) b c) : Fr F a c :=
  h.trans k (fun _ _ h => h) (fun x hx h => by rcases h with h | h; exact h; omega)
theorem own_ne_blk {α : Type} {w : World} {e t : TypeId} {N : Nat} {cells : α → List Value} {s : SlV} {xs : List α} {g : Nat} {cs : Array Value} (hb : Blk w g cs t) (ho : OwnL w e N cells s xs) (ht : t ≠ e) : ¬ ownB s g := by
  rintro ⟨a, ha, rfl⟩
  rcases ho.2 with rfl | ⟨g', junk, ha', hb', _⟩
  · simp at ha
  · rw [ha] at ha'
    obtain rfl := Option.some.inj ha'
    unfold Blk at hb hb'
    rw [hb] at hb'
    simp only [Option.some.injEq, Obj.cells.injEq] at hb'
    exact ht hb'.2.1
theorem own_ne_own {α β : Type} {w : World} {e t : TypeId} {N M : Nat} {cells : α → List Value} {cells' : β → List Value} {s s' : SlV} {xs : List α} {ys : List β} (h : OwnL w t M cells' s' ys) (ho : OwnL w e N cells s xs) (ht : t ≠ e) (b : Nat) (hb : ownB s' b) : ¬ ownB s b := by
  obtain ⟨a, ha, rfl⟩ := hb
  rcases h.2 with rfl | ⟨g', junk, ha', hb', _⟩
  · simp at ha
  · rw [ha] at ha'
    obtain rfl := Option.some.inj ha'
    exact own_ne_blk hb' ho ht
theorem own_shrink {α : Type} {w : World} {e : TypeId} {N : Nat} {cells : α → List Value} {g len cap k : Nat} {xs : List α} (h : OwnL w e N cells ⟨some ⟨g, 0, none⟩, len, cap⟩ xs) (hk : k ≤ len) : OwnL w e N cells ⟨some ⟨g, 0, none⟩, k, cap⟩ (xs.take k) := by
  obtain ⟨h1, h2⟩ := h
  rcases h2 with h2 | ⟨g', junk, ha, hb, hl, hc, hm⟩
  · simp at h2
  · simp only at h1 hl hc
    refine ⟨by simp only [List.length_take]; omega, .inr ⟨g', (xs.drop k).flatMap cells ++ junk, ha, ?_, ?_, by simp only; omega, hm⟩⟩
    · rw [← List.append_assoc, ← List.flatMap_append, List.take_append_drop]; exact hb
    · rw [← List.append_assoc, ← List.flatMap_append, List.take_append_drop]; exact hl
theorem own_nil_or {α : Type} {w : World} {e : TypeId} {N : Nat} {cells : α → List Value} {sa : Option Addr} {sl sc : Nat} {l : List α} (h : OwnL w e N cells ⟨sa, sl, sc⟩ l) : (sa = none ∧ sl = 0 ∧ sc = 0) ∨ ∃ g, sa = some ⟨g, 0, none⟩ := by
  rcases h.2 with h | ⟨g, _, h, _⟩
  · simp only [SlV.mk.injEq] at h; exact .inl h
  · exact .inr ⟨g, h⟩

/-! ### Nodes -/
structure NodeM where
  p : PrefixM
  v : Int
  th : Bool
  l : Nat
  r : Nat
  deriving Inhabited, DecidableEq
def NodeM.cells (x : NodeM) : List Value := [.int .u32 (x.p.addr : Nat), .int .i64 x.p.len, .int .i64 x.v, .bool x.th, .int .i64 (x.l : Nat), .int .i64 (x.r : Nat)]
theorem NodeM.length (x : NodeM) : x.cells.length = 6 := rfl
theorem NodeM.mem (x : NodeM) : ∀ u ∈ x.cells, u.oneCell' = true := by
  intro u hu
  simp only [NodeM.cells, List.mem_cons, List.not_mem_nil, or_false] at hu
  rcases hu with rfl | rfl | rfl | rfl | rfl | rfl <;> rfl
def zeroN : NodeM := ⟨⟨0, 0⟩, 0, false, 0, 0⟩
theorem node_info : (Try.prog.info? 87).map (fun i => (i.zero, i.size, i.bytes)) = some (some (.agg zeroN.cells.toArray), 6, 48) := by kernel_rfl
def icells (n : Nat) : List Value := [.int .i64 (n : Nat)]
theorem icells_length (x : Nat) : (icells x).length = 1 := rfl
theorem icells_mem (x : Nat) : ∀ u ∈ icells x, u.oneCell' = true := by
  intro u hu
  simp only [icells, List.mem_singleton] at hu
  subst hu; rfl
theorem int_info : (Try.prog.info? 3).map (fun i => (i.zero, i.size, i.bytes)) = some (some (.int .i64 0), 1, 8) := by kernel_rfl
abbrev OwnN (w : World) (s : SlV) (xs : List NodeM) : Prop := OwnL w 87 6 NodeM.cells s xs
abbrev OwnI (w : World) (s : SlV) (xs : List Nat) : Prop := OwnL w 3 1 icells s xs

structure TrieAt (w : World) (F : Nat → Prop) (g : Nat) (N : List NodeM) (fr : List Nat) (root many : Nat) : Prop where
  rep : ∃ sn sf : SlV, Blk w g #[.slice sn.a sn.len sn.cap, .slice sf.a sf.len sf.cap, .int .i64 (root : Nat), .int .i64 (many : Nat)] 80 ∧ OwnN w sn N ∧ OwnI w sf fr ∧ (∀ b, ownB sn b → F b) ∧ ∀ b, ownB sf b → F b
  here : F g
  lt : ∀ b, F b → b < w.heap.size
  len : N.length ≤ 1000000
  flen : fr.length ≤ 1000000
  blen : root ≤ 1000000 ∧ many ≤ 1000000
theorem TrieAt.fr {w w' : World} {F S : Nat → Prop} {g root many : Nat} {N : List NodeM} {fr : List Nat} (h : TrieAt w F g N fr root many) (f : Fr S w w') (hs : ∀ b, F b → ¬ S b) : TrieAt w' F g N fr root many := by
  obtain ⟨⟨sn, sf, h1, h2, h3, h4, h5⟩, h6, h7, h8, h9, h10⟩ := h
  exact ⟨⟨sn, sf, h1.fr f (hs g h6), h2.fr f (fun b hb => hs b (h4 b hb)), h3.fr f (fun b hb => hs b (h5 b hb)), h4, h5⟩, h6, fun b hb => f.lt (h7 b hb), h8, h9, h10⟩
theorem TrieAt.frN {w w' : World} {F : Nat → Prop} {g root many : Nat} {N : List NodeM} {fr : List Nat} (h : TrieAt w F g N fr root many) (f : Fr noB w w') : TrieAt w' F g N fr root many := h.fr f (fun _ _ h => h)
theorem TrieAt.grow {w w' : World} {F : Nat → Prop} {g root many : Nat} {N : List NodeM} {fr : List Nat} (h : TrieAt w' F g N fr root many) (hs : w.heap.size ≤ w'.heap.size) (hw : ∀ b, F b → b < w.heap.size) : TrieAt w' (gr F w w') g N fr root many := by
  obtain ⟨⟨sn, sf, h1, h2, h3, h4, h5⟩, h6, h7, h8, h9, h10⟩ := h
  exact ⟨⟨sn, sf, h1, h2, h3, fun b hb => .inl (h4 b hb), fun b hb => .inl (h5 b hb)⟩, .inl h6, fun b hb => by rcases hb with hb | hb; exact h7 b hb; exact hb.2, h8, h9, h10⟩
theorem TrieAt.same {w w' : World} {F : Nat → Prop} {g root many : Nat} {N : List NodeM} {fr : List Nat} (h : TrieAt w F g N fr root many) (hw : Fr noB w w') : TrieAt w' (gr F w w') g N fr root many ∧ Fr F w w' :=
  ⟨(h.frN hw).grow hw.size h.lt, hw.mono (fun _ _ h => h.elim)⟩

/-- A tree lies in the nodes. -/
def RepT (N : List NodeM) : T → Prop
  | .nil => True
  | .node i p v th l r => 0 < i ∧ N[i]? = some ⟨p, v, th, l.id, r.id⟩ ∧ RepT N l ∧ RepT N r
theorem RepT.keep {N N' : List NodeM} : ∀ {t : T}, RepT N t → (∀ i ∈ t.ids, N'[i]? = N[i]?) → RepT N' t
  | .nil, _, _ => trivial
  | .node i p v th l r, h, hk => by
    obtain ⟨h1, h2, h3, h4⟩ := h
    refine ⟨h1, (hk i (by simp [T.ids])).trans h2, h3.keep (fun j hj => hk j (by simp [T.ids, hj])), h4.keep (fun j hj => hk j (by simp [T.ids, hj]))⟩
theorem RepT.lt {N : List NodeM} : ∀ {t : T}, RepT N t → ∀ i ∈ t.ids, 0 < i ∧ i < N.length
  | .nil, _, i, hi => by simp [T.ids] at hi
  | .node i p v th l r, h, j, hj => by
    obtain ⟨h1, h2, h3, h4⟩ := h
    simp only [T.ids, List.mem_cons, List.mem_append] at hj
    rcases hj with rfl | hj | hj
    · exact ⟨h1, (List.getElem?_eq_some_iff.1 h2).1⟩
    · exact h3.lt j hj
    · exact h4.lt j hj
theorem id_nil {N : List NodeM} {t : T} (h : RepT N t) : t.id = 0 ↔ t.isNil = true := by
  cases t with
  | nil => simp [T.id, T.isNil]
  | node i p v th l r => have := h.1; simp [T.id, T.isNil]; omega
theorem id_mem {t : T} (h : t.isNil = false) : t.id ∈ t.ids := by
  cases t with
  | nil => simp [T.isNil] at h
  | node i p v th l r => simp [T.id, T.ids]
/-- Nodes and free numbers, each once. -/
structure AlOk (N : List NodeM) (fr : List Nat) (ids : List Nat) : Prop where
  nodup : (ids ++ fr).Nodup
  bd : ∀ i ∈ fr, 0 < i ∧ i < N.length
/-- The nodes behind one that was laid. -/
def layN (N : List NodeM) (fr : List Nat) (n : NodeM) : List NodeM := match fr.getLast? with | some i => N.set i n | none => N ++ [n]
end Go.Proofs.Ytgjabgneapdbiaa

namespace Go.Proofs.Ytgjabgneapdbiaa
open Go.RowKit Go.BigFrame
set_option linter.unusedSimpArgs false
set_option linter.unusedVariables false
attribute [local irreducible] wpMix wpAnyG

def LayTo (w : World) (F : Nat → Prop) (g : Nat) (N : List NodeM) (fr : List Nat) (root many : Nat) (n : NodeM) (e : Ending) (w' : World) : Prop :=
  e = .returned (.int .i64 (layA ⟨N.length, fr⟩ : Nat)) ∧ TrieAt w' (gr F w w') g (layN N fr n) (layS ⟨N.length, fr⟩).free root many ∧ Fr F w w'

theorem trie_upd {w w' : World} {F : Nat → Prop} {g root many root' many' : Nat} {N N' : List NodeM} {fr fr' : List Nat} {sn sf : SlV} (h : TrieAt w F g N fr root many)
    (hb : Blk w' g #[.slice sn.a sn.len sn.cap, .slice sf.a sf.len sf.cap, .int .i64 (root' : Nat), .int .i64 (many' : Nat)] 80) (hn : OwnN w' sn N') (hf : OwnI w' sf fr') (hF : Fr F w w')
    (h1 : ∀ b, ownB sn b → F b ∨ w.heap.size ≤ b) (h2 : ∀ b, ownB sf b → F b ∨ w.heap.size ≤ b) (hl : N'.length ≤ 1000000) (hl2 : fr'.length ≤ 1000000) (hbl : root' ≤ 1000000 ∧ many' ≤ 1000000) : TrieAt w' (gr F w w') g N' fr' root' many' := by
  refine ⟨⟨sn, sf, hb, hn, hf, fun b hb => ?_, fun b hb => ?_⟩, .inl h.here, fun b hb => ?_, hl, hl2, hbl⟩
  · rcases h1 b hb with h3 | h3
    · exact .inl h3
    · exact .inr ⟨h3, hn.lt b hb⟩
  · rcases h2 b hb with h3 | h3
    · exact .inl h3
    · exact .inr ⟨h3, hf.lt b hb⟩
  · rcases hb with h3 | h3
    · exact hF.lt (h.lt b h3)
    · exact h3.2

set_option maxRecDepth 100000 in
set_option maxHeartbeats 2000000 in
theorem trie_lay (w : World) (F : Nat → Prop) (g : Nat) (N : List NodeM) (fr : List Nat) (root many : Nat) (h : TrieAt w F g N fr root many) (hfr : ∀ i ∈ fr, i < N.length) (hN : N.length + 1 ≤ 1000000) (n : NodeM) :
    Calls Try.prog 74 #[.pointer (some ⟨g, 0, none⟩), .agg n.cells.toArray] w (LayTo w F g N fr root many n) := by
  have H := hide h
  have hgl := h.lt g h.here
  have hflen := h.flen
  clear h
  go_enter Try.func74, Try.ntmps74
  go_upto_region 1 with (fail)
  refine wp_gen (fun W => CellsAt W w.heap.size 0 n.cells ∧ Fr noB w W ∧ W.heap.size = w.heap.size + 1) ⟨by (repeat (first | assumption | exact cells_new _ _ _ (by simp) | refine CellsAt.alloc ?_ _ | refine CellsAt.drew ?_ | refine CellsAt.drewN ?_ _)), (Fr.refl _ _).alloc _, by simp⟩ ?_
  rintro w1 ⟨hc, hf, hw1⟩
  have Hc := hide hc; have Hf := hide hf
  obtain ⟨⟨⟨na, nl, nc⟩, ⟨fa, fl, fc⟩, hblk, hown, howf, hFn, hFf⟩, _⟩ := H.out.frN hf
  have hnl : nl = N.length := hown.1
  have hfl : fl = fr.length := howf.1
  have hgw1 : g < w1.heap.size := by omega
  have c0 : w1.cell? ⟨g, 0, none⟩ = some (.slice na nl nc) := hblk.cell 0
  have c1 : w1.cell? ⟨g, 1, none⟩ = some (.slice fa fl fc) := hblk.cell 1
  have z1 : w1.frozen? ⟨g, 1, none⟩ = false := hblk.free 1
  have Hblk := hide hblk; have Hown := hide hown; have Howf := hide howf; have HFn := hide hFn; have HFf := hide hFf; have Hnl := hide hnl; have Hfl := hide hfl
  have Hfl' : fl ≤ 1000000 := by omega
  clear hblk hown howf hFn hFf hf hc
  cases hlast : fr.getLast? with
  | some i =>
    obtain ⟨ys, hys⟩ := List.getLast?_eq_some_iff.1 hlast
    subst hys
    have HA := hide (show layA ⟨N.length, ys ++ [i]⟩ = i from by unfold layA; simp)
    have HS := hide (show (layS ⟨N.length, ys ++ [i]⟩).free = ys from by unfold layS; simp)
    have HL := hide (show layN N (ys ++ [i]) n = N.set i n from by unfold layN; simp)
    have hiN := hfr i (by simp)
    have hk : fl = ys.length + 1 := by simpa using hfl
    have hx : (ys ++ [i])[ys.length]? = some i := by simp
    obtain ⟨gf, rfl, _, hci, _⟩ := own_at Howf.out icells_length hx
    have hci0 : w1.cell? ⟨gf, ys.length, none⟩ = some (.int .i64 (i : Nat)) := by have := hci 0 _ rfl; simpa using this
    have hyl : (ys ++ [i]).length = ys.length + 1 := by simp
    generalize hm : ys.length = m at *
    have Hm := hide hm
    subst hk
    have hmc : m ≤ fc := by
      rcases Howf.out.2 with h | ⟨_, _, _, _, _, h, _⟩
      · simp at h
      · simp only at h; omega
    clear hlast hx hci hfl hnl hfr hyl hm
    go_upto_region 5 with (fail)
    refine wp_gen (fun W => Blk W g #[.slice na nl nc, .slice (some ⟨gf, 0, none⟩) m fc, .int .i64 (root : Nat), .int .i64 (many : Nat)] 80 ∧ Fr (oneB g) w1 W ∧ W.heap.size = w1.heap.size) ⟨Hblk.out.set 1 _, (Fr.refl (oneB g) _).setCell (p := ⟨g, 1, none⟩) (.inr rfl) _, by simp⟩ ?_
    rintro w2 ⟨hblk2, hf2, hw2⟩
    have Hblk2 := hide hblk2; have Hf2 := hide hf2
    obtain ⟨gn, rfl, hin, _, _⟩ := own_at Hown.out NodeM.length (List.getElem?_eq_getElem hiN)
    have hin : i < nl := hin
    have Hown2 := hide (show OwnN w2 ⟨some ⟨gn, 0, none⟩, nl, nc⟩ N from Hown.out.fr hf2 (fun b hb e => by unfold oneB at e; subst e; exact own_ne_blk Hblk.out Hown.out (by decide) hb))
    have hmul : ((i : Int) * 6).toNat = i * 6 := by omega
    have hg2 : ∀ z : Grow w2, z.v.cell? ⟨g, 0, none⟩ = some (.slice (some ⟨gn, 0, none⟩) nl nc) := fun z => (hblk2.fr z.fr (fun h => h)).cell 0
    have hc2 : CellsAt w2 w.heap.size 0 n.cells := Hc.out.fr hf2 (fun e => by unfold oneB at e; omega)
    clear c0 c1 z1 hci0 hblk2 hf2
    refine wp_region_mixT 7 (fun W => ∃ z : Grow w2, W = z.v) (by kernel_rfl) (by kernel_rfl) (inGrow (Fr.refl _ _).drew) ?_
    simp only [List.take_succ_cons, List.take_zero, List.drop_succ_cons, List.drop_zero]
    iterate 5 (first | (refine wpMix_skip rfl ?_; simp only [Act.put, List.setIfInBounds_toArray, List.set_cons_succ, List.set_cons_zero]) | (refine wpMix_calm rfl rfl (fun K hK => ?_); go_big_quiet_op; refine hK _ ?_; clear hK K))
    (refine wpMix_load_atw rfl 87 (.tmp 3) rfl _ _ rfl (NodeM.cells _) (fun W hW => by obtain ⟨z, rfl⟩ := hW; exact CellsAt.fr (by (repeat (first | assumption | exact cells_new _ _ _ (by simp) | refine CellsAt.alloc ?_ _ | refine CellsAt.drew ?_ | refine CellsAt.drewN ?_ _))) z.fr (fun h => h)) _ Try.underlying87 rfl (by kernel_rfl) ?_; simp only [Act.put, List.setIfInBounds_toArray, List.set_cons_succ, List.set_cons_zero])
    repeat (first | (refine wpMix_skip rfl ?_; simp only [Act.put, List.setIfInBounds_toArray, List.set_cons_succ, List.set_cons_zero]) | (refine wpMix_calm rfl rfl (fun K hK => ?_); go_big_quiet_op; refine hK _ ?_; clear hK K))
    refine wpMix_nil ?_
    have hownd : OwnN w2.drew ⟨some ⟨gn, 0, none⟩, nl, nc⟩ N := Hown2.out
    refine wpList_store_elem rfl 87 (.tmp 37) (.tmp 36) rfl hownd NodeM.length rfl i hiN n (by go_simp) rfl (by kernel_rfl) (NodeM.mem n) ?_
    intro w4 hown4 hf4 hsz4
    simp only [Act.put, List.setIfInBounds_toArray, List.set_cons_succ, List.set_cons_zero]
    have Hown4 := hide hown4
    have Hf4 := hide (show Fr (oneB gn) w2 w4 from ((Fr.refl (oneB gn) w2).drew).tr hf4)
    clear hownd hown4 hf4 hsz4 hc2 hg2
    go_wp2_with fail
    go_ret
    unfold LayTo
    rw [HA.out, HS.out, HL.out]
    have hFgn : F gn := HFn.out gn ⟨_, rfl, rfl⟩
    have hne : gn ≠ g := fun e => by subst e; exact own_ne_blk Hblk2.out Hown2.out (by decide) ⟨_, rfl, rfl⟩
    have hFR : Fr F w w4 := Fr.trans (Fr.trans Hf.out Hf2.out (U := F) (fun _ _ h => h.elim) (fun b _ e => by unfold oneB at e; subst e; exact H.out.here)) Hf4.out (fun _ _ h => h) (fun b _ e => by unfold oneB at e; subst e; exact hFgn)
    have howf2 : OwnI w2 ⟨some ⟨gf, 0, none⟩, m, fc⟩ ys := by
      have h1 := own_shrink (k := m) Howf.out (Nat.le_succ m)
      rw [← Hm.out, List.take_left'  rfl, Hm.out] at h1
      exact h1.fr Hf2.out (fun b hb e => by unfold oneB at e; subst e; exact own_ne_blk Hblk.out h1 (by decide) hb)
    refine ⟨rfl, trie_upd H.out (sn := ⟨some ⟨gn, 0, none⟩, nl, nc⟩) (sf := ⟨some ⟨gf, 0, none⟩, m, fc⟩) (Hblk2.out.fr Hf4.out (fun e => hne e.symm)) Hown4.out (howf2.fr Hf4.out (fun b hb e => by unfold oneB at e; subst e; exact own_ne_own howf2 Hown2.out (by decide) b hb ⟨_, rfl, rfl⟩)) hFR
      (fun b hb => .inl (HFn.out b hb)) (fun b hb => .inl (HFf.out b (by obtain ⟨a, ha, e⟩ := hb; exact ⟨a, ha, e⟩))) (by rw [List.length_set]; exact H.out.len) (by have := H.out.flen; simp only [List.length_append] at this; omega) H.out.blen, hFR⟩
  | none =>
    have hfn : fr = [] := by simpa using hlast
    subst hfn
    have HA := hide (show layA ⟨N.length, []⟩ = N.length from by unfold layA; simp)
    have HS := hide (show (layS ⟨N.length, []⟩).free = [] from by unfold layS; simp)
    have HL := hide (show layN N [] n = N ++ [n] from by unfold layN; simp)
    have hk : fl = 0 := by simpa using hfl
    subst hk
    have hnlm : nl ≤ 1000000 := by omega
    clear hlast hfl hnl hfr
    go_upto_region 7 with (fail)
    have hg1 : ∀ z : GrowS (ownB ⟨na, nl, nc⟩) w1, z.v.cell? ⟨g, 0, none⟩ = some (.slice na nl nc) := fun z => (Hblk.out.fr z.fr (own_ne_blk Hblk.out Hown.out (by decide))).cell 0
    have hownlt : ∀ b, ownB ⟨na, nl, nc⟩ b → b < w.heap.size := fun b hb => H.out.lt b (HFn.out b hb)
    have Hlt := hide hownlt
    clear c0 c1 z1 hownlt
    refine wp_region_mixT 10 (fun W => ∃ z : GrowS (ownB ⟨na, nl, nc⟩) w1, W = z.v) (by kernel_rfl) (by kernel_rfl) (inGrowS (Fr.refl _ _).drew) ?_
    simp only [List.take_succ_cons, List.take_zero, List.drop_succ_cons, List.drop_zero]
    iterate 5 (first | (refine wpMix_skip rfl ?_; simp only [Act.put, List.setIfInBounds_toArray, List.set_cons_succ, List.set_cons_zero]) | (refine wpMix_calm rfl rfl (fun K hK => ?_); go_big_quiet_op; refine hK _ ?_; clear hK K))
    refine wpMix_load_atw rfl 87 (.tmp 3) rfl _ _ rfl n.cells (fun W hW => by obtain ⟨z, rfl⟩ := hW; exact Hc.out.fr z.fr (fun hb => by have := Hlt.out _ hb; omega)) _ Try.underlying87 rfl (by kernel_rfl) ?_
    simp only [Act.put, List.setIfInBounds_toArray, List.set_cons_succ, List.set_cons_zero]
    refine wpMix_buildSlice rfl 78 1 _ rfl #[(0, .agg n.cells.toArray)] (by kernel_rfl) Try.underlying78 (.agg zeroN.cells.toArray) 6 (by kernel_rfl) n.cells.toArray (by decide) (by decide) (by kernel_rfl) (inGrowS ((Fr.refl _ _).drew.alloc _)) ?_
    simp only [Act.put, List.setIfInBounds_toArray, List.set_cons_succ, List.set_cons_zero]
    have hone := slof_one (w := w1.drew) (ok := fun _ : NodeM => True) (x := n) NodeM.length 87 trivial
    have hown5 : OwnN (w1.drew.alloc (.cells n.cells.toArray 87)) ⟨na, nl, nc⟩ N := Hown.out.fr ((Fr.refl noB _).drew.alloc _) (fun _ _ h => h)
    refine wpMix_append_rows (N := 6) (cells := NodeM.cells) (s := ⟨na, nl, nc⟩) (xs := N) (q := ⟨some ⟨w1.drew.heap.size, 0, none⟩, 1, 1⟩) (ys := [n]) (ok := fun _ => True) rfl (.tmp 43) (.tmp 45) 78 rfl Try.underlying78 _ 48 node_info (by kernel_rfl) (by decide) NodeM.length NodeM.mem
      rfl hown5 rfl hone (fun h => by simp at h) (by simp [maxLen]; omega) (by simp; omega) ?_
    intro s2 w5 hown6 hf5 hor
    have hf45 : Fr (ownB ⟨na, nl, nc⟩) w1 w5 := (((Fr.refl _ _).drew).alloc _).tr hf5
    refine ⟨inGrowS hf45, ?_⟩
    have Hbl5 := hide (Hblk.out.fr hf45 (own_ne_blk Hblk.out Hown.out (by decide)))
    have hs2 : ∀ b, ownB s2 b → ownB ⟨na, nl, nc⟩ b ∨ w1.heap.size ≤ b := by
      rintro b ⟨x, hx, rfl⟩
      rcases hor with ⟨e1, _⟩ | ⟨g', e1, hg, _⟩
      · exact .inl ⟨x, by rw [← e1]; exact hx, rfl⟩
      · rw [e1] at hx
        simp only [Option.some.injEq] at hx
        subst hx
        simp at hg
        exact .inr (by simp only; omega)
    have Hf45 := hide hf45; have Hown6 := hide hown6; have Hs2 := hide hs2
    have hs25 : Hid (w1.heap.size ≤ w5.heap.size) := hide hf45.size
    have howf5 : OwnI w5 ⟨fa, 0, fc⟩ [] := Howf.out.fr hf45 (fun b hb e => own_ne_own Howf.out Hown.out (by decide) b hb e)
    have Howf5 := hide howf5
    obtain ⟨s2a, s2l, s2c⟩ := s2
    have hs2l : s2l = N.length + 1 := by have := hown6.1; simpa using this
    have c5 : w5.cell? ⟨g, 0, none⟩ = some (.slice na nl nc) := Hbl5.out.cell 0
    have z5 : w5.frozen? ⟨g, 0, none⟩ = false := Hbl5.out.free 0
    have hg5 : g < w5.heap.size := by have := hf45.size; omega
    have hs2m : s2l ≤ 1000000 := by omega
    have Hs2l := hide hs2l
    clear hf45 hown6 hs2 hor hf5 hone hown5 hg1 howf5 hs2l
    simp only [Act.put, List.setIfInBounds_toArray, List.set_cons_succ, List.set_cons_zero]
    repeat (first | (refine wpMix_skip rfl ?_; simp only [Act.put, List.setIfInBounds_toArray, List.set_cons_succ, List.set_cons_zero]) | (refine wpMix_calm rfl rfl (fun K hK => ?_); go_big_quiet_op; refine hK _ ?_; clear hK K))
    refine wpMix_nil ?_
    go_wp2_with fail
    go_ret
    unfold LayTo
    rw [HA.out, HS.out, HL.out]
    have hset := Hbl5.out.set 0 (.slice s2a s2l s2c)
    have hfs : Fr (oneB g) w5 (w5.setCell ⟨g, 0, none⟩ (.slice s2a s2l s2c)) := (Fr.refl (oneB g) _).setCell (p := ⟨g, 0, none⟩) (.inr rfl) _
    have hFR : Fr F w (w5.setCell ⟨g, 0, none⟩ (.slice s2a s2l s2c)) := by
      refine Fr.trans (Fr.trans Hf.out Hf45.out (U := F) (fun _ _ h => h.elim) (fun b _ hb => HFn.out b hb)) hfs (fun _ _ h => h) (fun b _ hb => ?_)
      unfold oneB at hb; subst hb; exact H.out.here
    refine ⟨ret_int (by have := Hs2l.out; omega), trie_upd H.out (sn := ⟨s2a, s2l, s2c⟩) (sf := ⟨fa, 0, fc⟩) hset (Hown6.out.fr hfs (fun b hb e => by unfold oneB at e; subst e; exact own_ne_blk Hbl5.out Hown6.out (by decide) hb)) (Howf5.out.fr hfs (fun b hb e => by unfold oneB at e; subst e; exact own_ne_blk Hbl5.out Howf5.out (by decide) hb)) hFR
      (fun b hb => ?_) (fun b hb => .inl (HFf.out b hb)) (by simpa using hN) (Nat.zero_le _) H.out.blen, hFR⟩
    rcases Hs2.out b hb with h | h
    · exact .inl (HFn.out b h)
    · exact .inr (by omega)
end Go.Proofs.Ytgjabgneapdbiaa

namespace Go.Proofs.Ytgjabgneapdbiaa
open Go.RowKit Go.BigFrame
set_option linter.unusedSimpArgs false
set_option linter.unusedVariables false

/-- Worlds in which something holds. -/
structure Holds (p : World → Prop) where
  v : World
  has : p v
theorem GrowS.cell {S : Nat → Prop} {w : World} {b o : Nat} {v : Value} (h : w.cell? ⟨b, o, none⟩ = some v) (hs : ¬ S b) (z : GrowS S w) : z.v.cell? ⟨b, o, none⟩ = some v := (z.fr.cell (World.block_lt_of_cell? _ _ h) hs).trans h
theorem node_pfx {w : World} {b o : Nat} {x : NodeM} (h : CellsAt w b o x.cells) : CellsAt w b o x.p.cells := fun j v hj => by
  have hl : j < 2 := by rw [← PrefixM.length x.p]; exact (List.getElem?_eq_some_iff.1 hj).1
  have e : x.cells = x.p.cells ++ [.int .i64 x.v, .bool x.th, .int .i64 (x.l : Nat), .int .i64 (x.r : Nat)] := rfl
  exact h j v (by rw [e, List.getElem?_append_left (by rw [PrefixM.length]; exact hl)]; exact hj)
theorem pfx_now {w : World} {b o : Nat} {p : PrefixM} (h : CellsAt w b o p.cells) : w.cell? ⟨b, o, none⟩ = some (.int .u32 (p.addr : Nat)) ∧ w.cell? ⟨b, o + 1, none⟩ = some (.int .i64 p.len) := ⟨h 0 _ rfl, h 1 _ rfl⟩

/-- What is known of a node's elements. -/
structure NodeAt (w : World) (F : Nat → Prop) (g : Nat) (N : List NodeM) (fr : List Nat) (root many : Nat) (i : Nat) (x : NodeM) (gn nl nc : Nat) : Prop where
  len : nl = N.length
  lt : i < nl
  nlm : nl ≤ 1000000
  head : w.cell? ⟨g, 0, none⟩ = some (.slice (some ⟨gn, 0, none⟩) nl nc)
  cells : CellsAt w gn (i * 6) x.cells
  free : ∀ j, w.frozen? ⟨gn, j, none⟩ = false
  foot : F gn
  ne : gn ≠ g
  block : gn < w.heap.size
  set : ∀ j u (x' : NodeM), j < 6 → x'.cells = x.cells.set j u → TrieAt (w.setCell ⟨gn, i * 6 + j, none⟩ u) F g (N.set i x') fr root many
  hs : Fr (oneB gn) w w
theorem TrieAt.node {w : World} {F : Nat → Prop} {g root many : Nat} {N : List NodeM} {fr : List Nat} (h : TrieAt w F g N fr root many) {i : Nat} {x : NodeM} (hx : N[i]? = some x) : ∃ gn nl nc, NodeAt w F g N fr root many i x gn nl nc := by
  obtain ⟨⟨⟨na, nl, nc⟩, sf, h1, h2, h3, h4, h5⟩, h6, h7, h8, h9, h10⟩ := h
  obtain ⟨gn, rfl, hin, hcn, junk, hbk⟩ := own_at h2 NodeM.length hx
  have hne : gn ≠ g := fun e => by subst e; exact own_ne_blk h1 h2 (by decide) ⟨_, rfl, rfl⟩
  have hlen : nl = N.length := h2.1
  refine ⟨gn, nl, nc, hlen, hin, by omega, h1.cell 0, hcn, fun j => hbk.free j, h4 gn ⟨_, rfl, rfl⟩, hne, hbk.lt, fun j u x' hj hc => ?_, Fr.refl _ _⟩
  have hs : Fr (oneB gn) w (w.setCell ⟨gn, i * 6 + j, none⟩ u) := (Fr.refl (oneB gn) _).setCell (p := ⟨gn, i * 6 + j, none⟩) (.inr rfl) _
  refine ⟨⟨⟨some ⟨gn, 0, none⟩, nl, nc⟩, sf, h1.fr hs (fun e => hne e.symm), h2.setField NodeM.length rfl hx hj hc, h3.fr hs (fun b hb e => by unfold oneB at e; subst e; exact own_ne_own h3 h2 (by decide) b hb ⟨_, rfl, rfl⟩), h4, h5⟩, h6, fun b hb => hs.lt (h7 b hb), by rw [List.length_set]; exact h8, h9, h10⟩
theorem TrieAt.root_cell {w : World} {F : Nat → Prop} {g root many : Nat} {N : List NodeM} {fr : List Nat} (h : TrieAt w F g N fr root many) : w.cell? ⟨g, 2, none⟩ = some (.int .i64 (root : Nat)) ∧ w.cell? ⟨g, 3, none⟩ = some (.int .i64 (many : Nat)) ∧ (∀ j, w.frozen? ⟨g, j, none⟩ = false) ∧ g < w.heap.size := by
  obtain ⟨⟨sn, sf, h1, h2, h3, h4, h5⟩, h6, h7, h8, h9⟩ := h
  exact ⟨h1.cell 2, h1.cell 3, fun j => h1.free j, h1.lt⟩
theorem TrieAt.mono {w : World} {F F' : Nat → Prop} {g root many : Nat} {N : List NodeM} {fr : List Nat} (h : TrieAt w F g N fr root many) (hs : ∀ b, F b → F' b) (hl : ∀ b, F' b → b < w.heap.size) : TrieAt w F' g N fr root many := by
  obtain ⟨⟨sn, sf, h1, h2, h3, h4, h5⟩, h6, h7, h8, h9, h10⟩ := h
  exact ⟨⟨sn, sf, h1, h2, h3, fun b hb => hs b (h4 b hb), fun b hb => hs b (h5 b hb)⟩, hs g h6, hl, h8, h9, h10⟩
/-- Behind a later world's change. -/
theorem TrieAt.later {w w2 w3 : World} {F : Nat → Prop} {g root many : Nat} {N : List NodeM} {fr : List Nat} (h : TrieAt w3 (gr F w2 w3) g N fr root many) (hF : ∀ b, F b → b < w.heap.size) (h12 : w.heap.size ≤ w2.heap.size) (h23 : w2.heap.size ≤ w3.heap.size) : TrieAt w3 (gr F w w3) g N fr root many := by
  refine h.mono (fun b hb => ?_) (fun b hb => ?_)
  · rcases hb with hb | hb
    · exact .inl hb
    · exact .inr ⟨by omega, hb.2⟩
  · rcases hb with hb | hb
    · have := hF b hb; omega
    · exact hb.2
theorem TrieAt.later' {w w3 : World} {F G : Nat → Prop} {g root many : Nat} {N : List NodeM} {fr : List Nat} (h : TrieAt w3 G g N fr root many) (hG : ∀ b, G b → F b ∨ (w.heap.size ≤ b ∧ b < w3.heap.size)) (hF : ∀ b, F b → b < w.heap.size) (h13 : w.heap.size ≤ w3.heap.size) : TrieAt w3 (gr F w w3) g N fr root many :=
  h.mono hG (fun b hb => by rcases hb with hb | hb; have := hF b hb; omega; exact hb.2)
theorem TrieAt.set_many {w : World} {F : Nat → Prop} {g root many : Nat} {N : List NodeM} {fr : List Nat} (h : TrieAt w F g N fr root many) {m' : Nat} {v : Value} (hv : v = .int .i64 (m' : Nat)) (hm : m' ≤ 1000000) : TrieAt (w.setCell ⟨g, 3, none⟩ v) F g N fr root m' := by
  subst hv
  obtain ⟨⟨sn, sf, h1, h2, h3, h4, h5⟩, h6, h7, h8, h9, h10⟩ := h
  have hs : Fr (oneB g) w (w.setCell ⟨g, 3, none⟩ (.int .i64 (m' : Nat))) := (Fr.refl (oneB g) _).setCell (p := ⟨g, 3, none⟩) (.inr rfl) _
  exact ⟨⟨sn, sf, h1.set 3 _, h2.fr hs (fun b hb e => by unfold oneB at e; subst e; exact own_ne_blk h1 h2 (by decide) hb), h3.fr hs (fun b hb e => by unfold oneB at e; subst e; exact own_ne_blk h1 h3 (by decide) hb), h4, h5⟩, h6, fun b hb => hs.lt (h7 b hb), h8, h9, h10.1, hm⟩
theorem TrieAt.set_root {w : World} {F : Nat → Prop} {g root many : Nat} {N : List NodeM} {fr : List Nat} (h : TrieAt w F g N fr root many) {m' : Nat} {v : Value} (hv : v = .int .i64 (m' : Nat)) (hm : m' ≤ 1000000) : TrieAt (w.setCell ⟨g, 2, none⟩ v) F g N fr m' many := by
  subst hv
  obtain ⟨⟨sn, sf, h1, h2, h3, h4, h5⟩, h6, h7, h8, h9, h10⟩ := h
  have hs : Fr (oneB g) w (w.setCell ⟨g, 2, none⟩ (.int .i64 (m' : Nat))) := (Fr.refl (oneB g) _).setCell (p := ⟨g, 2, none⟩) (.inr rfl) _
  exact ⟨⟨sn, sf, h1.set 2 _, h2.fr hs (fun b hb e => by unfold oneB at e; subst e; exact own_ne_blk h1 h2 (by decide) hb), h3.fr hs (fun b hb e => by unfold oneB at e; subst e; exact own_ne_blk h1 h3 (by decide) hb), h4, h5⟩, h6, fun b hb => hs.lt (h7 b hb), h8, h9, hm, h10.2⟩

/-! ### Laid nodes -/
theorem layN_length (N : List NodeM) (fr : List Nat) (n : NodeM) : (layN N fr n).length = (layS ⟨N.length, fr⟩).n := by
  unfold layN layS
  split <;> rename_i h <;> simp only at h ⊢
  · simp [h]
  · simp [h]
theorem layN_at {N : List NodeM} {fr : List Nat} (n : NodeM) (hfr : ∀ i ∈ fr, i < N.length) : (layN N fr n)[layA ⟨N.length, fr⟩]? = some n := by
  unfold layN layA
  split <;> rename_i h <;> simp only at h ⊢
  · obtain ⟨ys, e⟩ := List.getLast?_eq_some_iff.1 h
    rename_i i
    have := hfr i (by rw [e]; simp)
    simp [h, this]
  · simp [h]
theorem layN_other {N : List NodeM} {fr : List Nat} (n : NodeM) {i : Nat} (hi : i < N.length) (hf : i ∉ fr) : (layN N fr n)[i]? = N[i]? := by
  unfold layN
  split <;> rename_i h
  · obtain ⟨ys, e⟩ := List.getLast?_eq_some_iff.1 h
    rename_i j
    have hne : j ≠ i := fun hj => hf (by rw [e, hj]; simp)
    rw [List.getElem?_set_ne hne]
  · rw [List.getElem?_append_left hi]
theorem lay_pos {N : List NodeM} {fr : List Nat} (h0 : 0 < N.length) (hfr : ∀ i ∈ fr, 0 < i) : 0 < layA ⟨N.length, fr⟩ := by
  unfold layA
  split <;> rename_i h <;> simp only at h
  · obtain ⟨ys, e⟩ := List.getLast?_eq_some_iff.1 h
    rename_i i
    exact hfr i (by rw [e]; simp)
  · exact h0
theorem lay_fresh {N : List NodeM} {fr : List Nat} {ids : List Nat} (hn : (ids ++ fr).Nodup) (hb : ∀ i ∈ ids, i < N.length) : layA ⟨N.length, fr⟩ ∉ ids := by
  unfold layA
  split <;> rename_i h <;> simp only at h
  · obtain ⟨ys, e⟩ := List.getLast?_eq_some_iff.1 h
    rename_i i
    intro hi
    rw [List.nodup_append] at hn
    exact hn.2.2 i hi i (by rw [e]; simp) rfl
  · intro hi; exact Nat.lt_irrefl _ (hb _ hi)
theorem lay_free_sub {N : List NodeM} {fr : List Nat} : ∀ i ∈ (layS ⟨N.length, fr⟩).free, i ∈ fr := by
  unfold layS
  split
  · intro i hi; exact List.dropLast_subset _ hi
  · intro i hi; exact hi
theorem lay_free_nodup {N : List NodeM} {fr : List Nat} (hn : fr.Nodup) (hb : ∀ i ∈ fr, i < N.length) : layA ⟨N.length, fr⟩ ∉ (layS ⟨N.length, fr⟩).free := by
  unfold layA layS
  cases h : fr.getLast? with
  | some i =>
    obtain ⟨ys, e⟩ := List.getLast?_eq_some_iff.1 h
    subst e
    simp only [List.dropLast_concat]
    intro hi
    rw [List.nodup_append] at hn
    exact hn.2.2 i hi i (by simp) rfl
  | none =>
    have e : fr = [] := by simpa using h
    subst e; simp
end Go.Proofs.Ytgjabgneapdbiaa

/- The document's answer to chapter 9 in memory, and place. -/
import Derived.Test.YtgjabgneapdbiaaTrieKnown
namespace Go.Proofs.Ytgjabgneapdbiaa
open Go.RowKit Go.BigFrame
set_option linter.unusedSimpArgs false
set_option linter.unusedVariables false
attribute [local irreducible] wpMix wpAnyG

def pcE (x : EntM) : List Value := x.p.cells
def vcE (x : EntM) : List Value := [.int .i64 x.v]
theorem pcE_length (x : EntM) : (pcE x).length = 2 := rfl
theorem vcE_length (x : EntM) : (vcE x).length = 1 := rfl
theorem pcE_mem (x : EntM) : ∀ u ∈ pcE x, u.oneCell' = true := PrefixM.mem x.p
theorem vcE_mem (x : EntM) : ∀ u ∈ vcE x, u.oneCell' = true := by
  intro u hu
  simp only [vcE, List.mem_singleton] at hu
  subst hu; rfl
abbrev OwnP (w : World) (s : SlV) (l : List EntM) : Prop := OwnL w 28 2 pcE s l
abbrev OwnV (w : World) (s : SlV) (l : List EntM) : Prop := OwnL w 3 1 vcE s l
/-- The document's rows: prefixes and numbers, in a block that may hold more. -/
structure DocT (w : World) (F : Nat → Prop) (g : Nat) (ty : TypeId) (rest : List Value) (l : List EntM) : Prop where
  rep : ∃ sp sv : SlV, Blk w g (.slice sp.a sp.len sp.cap :: .slice sv.a sv.len sv.cap :: rest).toArray ty ∧ OwnP w sp l ∧ OwnV w sv l ∧ (∀ b, ownB sp b → F b) ∧ ∀ b, ownB sv b → F b
  tys : ty ≠ 28 ∧ ty ≠ 3
  here : F g
  lt : ∀ b, F b → b < w.heap.size
  len : l.length ≤ 1000
theorem DocT.fr {w w' : World} {F S : Nat → Prop} {g : Nat} {ty : TypeId} {rest : List Value} {l : List EntM} (h : DocT w F g ty rest l) (f : Fr S w w') (hs : ∀ b, F b → ¬ S b) : DocT w' F g ty rest l := by
  obtain ⟨⟨sp, sv, h1, h2, h3, h4, h5⟩, h6, h7, h8, h9⟩ := h
  exact ⟨⟨sp, sv, h1.fr f (hs g h7), h2.fr f (fun b hb => hs b (h4 b hb)), h3.fr f (fun b hb => hs b (h5 b hb)), h4, h5⟩, h6, h7, fun b hb => f.lt (h8 b hb), h9⟩
theorem DocT.frN {w w' : World} {F : Nat → Prop} {g : Nat} {ty : TypeId} {rest : List Value} {l : List EntM} (h : DocT w F g ty rest l) (f : Fr noB w w') : DocT w' F g ty rest l := h.fr f (fun _ _ h => h)
theorem DocT.same {w w' : World} {F : Nat → Prop} {g : Nat} {ty : TypeId} {rest : List Value} {l : List EntM} (h : DocT w F g ty rest l) (hw : Fr noB w w') : DocT w' (gr F w w') g ty rest l ∧ Fr F w w' := by
  refine ⟨?_, hw.mono (fun _ _ h => h.elim)⟩
  obtain ⟨⟨sp, sv, h1, h2, h3, h4, h5⟩, h6, h7, h8, h9⟩ := h.frN hw
  exact ⟨⟨sp, sv, h1, h2, h3, fun b hb => .inl (h4 b hb), fun b hb => .inl (h5 b hb)⟩, h6, .inl h7, fun b hb => by rcases hb with hb | hb; exact h8 b hb; exact hb.2, h9⟩
/-- A change of the rows alone. -/
def DocTo (w : World) (F : Nat → Prop) (g : Nat) (ty : TypeId) (rest : List Value) (l' : List EntM) (v : Value) (e : Ending) (w' : World) : Prop := e = .returned v ∧ DocT w' (gr F w w') g ty rest l' ∧ Fr F w w'
theorem doc_blk {w w' : World} {F : Nat → Prop} {g : Nat} {ty : TypeId} {rest : List Value} {l l' : List EntM} {sp sv : SlV} (h : DocT w F g ty rest l) (hb : Blk w' g (.slice sp.a sp.len sp.cap :: .slice sv.a sv.len sv.cap :: rest).toArray ty) (hp : OwnP w' sp l') (hv : OwnV w' sv l') (hF : Fr F w w')
    (h1 : ∀ b, ownB sp b → F b ∨ w.heap.size ≤ b) (h2 : ∀ b, ownB sv b → F b ∨ w.heap.size ≤ b) (hl : l'.length ≤ 1000) : DocT w' (gr F w w') g ty rest l' := by
  refine ⟨⟨sp, sv, hb, hp, hv, fun b hb => ?_, fun b hb => ?_⟩, h.tys, .inl h.here, fun b hb => ?_, hl⟩
  · rcases h1 b hb with h | h
    · exact .inl h
    · exact .inr ⟨h, hp.lt b hb⟩
  · rcases h2 b hb with h | h
    · exact .inl h
    · exact .inr ⟨h, hv.lt b hb⟩
  · rcases hb with h1 | h1
    · exact hF.lt (h.lt b h1)
    · exact h1.2
theorem beforeB_bef (p q : PrefixM) : beforeB p q = decide (befP p q) := by
  unfold beforeB befP
  by_cases e : p.addr = q.addr
  · rw [if_pos e]
    refine decide_eq_decide.2 ?_
    omega
  · rw [if_neg e]
    refine decide_eq_decide.2 ?_
    omega
section
variable {α : Type} {w : World} {e : TypeId} {N : Nat} {cells : α → List Value}
theorem own_takeG (hN : ∀ x, (cells x).length = N) {s : SlV} {l : List α} (h : OwnL w e N cells s l) (i c : Nat) (hi : i ≤ l.length) : SlOf w N cells (fun _ => True) ⟨s.a, i, c⟩ (l.take i) := by
  have hle := h.le
  obtain ⟨h1, h2⟩ := h
  refine ⟨by simp [List.length_take]; omega, by simp only; omega, ?_⟩
  rcases h2 with rfl | ⟨g, junk, ha, hb, _⟩
  · left
    have : l = [] := List.eq_nil_of_length_eq_zero h1.symm
    subst this; simp
  · right
    refine ⟨g, 0, ha, hb.lt, fun k x hx => ⟨?_, trivial⟩⟩
    rw [List.getElem?_take] at hx
    split at hx
    · have := slof_blk (ok := fun _ => True) hN hb (fun _ _ => trivial) 0 hle
      obtain ⟨_, _, h3⟩ := this
      rcases h3 with h3 | ⟨b, o, hbo, _, h4⟩
      · subst h3; simp at hx
      · simp only [Option.some.injEq, Addr.mk.injEq, and_true] at hbo
        obtain ⟨rfl, rfl⟩ := hbo
        exact (h4 k x hx).1
    · simp at hx
theorem own_dropG (hN : ∀ x, (cells x).length = N) {g sl sc c : Nat} {l : List α} (h : OwnL w e N cells ⟨some ⟨g, 0, none⟩, sl, sc⟩ l) (j n : Nat) (hj : j ≤ l.length) (hn : n = l.length - j) : SlOf w N cells (fun _ => True) ⟨some ⟨g, j * N, none⟩, n, c⟩ (l.drop j) := by
  have hle := h.le
  obtain ⟨h1, h2⟩ := h
  refine ⟨by simp [List.length_drop]; omega, by simp only; omega, ?_⟩
  rcases h2 with h2 | ⟨g', junk, ha, hb, _⟩
  · simp at h2
  · simp only [Option.some.injEq, Addr.mk.injEq, and_true] at ha
    subst ha
    right
    refine ⟨g, j * N, rfl, hb.lt, fun k x hx => ⟨?_, trivial⟩⟩
    rw [List.getElem?_drop] at hx
    have := slof_blk (ok := fun _ => True) hN hb (fun _ _ => trivial) 0 hle
    obtain ⟨_, _, h3⟩ := this
    rcases h3 with h3 | ⟨b, o, hbo, _, h4⟩
    · subst h3; simp at hx
    · simp only [Option.some.injEq, Addr.mk.injEq, and_true] at hbo
      obtain ⟨rfl, rfl⟩ := hbo
      have := (h4 (j + k) x hx).1
      rwa [Nat.zero_add, Nat.add_mul] at this
theorem own_endG {l : List α} (a : Option Addr) (j n c : Nat) (hj : l.length ≤ j) (hn : n = 0) : SlOf w N cells (fun _ => True) ⟨a, n, c⟩ (l.drop j) := by
  rw [List.drop_of_length_le hj]
  subst hn
  exact ⟨rfl, Nat.zero_le _, .inl rfl⟩
theorem own_shapeG {sa : Option Addr} {sl sc : Nat} {l : List α} (h : OwnL w e N cells ⟨sa, sl, sc⟩ l) : (sa = none ∧ sl = 0 ∧ sc = 0) ∨ ∃ g, sa = some ⟨g, 0, none⟩ := by
  rcases h.2 with h | ⟨g, _, h, _⟩
  · simp only [SlV.mk.injEq] at h; exact .inl h
  · exact .inr ⟨g, h⟩
theorem own_capG {s : SlV} {l : List α} (h : OwnL w e N cells s l) : s.len ≤ s.cap := by
  rcases h.2 with h | ⟨_, _, _, _, _, h, _⟩
  · subst h; simp
  · exact h
end

def searchE (l : List EntM) (p : PrefixM) : Value := .tuple #[.int .i64 (posE l p : Nat), .bool (hasE l p)]
def PlaceE (l : List EntM) (p : PrefixM) (w0 : World) (i : Value) (wr : World) : Prop := ∃ k : Nat, k ≤ l.length ∧ i = .int .i64 k ∧ (∀ j x, j < k → l[j]? = some x → befP x.p p) ∧ Fr noB w0 wr
theorem hasE_of {l : List EntM} {p : PrefixM} {x : EntM} (hx : l[posE l p]? = some x) : hasE l p = decide (x.p = p) := by unfold hasE; rw [hx]
theorem hasE_end {l : List EntM} {p : PrefixM} (hx : l[posE l p]? = none) : hasE l p = false := by unfold hasE; rw [hx]

set_option maxRecDepth 100000 in
set_option maxHeartbeats 2000000 in
theorem doc_place (w : World) (F : Nat → Prop) (g : Nat) (ty : TypeId) (rest : List Value) (l : List EntM) (h : DocT w F g ty rest l) (p : PrefixM) :
    Calls Try.prog 60 #[.pointer (some ⟨g, 0, none⟩), .agg p.cells.toArray] w fun e w' => e = .returned (searchE l p) ∧ Fr noB w w' := by
  have H := hide h
  have hlen := h.len
  clear h
  go_enter Try.func60, Try.ntmps60
  go_upto_region 1 with (fail)
  refine wp_gen (fun W => CellsAt W w.heap.size 0 p.cells ∧ Fr noB w W) ⟨by (repeat (first | assumption | exact cells_new _ _ _ (by simp) | refine CellsAt.alloc ?_ _ | refine CellsAt.drew ?_ | refine CellsAt.drewN ?_ _)), (Fr.refl _ _).alloc _⟩ ?_
  rintro w1 ⟨hcr, hf⟩
  have Hcr := hide hcr; have Hf := hide hf
  clear hcr hf
  go_wp2_with fail
  go_loopw [6] (PlaceE l p w1) (fun i _ => l.length - (intOf i).toNat)
  case atStart => exact ⟨0, Nat.zero_le _, rfl, fun j x hj => by omega, Fr.refl _ _⟩
  case round =>
    obtain ⟨k, hk, rfl, hno, hf1⟩ := hrel
    have Hno := hide hno; have Hf1 := hide hf1
    clear hno hf1
    obtain ⟨⟨⟨sa, sl, sc⟩, sv, hblk, hown, _⟩, _⟩ := H.out.frN (Hf.out.tr Hf1.out)
    have hsl : sl = l.length := hown.1
    have hg0 : ∀ z : Grow wr, z.v.cell? ⟨g, 0, none⟩ = some (.slice sa sl sc) := fun z => by rw [(hblk.fr z.fr (fun h => h)).cell 0]; rfl
    have hmax : sl ≤ 1000 := by rw [hsl]; exact hlen
    have hcr1 : CellsAt wr w.heap.size 0 p.cells := Hcr.out.fr Hf1.out (fun h => h)
    have Hsl := hide hsl; have Hown := hide hown; have Hblk := hide hblk; have Hcr1 := hide hcr1
    clear hsl hblk hown hlen
    by_cases hlt : k < sl
    · have hk2 : k < l.length := by have := Hsl.out; omega
      have hx : l[k]? = some l[k] := List.getElem?_eq_getElem hk2
      generalize l[k] = x at hx
      obtain ⟨gs, rfl, _, hcx, _⟩ := own_at Hown.out pcE_length hx
      have Hx := hide hx; have Hcx := hide (show CellsAt wr gs (k * 2) x.p.cells from hcx)
      have hmul : ((k : Int) * 2).toNat = k * 2 := by omega
      clear hx hk hcx
      go_upto_region 2 with (fail)
      refine wp_region_mix (fun W => ∃ z : Grow wr, W = z.v) (by kernel_rfl) (by kernel_rfl) (inGrow (Fr.refl _ _).drew) ?_
      iterate 14 (first | (refine wpMix_skip rfl ?_; simp only [Act.put, List.setIfInBounds_toArray, List.set_cons_succ, List.set_cons_zero]) | (refine wpMix_calm rfl rfl (fun K hK => ?_); go_big_quiet_op; refine hK _ ?_; clear hK K))
      refine wpMix_load_atw rfl 28 (.tmp 20) rfl gs (k * 2) (by go_simp) x.p.cells (fun W hW => by obtain ⟨z, rfl⟩ := hW; exact Hcx.out.fr z.fr (fun h => h)) _ Try.underlying28 rfl (by kernel_rfl) ?_
      simp only [Act.put, List.setIfInBounds_toArray, List.set_cons_succ, List.set_cons_zero]
      refine wpMix_load_atw rfl 28 (.tmp 3) rfl w.heap.size 0 rfl p.cells (fun W hW => by obtain ⟨z, rfl⟩ := hW; exact hcr1.fr z.fr (fun h => h)) _ Try.underlying28 rfl (by kernel_rfl) ?_
      simp only [Act.put, List.setIfInBounds_toArray, List.set_cons_succ, List.set_cons_zero]
      refine wpMix_spine rfl rfl (fun K hK => ?_); go_wp2_with fail
      refine (ref3_Before x.p p _).mono ?_
      rintro e w3 ⟨rfl, hf3⟩
      rw [beforeB_bef]
      have Hf3 := hide ((Fr.refl noB wr).drew.tr hf3)
      refine hK _ _ rfl (inGrow Hf3.out) ?_
      clear hK K hf3 hg0
      by_cases hb : befP x.p p
      · rw [decide_eq_true hb]
        repeat (first | (refine wpMix_skip rfl ?_; simp only [Act.put, List.setIfInBounds_toArray, List.set_cons_succ, List.set_cons_zero]) | (refine wpMix_calm rfl rfl (fun K hK => ?_); go_big_quiet_op; refine hK _ ?_; clear hK K))
        refine wpMix_nil ?_
        have Hb := hide hb
        clear hb hcr1
        go_wp2_with fail
        go_roundw
        case rel =>
          refine ⟨k + 1, by have := Hsl.out; omega, by go_num, fun j y hj hy => ?_, Hf1.out.tr Hf3.out⟩
          by_cases e : j = k
          · subst e
            rw [Hx.out] at hy
            obtain rfl := Option.some.inj hy
            exact Hb.out
          · exact Hno.out j y (by omega) hy
        case measure => have := Hsl.out; simp [intOf]; omega
      · rw [decide_eq_false hb]
        repeat (first | (refine wpMix_skip rfl ?_; simp only [Act.put, List.setIfInBounds_toArray, List.set_cons_succ, List.set_cons_zero]) | (refine wpMix_calm rfl rfl (fun K hK => ?_); go_big_quiet_op; refine hK _ ?_; clear hK K))
        refine wpMix_nil ?_
        have hpos : posE l p = k := posE_eq (by have := Hsl.out; omega) Hno.out (fun y hy => by rw [Hx.out] at hy; obtain rfl := Option.some.inj hy; exact hb)
        have hhas : hasE l p = decide (x.p = p) := hasE_of (by rw [hpos]; exact Hx.out)
        have Hpos := hide hpos; have Hhas := hide hhas
        have hg3 : ∀ z : Grow w3, z.v.cell? ⟨g, 0, none⟩ = some (.slice (some ⟨gs, 0, none⟩) sl sc) := fun z => by rw [((Hblk.out.fr Hf3.out (fun h => h)).fr z.fr (fun h => h)).cell 0]; rfl
        have hcx3 : CellsAt w3 gs (k * 2) x.p.cells := Hcx.out.fr Hf3.out (fun h => h)
        have hcr3 : CellsAt w3 w.heap.size 0 p.cells := Hcr1.out.fr Hf3.out (fun h => h)
        clear hb hpos hhas hcr1
        go_upto_region 4 with (fail)
        refine wp_region_mix (fun W => ∃ z : Grow w3, W = z.v) (by kernel_rfl) (by kernel_rfl) (inGrow (Fr.refl _ _).drew) ?_
        iterate 15 (first | (refine wpMix_skip rfl ?_; simp only [Act.put, List.setIfInBounds_toArray, List.set_cons_succ, List.set_cons_zero]) | (refine wpMix_calm rfl rfl (fun K hK => ?_); go_big_quiet_op; refine hK _ ?_; clear hK K))
        refine wpMix_load_atw rfl 28 (.tmp 41) rfl gs (k * 2) (by go_simp) x.p.cells (fun W hW => by obtain ⟨z, rfl⟩ := hW; exact hcx3.fr z.fr (fun h => h)) _ Try.underlying28 rfl (by kernel_rfl) ?_
        simp only [Act.put, List.setIfInBounds_toArray, List.set_cons_succ, List.set_cons_zero]
        refine wpMix_load_atw rfl 28 (.tmp 3) rfl w.heap.size 0 rfl p.cells (fun W hW => by obtain ⟨z, rfl⟩ := hW; exact hcr3.fr z.fr (fun h => h)) _ Try.underlying28 rfl (by kernel_rfl) ?_
        simp only [Act.put, List.setIfInBounds_toArray, List.set_cons_succ, List.set_cons_zero]
        refine wpMix_eqs rfl false 28 (.tmp 42) (.tmp 43) rfl x.p.cells.toArray p.cells.toArray rfl rfl (decide (x.p = p)) (by kernel_rfl) (fun w => by rw [prefix_equal]) ?_
        simp only [Act.put, List.setIfInBounds_toArray, List.set_cons_succ, List.set_cons_zero]
        rw [Bool.false_xor]
        generalize hq : decide (x.p = p) = q
        have Hq := hide hq
        clear hq hg3 hcx3 hcr3
        cases q
        all_goals
          repeat (first | (refine wpMix_skip rfl ?_; simp only [Act.put, List.setIfInBounds_toArray, List.set_cons_succ, List.set_cons_zero]) | (refine wpMix_calm rfl rfl (fun K hK => ?_); go_big_quiet_op; refine hK _ ?_; clear hK K))
          refine wpMix_nil ?_
          go_wp2_with fail
          go_ret2
          refine ⟨?_, (Hf.out.tr Hf1.out).tr (Hf3.out.tr (Fr.refl _ _).drew)⟩
          unfold searchE
          rw [Hpos.out, Hhas.out, Hq.out]
          rfl
    · have hpos : posE l p = k := posE_eq hk Hno.out (fun y hy => by have := (List.getElem?_eq_some_iff.1 hy).1; have := Hsl.out; omega)
      have hhas : hasE l p = false := hasE_end (by rw [hpos]; exact List.getElem?_eq_none (by have := Hsl.out; omega))
      have Hpos := hide hpos; have Hhas := hide hhas
      clear hpos hhas hk
      go_upto_region 2 with (fail)
      refine wp_region_mix (fun W => ∃ z : Grow wr, W = z.v) (by kernel_rfl) (by kernel_rfl) (inGrow (Fr.refl _ _).drew) ?_
      repeat (first | (refine wpMix_skip rfl ?_; simp only [Act.put, List.setIfInBounds_toArray, List.set_cons_succ, List.set_cons_zero]) | (refine wpMix_calm rfl rfl (fun K hK => ?_); go_big_quiet_op; refine hK _ ?_; clear hK K))
      refine wpMix_nil ?_
      have hg3 : ∀ z : Grow wr.drew, z.v.cell? ⟨g, 0, none⟩ = some (.slice sa sl sc) := fun z => by rw [(Blk.fr (Blk.drew Hblk.out) z.fr (fun h => h)).cell 0]; rfl
      clear hg0
      go_upto_region 4 with (fail)
      refine wp_region_mix (fun W => ∃ z : Grow wr.drew, W = z.v) (by kernel_rfl) (by kernel_rfl) (inGrow (Fr.refl _ _).drew) ?_
      repeat (first | (refine wpMix_skip rfl ?_; simp only [Act.put, List.setIfInBounds_toArray, List.set_cons_succ, List.set_cons_zero]) | (refine wpMix_calm rfl rfl (fun K hK => ?_); go_big_quiet_op; refine hK _ ?_; clear hK K))
      refine wpMix_nil ?_
      go_wp2_with fail
      go_ret2
      refine ⟨?_, ((Hf.out.tr Hf1.out).drew).drew⟩
      unfold searchE
      rw [Hpos.out, Hhas.out]
      rfl
end Go.Proofs.Ytgjabgneapdbiaa

/- dir.paints: a place, or all of its block's, is painted. dir.paint: all places of a prefix are painted. -/
import Derived.Test.YtgjabgneapdbiaaDirMemA
namespace Go.Proofs.Ytgjabgneapdbiaa
open Go.RowKit Go.BigFrame
set_option linter.unusedSimpArgs false
set_option linter.unusedVariables false
attribute [local irreducible] wpMix wpAnyG

/-- The two tests that paint is given: at most so deep (true), just so deep (false). -/
def fv (k : Bool) (c : Nat) : Value := .func (.func (if k then 68 else 70)) #[] #[.pointer (some ⟨c, 0, none⟩)]
def fitOf (k : Bool) (d : Nat) : Nat → Bool := fun x => if k then decide (x ≤ d) else decide (x = d)
def FitAt (w : World) (k : Bool) (c d : Nat) : Prop := if k then w.cell? ⟨c, 1, none⟩ = some (.int .i16 (d : Nat)) else w.cell? ⟨c, 0, none⟩ = some (.int .i16 (d : Nat))
theorem FitAt.fr {w w' : World} {S : Nat → Prop} {k : Bool} {c d : Nat} (h : FitAt w k c d) (f : Fr S w w') (hs : ¬ S c) : FitAt w' k c d := by
  unfold FitAt at *
  split
  · rename_i e; rw [if_pos e] at h; exact (f.cell (block_of_cell h) hs).trans h
  · rename_i e; rw [if_neg e] at h; exact (f.cell (block_of_cell h) hs).trans h
theorem dir_fit (k : Bool) (c d : Nat) (x : Nat) (w : World) (h : FitAt w k c d) :
    Calls Try.prog (if k then 68 else 70) #[.int .i16 (x : Nat), .pointer (some ⟨c, 0, none⟩)] w fun e w' => e = .returned (.bool (fitOf k d x)) ∧ w' = w := by
  cases k with
  | true =>
    have h1 : w.cell? ⟨c, 1, none⟩ = some (.int .i16 (d : Nat)) := h
    simp only [if_true]
    have HR := hide (show fitOf true d x = decide (x ≤ d) from rfl)
    clear h
    go_enter Try.func68, Try.ntmps68
    go_wp2_with fail
    go_ret
    exact ⟨ret_bool HR.out.symm, rfl⟩
  | false =>
    have h1 : w.cell? ⟨c, 0, none⟩ = some (.int .i16 (d : Nat)) := h
    simp only [Bool.false_eq_true, if_false]
    have HR := hide (show fitOf false d x = ((x : Int) == (d : Int)) from by unfold fitOf; simp only [Bool.false_eq_true, if_false]; rw [Bool.eq_iff_iff]; simp; omega)
    clear h
    go_enter Try.func70, Try.ntmps70
    go_wp2_with fail
    go_ret
    exact ⟨ret_bool HR.out.symm, rfl⟩

theorem wpList_store_core {ops : Array Oper} {rest : List Oper} {o : Oper} {a : Act} {w : World} {Q : Exit → Act → World → Prop} (hgd : o.guard = none) (x y : Operand) (ho : o.op = .store 111 x y) (b off : Nat) (pl : PlM)
    (hx : a.eval x = .pointer (some ⟨b, off, none⟩)) (hy : a.eval y = .agg pl.cells.toArray) {C : Nat → Prop} {g gt gm nb : Nat} {most : Int} {st sb sf : SlV} {X : TS} (h : CoreAt w C g gt most st sb sf gm X nb) {L : Loc} (hL : X.S.has L) (ha : adr st sb L = some ⟨b, off, none⟩)
    (hk : ∀ w', CoreAt w' C g gt most st sb sf gm (X.putS L pl) nb → Fr C w w' → w'.heap.size = w.heap.size → wpList Try.prog ops Q rest (a.put o.dst undef) w') : wpList Try.prog ops Q (o :: rest) a w :=
  wpList_plain hgd fun _ hK => by
    obtain ⟨b', off', w', ha', hr, hc, hf, hC, hsz⟩ := h.put hL pl
    rw [ha] at ha'
    simp only [Option.some.injEq, Addr.mk.injEq, and_true] at ha'
    obtain ⟨rfl, rfl⟩ := ha'
    unfold Oper.wp execOp
    simp only [ho, hx, hy, Instr.storeAt, Instr.sureAddr, Sem.run_bind, Sem.run_pure, Result.andThen_ok, hr]
    exact hK _ _ (hk w' hc (hf.mono (fun b _ e => by unfold oneB at e; rw [e]; exact hC)) hsz)

def TS.pntS (X : TS) (R : Loc → Bool) (tp : PlM) (fit : Nat → Bool) : TS := { X with S := pnt R tp fit X.S }
theorem pntS_two (X : TS) (R R' : Loc → Bool) {tp : PlM} (ht : tp.block = 0) (fit : Nat → Bool) : (X.pntS R tp fit).pntS R' tp fit = X.pntS (fun L => R L || R' L) tp fit := by
  unfold TS.pntS
  simp only
  rw [pnt_pnt ht]
theorem pntS_none (X : TS) (tp : PlM) (fit : Nat → Bool) : X.pntS (fun _ => false) tp fit = X := by unfold TS.pntS; rw [pnt_none]
theorem any_succ (k : Nat) (f : Nat → Bool) : (List.range (k + 1)).any f = ((List.range k).any f || f k) := by
  rw [List.range_succ, List.any_append]; simp
def PaintAt (w0 : World) (C : Nat → Prop) (g gt : Nat) (most : Int) (st sb sf : SlV) (gm : Nat) (X : TS) (nb : Nat) (n : Nat) (R : Nat → Loc → Bool) (tp : PlM) (fit : Nat → Bool) (iv : Value) (wr : World) : Prop :=
  ∃ k : Nat, k ≤ n ∧ iv = .int .i64 k ∧ CoreAt wr C g gt most st sb sf gm (X.pntS (fun K => (List.range k).any (fun i => R i K)) tp fit) nb ∧ Fr C w0 wr

set_option maxRecDepth 100000 in
set_option maxHeartbeats 8000000 in
theorem dir_paints (k : Bool) (c dd : Nat) (tp : PlM) (ht : tp.block = 0) : ∀ (d : Nat) (w : World) (C : Nat → Prop) (g gt : Nat) (most : Int) (st sb sf : SlV) (gm : Nat) (X : TS) (nb : Nat) (L : Loc) (b off : Nat), CoreAt w C g gt most st sb sf gm X nb → Deep X.S d L → FitAt w k c dd → ¬ C c → adr st sb L = some ⟨b, off, none⟩ →
    Calls Try.prog 84 #[.pointer (some ⟨g, 0, none⟩), .pointer (some ⟨b, off, none⟩), .agg tp.cells.toArray, fv k c] w fun e w' => e = .returned (.tuple #[]) ∧ CoreAt w' C g gt most st sb sf gm (X.pntS (under X.S d L) tp (fitOf k dd)) nb ∧ Fr C w w' := by
  -- a place that is no block
  have leaf : ∀ (d : Nat) (w : World) (C : Nat → Prop) (g gt : Nat) (most : Int) (st sb sf : SlV) (gm : Nat) (X : TS) (nb : Nat) (L : Loc) (b off : Nat), CoreAt w C g gt most st sb sf gm X nb → X.S.has L → (X.S.get L).block = 0 → FitAt w k c dd → ¬ C c → adr st sb L = some ⟨b, off, none⟩ →
      Calls Try.prog 84 #[.pointer (some ⟨g, 0, none⟩), .pointer (some ⟨b, off, none⟩), .agg tp.cells.toArray, fv k c] w fun e w' => e = .returned (.tuple #[]) ∧ CoreAt w' C g gt most st sb sf gm (X.pntS (under X.S d L) tp (fitOf k dd)) nb ∧ Fr C w w' := by
    intro d w C g gt most st sb sf gm X nb L b off h hL h0 hfit hcC ha
    obtain ⟨b', off', ha', hcl, hCb, hbg, _⟩ := h.get hL
    rw [ha] at ha'
    simp only [Option.some.injEq, Addr.mk.injEq, and_true] at ha'
    obtain ⟨rfl, rfl⟩ := ha'
    have H := hide h; have HL := hide hL; have Hfit := hide hfit; have HcC := hide hcC; have Ha := hide ha; have HCb := hide hCb
    have HE := hide (pnt_leaf (d := d) (tp := tp) (fit := fitOf k dd) hL h0)
    have Hcl := hide hcl
    obtain ⟨x, hx⟩ : ∃ x, x = X.S.get L := ⟨_, rfl⟩
    rw [← hx] at Hcl h0 HE
    clear h hL hfit hcC ha hcl hCb hx
    cases k
    case' true => rw [show fv true c = .func (.func 68) #[] #[.pointer (some ⟨c, 0, none⟩)] from rfl]
    case' false => rw [show fv false c = .func (.func 70) #[] #[.pointer (some ⟨c, 0, none⟩)] from rfl]
    all_goals
      go_enter Try.func84, Try.ntmps84
      go_upto_region 1 with (fail)
      refine wp_gen (fun W => CellsAt W w.heap.size 0 tp.cells ∧ Fr noB w W) ⟨cells_new _ _ _ rfl, (Fr.refl _ _).alloc _⟩ ?_
      rintro w1 ⟨hc1, hf1⟩
      have Hc1 := hide hc1; have Hf1 := hide hf1
      have Hcl1 := hide (Hcl.out.fr hf1 (fun h => h))
      have x2 : w1.cell? ⟨b, off + 2, none⟩ = some (.int .i32 0) := by have := Hcl1.out 2 _ rfl; rw [h0] at this; exact this
      have x1 : w1.cell? ⟨b, off + 1, none⟩ = some (.int .i16 (x.deep : Nat)) := Hcl1.out 1 _ rfl
      clear hc1 hf1
      go_wp2_with fail
      first
        | refine (dir_fit true c dd x.deep w1 (Hfit.out.fr Hf1.out (fun h => h))).mono ?_
        | refine (dir_fit false c dd x.deep w1 (Hfit.out.fr Hf1.out (fun h => h))).mono ?_
      rintro e w2 ⟨rfl, rfl⟩
      clear x1 x2
      cases hfx : fitOf _ dd x.deep with
      | true =>
        have HE2 := hide (show pnt (under X.S d L) tp (fitOf _ dd) X.S = X.S.put L tp from by rw [HE.out, if_pos hfx])
        clear hfx
        go_wp2_with (first | (refine wpList_load_at rfl 111 (.tmp 6) rfl w.heap.size 0 rfl tp.cells Hc1.out _ Try.underlying111 rfl (by kernel_rfl) ?_) | (refine wpList_store_core rfl (.tmp 45) (.tmp 44) rfl b off tp rfl rfl (H.out.frN Hf1.out) HL.out Ha.out ?_; intro w3 hc3 hf3 hs3; have Hc3 := hide hc3; have Hf3 := hide hf3; clear hc3 hf3 hs3))
        go_end0
        refine ⟨rfl, ?_, Fr.trans Hf1.out Hf3.out (fun _ _ h => h.elim) (fun _ _ h => h)⟩
        unfold TS.pntS
        rw [HE2.out]
        exact Hc3.out
      | false =>
        have HE2 := hide (show pnt (under X.S d L) tp (fitOf _ dd) X.S = X.S from by rw [HE.out, if_neg (by rw [hfx]; simp)])
        clear hfx
        go_wp2_with fail
        go_end0
        refine ⟨rfl, ?_, Hf1.out.mono (fun _ _ h => h.elim)⟩
        unfold TS.pntS
        rw [HE2.out]
        exact H.out.frN Hf1.out
  intro d
  induction d with
  | zero =>
    intro w C g gt most st sb sf gm X nb L b off h hd hfit hcC ha
    exact leaf 0 w C g gt most st sb sf gm X nb L b off h hd.1 hd.2 hfit hcC ha
  | succ d ih =>
    intro w C g gt most st sb sf gm X nb L b off h hd hfit hcC ha
    by_cases h0 : (X.S.get L).block = 0
    · exact leaf (d + 1) w C g gt most st sb sf gm X nb L b off h hd.has h0 hfit hcC ha
    · obtain ⟨n, hn⟩ : ∃ n, (X.S.get L).block = n + 1 := ⟨(X.S.get L).block - 1, by omega⟩
      have hsub : ∀ i, i < 256 → Deep X.S d (.b n i) := fun i hi => by have := hd.2 h0 i hi; rwa [hn, Nat.add_sub_cancel] at this
      have hnl : n < X.S.blk.length := (hsub 0 (by decide)).has.1
      obtain ⟨gB, hsb, _⟩ := h.blsAt hnl
      have hbl : sb.len = X.S.blk.length := h.bls.1
      have hnb := h.len
      obtain ⟨ba, bl, bc⟩ := sb
      simp only at hsb hbl
      subst hsb
      obtain ⟨b', off', ha', hcl, hCb, hbg, _⟩ := h.get hd.has
      rw [ha] at ha'
      simp only [Option.some.injEq, Addr.mk.injEq, and_true] at ha'
      obtain ⟨rfl, rfl⟩ := ha'
      have H := hide h; have Hsub := hide hsub; have Hfit := hide hfit; have HcC := hide hcC
      have Hblk := hide h.blk
      have Hlt := hide h.lt
      have Hcl := hide hcl
      have HE := hide (show X.pntS (fun K => (List.range 256).any (fun i => under X.S d (.b n i) K)) tp (fitOf k dd) = X.pntS (under X.S (d + 1) L) tp (fitOf k dd) from by
        unfold TS.pntS
        congr 1
        refine pnt_congr (fun K _ hK => ?_)
        have hne : K ≠ L := fun e => by rw [e] at hK; exact h0 hK
        simp only [under, hn, Nat.add_sub_cancel]
        simp [hne])
      have hn1 : n ≤ 1000000 := by omega
      have hnlt : n < bl := by omega
      have hx2 : CellsAt w b off (X.S.get L).cells := hcl
      have x2' : ∀ W, Fr noB w W → W.cell? ⟨b, off + 2, none⟩ = some (.int .i32 ((n + 1 : Nat) : Int)) := fun W hW => by have := (hcl.fr hW (fun h => h)) 2 _ rfl; rw [hn] at this; exact this
      have X2 := hide x2'
      clear h hd hfit hcC hcl hCb ha hsub hn h0 hx2 x2' hbl hnb
      go_enter Try.func84, Try.ntmps84
      go_upto_region 1 with (fail)
      refine wp_gen (fun W => CellsAt W w.heap.size 0 tp.cells ∧ Fr noB w W) ⟨cells_new _ _ _ rfl, (Fr.refl _ _).alloc _⟩ ?_
      rintro w1 ⟨hc1, hf1⟩
      have Hc1 := hide hc1; have Hf1 := hide hf1
      have x2 : w1.cell? ⟨b, off + 2, none⟩ = some (.int .i32 ((n + 1 : Nat) : Int)) := X2.out w1 hf1
      clear hc1 hf1
      go_upto_region 2 with (fail)
      clear x2
      have x2 : ∀ z : Grow w1, z.v.cell? ⟨b, off + 2, none⟩ = some (.int .i32 ((n + 1 : Nat) : Int)) := fun z => X2.out _ (Hf1.out.tr z.fr)
      have d5 : ∀ z : Grow w1, z.v.cell? ⟨g, 5, none⟩ = some (.slice (some ⟨gB, 0, none⟩) bl bc) := fun z => by rw [(Hblk.out.fr (Hf1.out.tr z.fr) (fun h => h)).cell 5]; rfl
      refine wp_region_mix (fun W => ∃ z : Grow w1, W = z.v) (by kernel_rfl) (by kernel_rfl) (inGrow (Fr.refl _ _).drew) ?_
      have hmul2 : ((n : Int) * 768).toNat = n * 768 := by omega
      repeat (first | (refine wpMix_skip rfl ?_; simp only [Act.put, List.setIfInBounds_toArray, List.set_cons_succ, List.set_cons_zero]) | (refine wpMix_calm rfl rfl (fun K hK => ?_); go_big_quiet_op; refine hK _ ?_; clear hK K))
      refine wpMix_nil ?_
      clear x2 d5
      go_wp2_with fail
      go_loopw [25] (PaintAt w1 C g gt most st ⟨some ⟨gB, 0, none⟩, bl, bc⟩ sf gm X nb 256 (fun i => under X.S d (.b n i)) tp (fitOf k dd)) (fun i _ => 256 - (intOf i).toNat)
      case atStart => exact ⟨0, by omega, rfl, by have := H.out.frN Hf1.out.drew; rw [show (fun K => (List.range 0).any fun i => under X.S d (.b n i) K) = fun _ => false from rfl, pntS_none]; exact this, (Fr.refl _ _).drew⟩
      case round =>
        obtain ⟨j, hj, rfl, hcore, hfr⟩ := hrel
        have Hcore := hide hcore; have Hfr := hide hfr
        have Hq := hide (Hc1.out.fr hfr (fun hC => by have := Hlt.out _ hC; omega))
        clear hcore hfr
        by_cases hlt : j < 256
        · have Hd2 := hide ((Hsub.out j hlt).pnt ht (fitOf k dd) (fun K => (List.range j).any (fun i => under X.S d (.b n i) K)))
          have Hft2 := hide ((Hfit.out.fr Hf1.out (fun h => h)).fr Hfr.out HcC.out)
          have hjj : (j : Int) < 256 := by omega
          have hmul3 : ((j : Int) * 3).toNat = j * 3 := by omega
          go_upto_region 6 with (fail)
          refine wp_region_mix (fun W => ∃ z : GrowS C wr, W = z.v) (by kernel_rfl) (by kernel_rfl) (inGrowS (Fr.refl _ _).drew) ?_
          iterate 5 (first | (refine wpMix_skip rfl ?_; simp only [Act.put, List.setIfInBounds_toArray, List.set_cons_succ, List.set_cons_zero]) | (refine wpMix_calm rfl rfl (fun K hK => ?_); go_big_quiet_op; refine hK _ ?_; clear hK K))
          refine wpMix_load_atw rfl 111 (.tmp 6) rfl w.heap.size 0 rfl tp.cells (fun W hW => by obtain ⟨z, rfl⟩ := hW; exact Hq.out.fr z.fr (fun hC => by have := Hlt.out _ hC; omega)) _ Try.underlying111 rfl (by kernel_rfl) ?_
          simp only [Act.put, List.setIfInBounds_toArray, List.set_cons_succ, List.set_cons_zero]
          iterate 1 (first | (refine wpMix_skip rfl ?_; simp only [Act.put, List.setIfInBounds_toArray, List.set_cons_succ, List.set_cons_zero]) | (refine wpMix_calm rfl rfl (fun K hK => ?_); go_big_quiet_op; refine hK _ ?_; clear hK K))
          refine wpMix_spine rfl rfl (fun K hK => ?_); go_wp2_with fail
          refine (ih wr.drew C g gt most st ⟨some ⟨gB, 0, none⟩, bl, bc⟩ sf gm (X.pntS (fun K => (List.range j).any (fun i => under X.S d (.b n i) K)) tp (fitOf k dd)) nb (.b n j) gB (n * 768 + j * 3) (Hcore.out.frN (Fr.refl noB wr).drew) Hd2.out (Hft2.out.fr (Fr.refl noB wr).drew (fun h => h)) HcC.out rfl).mono ?_
          rintro e w3 ⟨rfl, hc3, hf3⟩
          have hf3' : Fr C wr w3 := (Fr.refl C wr).drew.tr hf3
          refine hK _ _ rfl (inGrowS hf3') ?_
          clear hK K
          have Hc3 := hide (show CoreAt w3 C g gt most st ⟨some ⟨gB, 0, none⟩, bl, bc⟩ sf gm (X.pntS (fun K => (List.range (j + 1)).any (fun i => under X.S d (.b n i) K)) tp (fitOf k dd)) nb from by
            rw [pntS_two X _ _ ht] at hc3
            have e : (fun K => ((List.range j).any fun i => under X.S d (.b n i) K) || under (X.pntS (fun K => (List.range j).any (fun i => under X.S d (.b n i) K)) tp (fitOf k dd)).S d (.b n j) K) = fun K => (List.range (j + 1)).any (fun i => under X.S d (.b n i) K) := by
              funext K
              rw [any_succ]
              congr 1
              exact under_pnt ht (fitOf k dd) (fun K => (List.range j).any fun i => under X.S d (.b n i) K) X.S d (.b n j) K
            rw [e] at hc3
            exact hc3)
          have Hf3 := hide (Hfr.out.tr hf3')
          clear hc3 hf3 hf3'
          refine wpMix_nil ?_
          go_wp2_with fail
          go_roundw
          case rel => exact ⟨j + 1, by omega, by go_num, Hc3.out, Hf3.out⟩
          case measure => simp [intOf]; omega
        · obtain rfl : j = 256 := by omega
          go_wp2_with fail
          first | (refine bodyPost_ret (results_none rfl _ _ _) rfl ?_) | (simp only [Exit.inBlock, Exit.then]; refine bodyPost_ret (results_none rfl _ _ _) rfl ?_)
          exact ⟨rfl, by rw [← HE.out]; exact Hcore.out, Fr.trans Hf1.out Hfr.out (fun _ _ h => h.elim) (fun _ _ h => h)⟩
end Go.Proofs.Ytgjabgneapdbiaa

namespace Go.Proofs.Ytgjabgneapdbiaa
open Go.RowKit Go.BigFrame
set_option linter.unusedSimpArgs false
set_option linter.unusedVariables false
attribute [local irreducible] wpMix wpAnyG

theorem deep0 {S : DS} {lab : Nat → Lb} (w : Wf S lab) {a : Nat} (ha : a < 4294967296) (h0 : (S.t (a / 65536)).block ≠ 0) (h1 : (S.v1 (a / 256)).block ≠ 0) : Deep S 0 (.b ((S.v1 (a / 256)).block - 1) (a % 256)) :=
  ⟨⟨(w.w1 (a / 256) (by omega) (by rw [div256]; exact h0) h1).1, by omega⟩, w.w2 a ha h0 h1⟩
theorem deep1 {S : DS} {lab : Nat → Lb} (w : Wf S lab) {b : Nat} (hb : b < 16777216) (h0 : (S.t (b / 256)).block ≠ 0) : Deep S 1 (.b ((S.t (b / 256)).block - 1) (b % 256)) := by
  refine ⟨⟨(w.w0 (b / 256) (by omega) h0).1, by omega⟩, fun h1 i hi => ?_⟩
  have e : S.get (.b ((S.t (b / 256)).block - 1) (b % 256)) = S.v1 b := rfl
  rw [e] at h1 ⊢
  have e1 : (b * 256 + i) / 256 = b := by omega
  have e2 : (b * 256 + i) / 65536 = b / 256 := by omega
  have e3 : (b * 256 + i) % 256 = i := by omega
  have := deep0 w (a := b * 256 + i) (by omega) (by rw [e2]; exact h0) (by rw [e1]; exact h1)
  rwa [e1, e3] at this
theorem deep2 {S : DS} {lab : Nat → Lb} (w : Wf S lab) {h : Nat} (hh : h < 65536) : Deep S 2 (.t h) := by
  refine ⟨by show h < S.tab.length; rw [w.len]; exact hh, fun h0 i hi => ?_⟩
  have e1 : (h * 256 + i) / 256 = h := by omega
  have e3 : (h * 256 + i) % 256 = i := by omega
  have := deep1 w (b := h * 256 + i) (by omega) (by rw [e1]; exact h0)
  rwa [e1, e3] at this
/-- A prefix's interval of the first table. -/
theorem rng16 {p : PrefixM} (hp : okP p) (hl : p.len ≤ 16) : p.addr / 65536 + 2 ^ (16 - heldN p.len) ≤ 65536 := by
  have hc := hp.cast
  have h1 := (in_unit hp (j := 16) (by omega) (65536 * (p.addr / 65536 + (2 ^ (16 - heldN p.len) - 1)))).2 (by
    rw [show 32 - 16 - heldN p.len = 16 - heldN p.len by omega]
    refine ⟨2 ^ (16 - heldN p.len) - 1, by have := Nat.two_pow_pos (16 - heldN p.len); omega, ?_⟩
    rw [show (2 : Nat) ^ 16 = 65536 from rfl, Nat.mul_div_cancel_left _ (by decide)])
  have h2 := hp.top
  have h3 := h1.2
  have := Nat.two_pow_pos (16 - heldN p.len)
  omega

theorem shl_val (j : Nat) (hj : j ≤ 16) : wrap64 ((2 : Int) ^ j) = ((2 ^ j : Nat) : Int) := by
  have h : (2 : Nat) ^ j ≤ 2 ^ 16 := Nat.pow_le_pow_right (by decide) hj
  have e : (2 : Int) ^ j = ((2 ^ j : Nat) : Int) := by simp
  rw [e]
  generalize 2 ^ j = q at *
  exact IntWalk.wrap64_in (q : Int) (by omega)
set_option maxRecDepth 100000 in
set_option maxHeartbeats 8000000 in
theorem paint16 (k : Bool) (c dd : Nat) (tp : PlM) (ht : tp.block = 0) (w : World) (C : Nat → Prop) (g gt : Nat) (most : Int) (st sb sf : SlV) (gm : Nat) (X : TS) (nb : Nat) (h : CoreAt w C g gt most st sb sf gm X nb) {lab : Nat → Lb} (hw : Wf X.S lab) (p : PrefixM) (hp : okP p) (hl : p.len ≤ 16) (hfit : FitAt w k c dd) (hcC : ¬ C c) :
    Calls Try.prog 67 #[.pointer (some ⟨g, 0, none⟩), .agg p.cells.toArray, .agg tp.cells.toArray, fv k c] w fun e w' => e = .returned (.tuple #[]) ∧ CoreAt w' C g gt most st sb sf gm (X.pntS (Rp X.S p) tp (fitOf k dd)) nb ∧ Fr C w w' := by
  have hb := hp.bd
  have hc := hp.cast
  have hr := rng16 hp hl
  obtain ⟨m, hm⟩ : ∃ m, heldN p.len = m := ⟨_, rfl⟩
  rw [hm] at hc hr
  have hm16 : m ≤ 16 := by omega
  have hfl : p.addr / 65536 ≤ 65536 := Nat.le_trans (Nat.le_add_right _ _) hr
  obtain ⟨gT, hst, hsl, _⟩ := h.tabAt
  have HRp := hide (show X.pntS (fun K => (List.range (2 ^ (16 - m))).any (fun i => under X.S 2 (.t (p.addr / 65536 + i)) K)) tp (fitOf k dd) = X.pntS (Rp X.S p) tp (fitOf k dd) from by
    have e : Rp X.S p = fun K => (List.range (2 ^ (16 - m))).any (fun i => under X.S 2 (.t (p.addr / 65536 + i)) K) := by
      funext K; unfold Rp; rw [if_pos hl, hm]
    rw [e])
  obtain ⟨sa, sl, sc⟩ := st
  simp only at hst hsl
  subst hst; subst hsl
  obtain ⟨a, len⟩ := p
  simp only at hc hr hl hb HRp hfl
  subst hc
  have H := hide h; have Hw := hide hw; have Hfit := hide hfit; have HcC := hide hcC; have Hlt := hide h.lt
  obtain ⟨from_, hfr⟩ : ∃ f, f = a / 65536 := ⟨_, rfl⟩
  rw [← hfr] at hr HRp hfl
  have e16 := hide (show (a : Int) / 65536 = (from_ : Int) from by rw [hfr, show (65536 : Int) = ((65536 : Nat) : Int) from rfl, ← Int.natCast_ediv])
  clear h hw hfit hcC hp hl hb hm hfr
  go_enter Try.func67, Try.ntmps67
  go_upto_region 9 with (fail)
  refine wp_gen (fun W => CellsAt W w.heap.size 0 (PrefixM.mk a (m : Int)).cells ∧ CellsAt W (w.heap.size + 1) 0 tp.cells ∧ Fr noB w W) ⟨by (repeat (first | assumption | exact cells_new _ _ _ (by simp) | refine CellsAt.alloc ?_ _ | refine CellsAt.drew ?_ | refine CellsAt.drewN ?_ _)), by (repeat (first | assumption | exact cells_new _ _ _ (by simp) | refine CellsAt.alloc ?_ _ | refine CellsAt.drew ?_ | refine CellsAt.drewN ?_ _)), ((Fr.refl _ _).alloc _).alloc _⟩ ?_
  rintro w1 ⟨hc1, hd1, hf1⟩
  have Hc1 := hide hc1; have Hd1 := hide hd1; have Hf1 := hide hf1
  have p0 : w1.cell? ⟨w.heap.size, 0, none⟩ = some (.int .u32 (a : Nat)) := by have := hc1 0 _ rfl; rwa [Nat.zero_add] at this
  have p1 : w1.cell? ⟨w.heap.size, 1, none⟩ = some (.int .i64 (m : Int)) := by have := hc1 1 _ rfl; rwa [Nat.zero_add] at this
  clear hc1 hd1 hf1
  go_upto_region 11 with (fail)
  rw [e16.out, IntWalk.wrap64_in (from_ : Int) (by have := hfl; omega)]
  go_wp2_with fail
  rw [shl_val (16 - m) (by omega)]
  obtain ⟨q, hq⟩ : ∃ q, 2 ^ (16 - m) = q := ⟨_, rfl⟩
  rw [hq] at hr HRp ⊢
  rw [decide_eq_true (show (m : Int) ≤ 16 by omega)]
  clear hq p0 p1
  have hq1 : q ≤ 65536 := by omega
  go_loopw [67] (PaintAt w1 C g gt most ⟨some ⟨gT, 0, none⟩, 65536, sc⟩ sb sf gm X nb q (fun i => under X.S 2 (.t (from_ + i))) tp (fitOf k dd)) (fun i _ => q - (intOf i).toNat)
  case atStart => exact ⟨0, by omega, rfl, by have := H.out.frN Hf1.out; rw [show (fun K => (List.range 0).any fun i => under X.S 2 (.t (from_ + i)) K) = fun _ => false from rfl, pntS_none]; exact this, Fr.refl _ _⟩
  case round =>
    obtain ⟨j, hj, rfl, hcore, hfr⟩ := hrel
    have Hcore := hide hcore; have Hfr := hide hfr
    have Hq := hide (Hd1.out.fr hfr (fun hC => by have := Hlt.out _ hC; omega))
    have Hblk := hide hcore.blk
    clear hcore hfr
    by_cases hlt : j < q
    · have Hd2 := hide ((deep2 Hw.out (h := from_ + j) (by omega)).pnt ht (fitOf k dd) (fun K => (List.range j).any (fun i => under X.S 2 (.t (from_ + i)) K)))
      have Hft2 := hide ((Hfit.out.fr Hf1.out (fun h => h)).fr Hfr.out HcC.out)
      have hidx : (from_ : Int) + (j : Int) < 65536 := by omega
      have hmul3 : (((from_ : Int) + (j : Int)) * 3).toNat = (from_ + j) * 3 := by omega
      go_upto_region 14 with (fail)
      have d4 : ∀ z : Holds (fun W => CellsAt W (w.heap.size + 1) 0 tp.cells ∧ W.cell? ⟨g, 4, none⟩ = some (.slice (some ⟨gT, 0, none⟩) 65536 sc)), z.v.cell? ⟨g, 4, none⟩ = some (.slice (some ⟨gT, 0, none⟩) 65536 sc) := fun z => z.has.2
      haveI : Nonempty (Holds (fun W => CellsAt W (w.heap.size + 1) 0 tp.cells ∧ W.cell? ⟨g, 4, none⟩ = some (.slice (some ⟨gT, 0, none⟩) 65536 sc))) := ⟨⟨wr, Hq.out, Hblk.out.cell 4⟩⟩
      refine wp_region_mix (fun W => ∃ z : Holds (fun W => CellsAt W (w.heap.size + 1) 0 tp.cells ∧ W.cell? ⟨g, 4, none⟩ = some (.slice (some ⟨gT, 0, none⟩) 65536 sc)), W = z.v) (by kernel_rfl) (by kernel_rfl) ⟨⟨wr.drew, Hq.out, Hblk.out.cell 4⟩, rfl⟩ ?_
      iterate 9 (first | (refine wpMix_skip rfl ?_; simp only [Act.put, List.setIfInBounds_toArray, List.set_cons_succ, List.set_cons_zero]) | (refine wpMix_calm rfl rfl (fun K hK => ?_); go_big_quiet_op; refine hK _ ?_; clear hK K))
      refine wpMix_load_atw rfl 111 (.tmp 6) rfl (w.heap.size + 1) 0 rfl tp.cells (fun W hW => by obtain ⟨z, rfl⟩ := hW; exact z.has.1) _ Try.underlying111 rfl (by kernel_rfl) ?_
      simp only [Act.put, List.setIfInBounds_toArray, List.set_cons_succ, List.set_cons_zero]
      iterate 1 (first | (refine wpMix_skip rfl ?_; simp only [Act.put, List.setIfInBounds_toArray, List.set_cons_succ, List.set_cons_zero]) | (refine wpMix_calm rfl rfl (fun K hK => ?_); go_big_quiet_op; refine hK _ ?_; clear hK K))
      refine wpMix_spine rfl rfl (fun K hK => ?_); go_wp2_with fail
      refine (dir_paints k c dd tp ht 2 wr.drew C g gt most ⟨some ⟨gT, 0, none⟩, 65536, sc⟩ sb sf gm (X.pntS (fun K => (List.range j).any (fun i => under X.S 2 (.t (from_ + i)) K)) tp (fitOf k dd)) nb (.t (from_ + j)) gT ((from_ + j) * 3) (Hcore.out.frN (Fr.refl noB wr).drew) Hd2.out (Hft2.out.fr (Fr.refl noB wr).drew (fun h => h)) HcC.out rfl).mono ?_
      rintro e w3 ⟨rfl, hc3, hf3⟩
      have hf3' : Fr C wr w3 := (Fr.refl C wr).drew.tr hf3
      refine hK _ _ rfl ⟨⟨w3, Hq.out.fr hf3' (fun hC => by have := Hlt.out _ hC; omega), hc3.blk.cell 4⟩, rfl⟩ ?_
      clear hK K
      have Hc3 := hide (show CoreAt w3 C g gt most ⟨some ⟨gT, 0, none⟩, 65536, sc⟩ sb sf gm (X.pntS (fun K => (List.range (j + 1)).any (fun i => under X.S 2 (.t (from_ + i)) K)) tp (fitOf k dd)) nb from by
        rw [pntS_two X _ _ ht] at hc3
        have e : (fun K => ((List.range j).any fun i => under X.S 2 (.t (from_ + i)) K) || under (X.pntS (fun K => (List.range j).any (fun i => under X.S 2 (.t (from_ + i)) K)) tp (fitOf k dd)).S 2 (.t (from_ + j)) K) = fun K => (List.range (j + 1)).any (fun i => under X.S 2 (.t (from_ + i)) K) := by
          funext K
          rw [any_succ]
          congr 1
          exact under_pnt ht (fitOf k dd) (fun K => (List.range j).any fun i => under X.S 2 (.t (from_ + i)) K) X.S 2 (.t (from_ + j)) K
        rw [e] at hc3
        exact hc3)
      have Hf3 := hide (Hfr.out.tr hf3')
      clear hc3 hf3 hf3'
      refine wpMix_nil ?_
      clear d4
      go_wp2_with fail
      go_roundw
      case rel =>
        exact ⟨j + 1, by omega, by go_num, Hc3.out, Hf3.out⟩
      case measure => simp [intOf]; omega
    · obtain rfl : j = q := by omega
      go_wp2_with fail
      first | go_end0 | (refine bodyPost_ret (results_none rfl _ _ _) rfl ?_) | (simp only [Exit.inBlock, Exit.then]; refine bodyPost_ret (results_none rfl _ _ _) rfl ?_)
      exact ⟨rfl, by rw [← HRp.out]; exact Hcore.out, Fr.trans Hf1.out Hfr.out (fun _ _ h => h.elim) (fun _ _ h => h)⟩

set_option maxRecDepth 100000 in
set_option maxHeartbeats 8000000 in
theorem paint24 (k : Bool) (c dd : Nat) (tp : PlM) (ht : tp.block = 0) (w : World) (C : Nat → Prop) (g gt : Nat) (most : Int) (st sb sf : SlV) (gm : Nat) (X : TS) (nb : Nat) (h : CoreAt w C g gt most st sb sf gm X nb) {lab : Nat → Lb} (hw : Wf X.S lab) (p : PrefixM) (hp : okP p) (hl0 : 16 < p.len) (hl : p.len ≤ 24) (n16 : (X.S.t (p.addr / 65536)).block ≠ 0) (hfit : FitAt w k c dd) (hcC : ¬ C c) :
    Calls Try.prog 67 #[.pointer (some ⟨g, 0, none⟩), .agg p.cells.toArray, .agg tp.cells.toArray, fv k c] w fun e w' => e = .returned (.tuple #[]) ∧ CoreAt w' C g gt most st sb sf gm (X.pntS (Rp X.S p) tp (fitOf k dd)) nb ∧ Fr C w w' := by
  have hb := hp.bd
  have hc := hp.cast
  have hplt := hp.lt
  obtain ⟨m, hm⟩ : ∃ m, heldN p.len = m := ⟨_, rfl⟩
  have hib : ∀ i, i < 2 ^ (24 - m) → _ := fun i hi => in_block hp (j := 8) (by omega) (by omega) (by decide) (i := i) (by rw [hm, show 32 - 8 - m = 24 - m by omega]; exact hi)
  rw [show (2 : Nat) ^ 8 = 256 from rfl] at hib
  rw [hm] at hc
  have hm16 : 16 < m ∧ m ≤ 24 := by omega
  have k0 := hw.w0 (p.addr / 65536) (by omega) n16
  obtain ⟨n, hn⟩ : ∃ n, (X.S.t (p.addr / 65536)).block = n + 1 := ⟨(X.S.t (p.addr / 65536)).block - 1, by omega⟩
  have hdeep : ∀ i, i < 2 ^ (24 - m) → Deep X.S 1 (.b n (p.addr / 256 % 256 + i)) := fun i hi => by
    obtain ⟨q1, q2, q3⟩ := hib i hi
    have := deep1 hw (b := p.addr / 256 + i) (by omega) (by rw [q2, div256]; exact n16)
    rwa [q2, q3, div256, hn, Nat.add_sub_cancel] at this
  rw [hn, Nat.add_sub_cancel] at k0
  obtain ⟨gT, hst, hsl, _⟩ := h.tabAt
  obtain ⟨gB, hsb, _⟩ := h.blsAt k0.1
  have hbl : sb.len = X.S.blk.length := h.bls.1
  have hnb := h.len
  obtain ⟨tb, toff, hta, htc, _⟩ := h.get (L := .t (p.addr / 65536)) (show p.addr / 65536 < X.S.tab.length by rw [hnb.1]; omega)
  have HRp := hide (show X.pntS (fun K => (List.range (2 ^ (24 - m))).any (fun i => under X.S 1 (.b n (p.addr / 256 % 256 + i)) K)) tp (fitOf k dd) = X.pntS (Rp X.S p) tp (fitOf k dd) from by
    have e : Rp X.S p = fun K => (List.range (2 ^ (24 - m))).any (fun i => under X.S 1 (.b n (p.addr / 256 % 256 + i)) K) := by
      funext K; unfold Rp; rw [if_neg (by omega), if_pos hl, hm, hn, Nat.add_sub_cancel]
    rw [e])
  obtain ⟨sa, sl, sc⟩ := st
  obtain ⟨ba, bl, bc⟩ := sb
  simp only at hst hsl hsb hbl
  subst hst; subst hsl; subst hsb
  unfold adr at hta
  simp only [Option.map_some, Option.some.injEq, Addr.mk.injEq, and_true] at hta
  obtain ⟨rfl, rfl⟩ := hta
  have hnlt : n < bl := by rw [hbl]; exact k0.1
  have hn1 : n ≤ 1000000 := by omega
  have hq256 : p.addr / 256 % 256 + 2 ^ (24 - m) ≤ 256 := by
    have := (hib (2 ^ (24 - m) - 1) (by have := Nat.two_pow_pos (24 - m); omega)).1
    have := Nat.two_pow_pos (24 - m)
    omega
  have htc2 : ∀ W, Fr noB w W → W.cell? ⟨gT, p.addr / 65536 * 3 + 2, none⟩ = some (.int .i32 ((n + 1 : Nat) : Int)) := fun W hW => by have := (htc.fr hW (fun h => h)) 2 _ rfl; rw [show X.S.get (.t (p.addr / 65536)) = X.S.t (p.addr / 65536) from rfl, hn] at this; exact this
  have Htc := hide htc2
  obtain ⟨a, len⟩ := p
  simp only at hc hl hl0 hb HRp hdeep Htc hq256 hplt
  subst hc
  have H := hide h; have Hfit := hide hfit; have HcC := hide hcC; have Hlt := hide h.lt; have Hdeep := hide hdeep
  have Hblk0 := hide h.blk
  obtain ⟨hh, hhe⟩ : ∃ f, f = a / 65536 := ⟨_, rfl⟩
  obtain ⟨from_, hfr⟩ : ∃ f, f = a / 256 % 256 := ⟨_, rfl⟩
  rw [← hhe] at Htc
  rw [← hfr] at HRp Hdeep hq256
  have hhl : hh < 65536 := by omega
  have hfl : from_ ≤ 256 := Nat.le_trans (Nat.le_add_right _ _) hq256
  have e16 := hide (show (a : Int) / 65536 = (hh : Int) from by rw [hhe, show (65536 : Int) = ((65536 : Nat) : Int) from rfl, ← Int.natCast_ediv])
  have e8 := hide (show bits BinOp.and IntKind.u32 ((a : Int) / 256) 255 = (from_ : Int) from by
    rw [show (a : Int) / 256 = ((a / 256 : Nat) : Int) from by rw [show (256 : Int) = ((256 : Nat) : Int) from rfl, ← Int.natCast_ediv], and255 (by omega), hfr])
  clear h hw hfit hcC hp hl hl0 hb hm hfr hhe htc htc2 hib hn hdeep hbl hnb k0 n16
  go_enter Try.func67, Try.ntmps67
  go_upto_region 9 with (fail)
  refine wp_gen (fun W => CellsAt W w.heap.size 0 (PrefixM.mk a (m : Int)).cells ∧ CellsAt W (w.heap.size + 1) 0 tp.cells ∧ Fr noB w W) ⟨by (repeat (first | assumption | exact cells_new _ _ _ (by simp) | refine CellsAt.alloc ?_ _ | refine CellsAt.drew ?_ | refine CellsAt.drewN ?_ _)), by (repeat (first | assumption | exact cells_new _ _ _ (by simp) | refine CellsAt.alloc ?_ _ | refine CellsAt.drew ?_ | refine CellsAt.drewN ?_ _)), ((Fr.refl _ _).alloc _).alloc _⟩ ?_
  rintro w1 ⟨hc1, hd1, hf1⟩
  have Hc1 := hide hc1; have Hd1 := hide hd1; have Hf1 := hide hf1
  have p1 : w1.cell? ⟨w.heap.size, 1, none⟩ = some (.int .i64 (m : Int)) := by have := hc1 1 _ rfl; rwa [Nat.zero_add] at this
  have g16 : ¬ (m : Int) ≤ 16 := by omega
  have g24 : (m : Int) ≤ 24 := by omega
  clear hc1 hd1 hf1
  go_upto_region 17 with (fail)
  try rw [decide_eq_false (show ¬ (m : Int) ≤ 16 by omega)]
  try rw [decide_eq_true g24]
  clear p1 g16 g24
  have p0 : ∀ z : Grow w1, z.v.cell? ⟨w.heap.size, 0, none⟩ = some (.int .u32 (a : Nat)) := fun z => by have := (Hc1.out.fr z.fr (fun h => h)) 0 _ rfl; rwa [Nat.zero_add] at this
  have d4 : ∀ z : Grow w1, z.v.cell? ⟨g, 4, none⟩ = some (.slice (some ⟨gT, 0, none⟩) 65536 sc) := fun z => by rw [(Hblk0.out.fr (Hf1.out.tr z.fr) (fun h => h)).cell 4]; rfl
  have d5 : ∀ z : Grow w1, z.v.cell? ⟨g, 5, none⟩ = some (.slice (some ⟨gB, 0, none⟩) bl bc) := fun z => by rw [(Hblk0.out.fr (Hf1.out.tr z.fr) (fun h => h)).cell 5]; rfl
  have t2 : ∀ z : Grow w1, z.v.cell? ⟨gT, hh * 3 + 2, none⟩ = some (.int .i32 ((n + 1 : Nat) : Int)) := fun z => Htc.out _ (Hf1.out.tr z.fr)
  refine wp_region_mix (fun W => ∃ z : Grow w1, W = z.v) (by kernel_rfl) (by kernel_rfl) (inGrow (Fr.refl _ _).drew) ?_
  have hmul : ((hh : Int) * 3).toNat = hh * 3 := by omega
  have hlt : (hh : Int) < 65536 := by omega
  have hmul2 : ((n : Int) * 768).toNat = n * 768 := by omega
  iterate 11 (first | (refine wpMix_skip rfl ?_; simp only [Act.put, List.setIfInBounds_toArray, List.set_cons_succ, List.set_cons_zero]) | (refine wpMix_calm rfl rfl (fun K hK => ?_); go_big_quiet_op; refine hK _ ?_; clear hK K))
  rw [e16.out]
  repeat (first | (refine wpMix_skip rfl ?_; simp only [Act.put, List.setIfInBounds_toArray, List.set_cons_succ, List.set_cons_zero]) | (refine wpMix_calm rfl rfl (fun K hK => ?_); go_big_quiet_op; refine hK _ ?_; clear hK K))
  refine wpMix_nil ?_
  clear p0 d4 d5 t2 hmul hlt
  have p0 : w1.drew.cell? ⟨w.heap.size, 0, none⟩ = some (.int .u32 (a : Nat)) := by have := (Hc1.out.fr (Fr.refl noB w1).drew (fun h => h)) 0 _ rfl; rwa [Nat.zero_add] at this
  have p1 : w1.drew.cell? ⟨w.heap.size, 1, none⟩ = some (.int .i64 (m : Int)) := by have := (Hc1.out.fr (Fr.refl noB w1).drew (fun h => h)) 1 _ rfl; rwa [Nat.zero_add] at this
  go_upto_region 19 with (fail)
  rw [e8.out, IntWalk.wrap64_in (from_ : Int) (by have := hfl; omega)]
  go_wp2_with fail
  rw [shl_val (24 - m) (by omega)]
  obtain ⟨q, hq⟩ : ∃ q, 2 ^ (24 - m) = q := ⟨_, rfl⟩
  rw [hq] at HRp Hdeep hq256 ⊢
  clear hq p0 p1
  have hq1 : q ≤ 256 := by omega
  go_loopw [112] (PaintAt w1 C g gt most ⟨some ⟨gT, 0, none⟩, 65536, sc⟩ ⟨some ⟨gB, 0, none⟩, bl, bc⟩ sf gm X nb q (fun i => under X.S 1 (.b n (from_ + i))) tp (fitOf k dd)) (fun i _ => q - (intOf i).toNat)
  case atStart => exact ⟨0, by omega, rfl, by have := H.out.frN Hf1.out.drew; rw [show (fun K => (List.range 0).any fun i => under X.S 1 (.b n (from_ + i)) K) = fun _ => false from rfl, pntS_none]; exact this, (Fr.refl _ _).drew⟩
  case round =>
    obtain ⟨j, hj, rfl, hcore, hfr⟩ := hrel
    have Hcore := hide hcore; have Hfr := hide hfr
    have Hq := hide (Hd1.out.fr hfr (fun hC => by have := Hlt.out _ hC; omega))
    clear hcore hfr
    by_cases hlt : j < q
    · have Hd2 := hide ((Hdeep.out j hlt).pnt ht (fitOf k dd) (fun K => (List.range j).any (fun i => under X.S 1 (.b n (from_ + i)) K)))
      have Hft2 := hide ((Hfit.out.fr Hf1.out (fun h => h)).fr Hfr.out HcC.out)
      have hidx : (from_ : Int) + (j : Int) < 256 := by omega
      have hmul3 : (((from_ : Int) + (j : Int)) * 3).toNat = (from_ + j) * 3 := by omega
      go_upto_region 22 with (fail)
      refine wp_region_mix (fun W => ∃ z : GrowS C wr, W = z.v) (by kernel_rfl) (by kernel_rfl) (inGrowS (Fr.refl _ _).drew) ?_
      iterate 7 (first | (refine wpMix_skip rfl ?_; simp only [Act.put, List.setIfInBounds_toArray, List.set_cons_succ, List.set_cons_zero]) | (refine wpMix_calm rfl rfl (fun K hK => ?_); go_big_quiet_op; refine hK _ ?_; clear hK K))
      refine wpMix_load_atw rfl 111 (.tmp 6) rfl (w.heap.size + 1) 0 rfl tp.cells (fun W hW => by obtain ⟨z, rfl⟩ := hW; exact Hq.out.fr z.fr (fun hC => by have := Hlt.out _ hC; omega)) _ Try.underlying111 rfl (by kernel_rfl) ?_
      simp only [Act.put, List.setIfInBounds_toArray, List.set_cons_succ, List.set_cons_zero]
      iterate 1 (first | (refine wpMix_skip rfl ?_; simp only [Act.put, List.setIfInBounds_toArray, List.set_cons_succ, List.set_cons_zero]) | (refine wpMix_calm rfl rfl (fun K hK => ?_); go_big_quiet_op; refine hK _ ?_; clear hK K))
      refine wpMix_spine rfl rfl (fun K hK => ?_); go_wp2_with fail
      refine (dir_paints k c dd tp ht 1 wr.drew C g gt most ⟨some ⟨gT, 0, none⟩, 65536, sc⟩ ⟨some ⟨gB, 0, none⟩, bl, bc⟩ sf gm (X.pntS (fun K => (List.range j).any (fun i => under X.S 1 (.b n (from_ + i)) K)) tp (fitOf k dd)) nb (.b n (from_ + j)) gB (n * 768 + (from_ + j) * 3) (Hcore.out.frN (Fr.refl noB wr).drew) Hd2.out (Hft2.out.fr (Fr.refl noB wr).drew (fun h => h)) HcC.out rfl).mono ?_
      rintro e w3 ⟨rfl, hc3, hf3⟩
      have hf3' : Fr C wr w3 := (Fr.refl C wr).drew.tr hf3
      refine hK _ _ rfl (inGrowS hf3') ?_
      clear hK K
      have Hc3 := hide (show CoreAt w3 C g gt most ⟨some ⟨gT, 0, none⟩, 65536, sc⟩ ⟨some ⟨gB, 0, none⟩, bl, bc⟩ sf gm (X.pntS (fun K => (List.range (j + 1)).any (fun i => under X.S 1 (.b n (from_ + i)) K)) tp (fitOf k dd)) nb from by
        rw [pntS_two X _ _ ht] at hc3
        have e : (fun K => ((List.range j).any fun i => under X.S 1 (.b n (from_ + i)) K) || under (X.pntS (fun K => (List.range j).any (fun i => under X.S 1 (.b n (from_ + i)) K)) tp (fitOf k dd)).S 1 (.b n (from_ + j)) K) = fun K => (List.range (j + 1)).any (fun i => under X.S 1 (.b n (from_ + i)) K) := by
          funext K
          rw [any_succ]
          congr 1
          exact under_pnt ht (fitOf k dd) (fun K => (List.range j).any fun i => under X.S 1 (.b n (from_ + i)) K) X.S 1 (.b n (from_ + j)) K
        rw [e] at hc3
        exact hc3)
      have Hf3 := hide (Hfr.out.tr hf3')
      clear hc3 hf3 hf3'
      refine wpMix_nil ?_
      go_wp2_with fail
      go_roundw
      case rel => exact ⟨j + 1, by omega, by go_num, Hc3.out, Hf3.out⟩
      case measure => simp [intOf]; omega
    · obtain rfl : j = q := by omega
      go_wp2_with fail
      first | go_end0 | (refine bodyPost_ret (results_none rfl _ _ _) rfl ?_) | (simp only [Exit.inBlock, Exit.then]; refine bodyPost_ret (results_none rfl _ _ _) rfl ?_)
      exact ⟨rfl, by rw [← HRp.out]; exact Hcore.out, Fr.trans Hf1.out Hfr.out (fun _ _ h => h.elim) (fun _ _ h => h)⟩

set_option maxRecDepth 100000 in
set_option maxHeartbeats 8000000 in
theorem paint32 (k : Bool) (c dd : Nat) (tp : PlM) (ht : tp.block = 0) (w : World) (C : Nat → Prop) (g gt : Nat) (most : Int) (st sb sf : SlV) (gm : Nat) (X : TS) (nb : Nat) (h : CoreAt w C g gt most st sb sf gm X nb) {lab : Nat → Lb} (hw : Wf X.S lab) (p : PrefixM) (hp : okP p) (hl0 : 24 < p.len) (n16 : (X.S.t (p.addr / 65536)).block ≠ 0) (n24 : (X.S.v1 (p.addr / 256)).block ≠ 0) (hfit : FitAt w k c dd) (hcC : ¬ C c) :
    Calls Try.prog 67 #[.pointer (some ⟨g, 0, none⟩), .agg p.cells.toArray, .agg tp.cells.toArray, fv k c] w fun e w' => e = .returned (.tuple #[]) ∧ CoreAt w' C g gt most st sb sf gm (X.pntS (Rp X.S p) tp (fitOf k dd)) nb ∧ Fr C w w' := by
  have hb := hp.bd
  have hc := hp.cast
  have hplt := hp.lt
  obtain ⟨m, hm⟩ : ∃ m, heldN p.len = m := ⟨_, rfl⟩
  have hib : ∀ i, i < 2 ^ (32 - m) → _ := fun i hi => in_block hp (j := 0) (by omega) (by omega) (by decide) (i := i) (by rw [hm, show 32 - 0 - m = 32 - m by omega]; exact hi)
  rw [show (2 : Nat) ^ 0 = 1 from rfl, Nat.div_one] at hib
  rw [hm] at hc
  have hm16 : 24 < m ∧ m ≤ 32 := by omega
  have n16' : (X.S.t (p.addr / 256 / 256)).block ≠ 0 := by rw [div256]; exact n16
  have k0 := hw.w0 (p.addr / 256 / 256) (by omega) n16'
  have k1 := hw.w1 (p.addr / 256) (by omega) n16' n24
  obtain ⟨n, hn⟩ : ∃ n, (X.S.v1 (p.addr / 256)).block = n + 1 := ⟨(X.S.v1 (p.addr / 256)).block - 1, by omega⟩
  obtain ⟨n1, hn1⟩ : ∃ n, (X.S.t (p.addr / 256 / 256)).block = n + 1 := ⟨(X.S.t (p.addr / 256 / 256)).block - 1, by omega⟩
  have hdeep : ∀ i, i < 2 ^ (32 - m) → Deep X.S 0 (.b n (p.addr % 256 + i)) := fun i hi => by
    obtain ⟨q1, q2, q3⟩ := hib i hi
    have := deep0 hw (a := p.addr + i) (by omega) (by rw [← div256, q2]; exact n16') (by rw [q2]; exact n24)
    rwa [q2, q3, hn, Nat.add_sub_cancel] at this
  rw [hn, Nat.add_sub_cancel] at k1
  have hat := hide (fun W hW => dir_at2 W C g gt most st sb sf gm X nb hW (p.addr / 256) (by omega) n16' k0.1)
  rw [hn1, Nat.add_sub_cancel] at hat
  rw [hn1, Nat.add_sub_cancel] at k0
  obtain ⟨gT, hst, hsl, _⟩ := h.tabAt
  obtain ⟨gB, hsb, _⟩ := h.blsAt k1.1
  have hbl : sb.len = X.S.blk.length := h.bls.1
  have hnb := h.len
  obtain ⟨tb, toff, hta, htc, _⟩ := h.get (L := .b n1 (p.addr / 256 % 256)) ⟨k0.1, by omega⟩
  have HRp := hide (show X.pntS (fun K => (List.range (2 ^ (32 - m))).any (fun i => under X.S 0 (.b n (p.addr % 256 + i)) K)) tp (fitOf k dd) = X.pntS (Rp X.S p) tp (fitOf k dd) from by
    have e : Rp X.S p = fun K => (List.range (2 ^ (32 - m))).any (fun i => under X.S 0 (.b n (p.addr % 256 + i)) K) := by
      funext K; unfold Rp; rw [if_neg (by omega), if_neg (by omega), hm, hn, Nat.add_sub_cancel]
    rw [e])
  obtain ⟨sa, sl, sc⟩ := st
  obtain ⟨ba, bl, bc⟩ := sb
  simp only at hst hsl hsb hbl
  subst hst; subst hsl; subst hsb
  unfold adr at hta
  simp only [Option.map_some, Option.some.injEq, Addr.mk.injEq, and_true] at hta
  obtain ⟨rfl, rfl⟩ := hta
  have hnlt : n < bl := by rw [hbl]; exact k1.1
  have hn1' : n ≤ 1000000 := by omega
  have hq256 : p.addr % 256 + 2 ^ (32 - m) ≤ 256 := by
    have := (hib (2 ^ (32 - m) - 1) (by have := Nat.two_pow_pos (32 - m); omega)).1
    have := Nat.two_pow_pos (32 - m)
    omega
  have hgv : X.S.get (.b n1 (p.addr / 256 % 256)) = X.S.v1 (p.addr / 256) := by unfold DS.v1; rw [hn1]; rfl
  have htc2 : ∀ W, Fr noB w W → W.cell? ⟨gB, n1 * 768 + p.addr / 256 % 256 * 3 + 2, none⟩ = some (.int .i32 ((n + 1 : Nat) : Int)) := fun W hW => by have := (htc.fr hW (fun h => h)) 2 _ rfl; rw [hgv, hn] at this; exact this
  have Htc := hide htc2
  obtain ⟨a, len⟩ := p
  simp only at hc hl0 hb HRp hdeep Htc hq256 hplt hat
  subst hc
  have H := hide h; have Hfit := hide hfit; have HcC := hide hcC; have Hlt := hide h.lt; have Hdeep := hide hdeep
  have Hblk0 := hide h.blk
  obtain ⟨jj, hje⟩ : ∃ f, f = a / 256 % 256 := ⟨_, rfl⟩
  obtain ⟨from_, hfr⟩ : ∃ f, f = a % 256 := ⟨_, rfl⟩
  rw [← hje] at Htc hat
  rw [← hfr] at HRp Hdeep hq256
  have hfl : from_ ≤ 256 := Nat.le_trans (Nat.le_add_right _ _) hq256
  have Hnw := hide (show (PrefixM.mk a 24).wf from ⟨hplt, by unfold i64b; simp only; omega⟩)
  have Hn24 := hide (norm24 hplt)
  have e8 := hide (show bits BinOp.and IntKind.u32 (a : Int) 255 = (from_ : Int) from by rw [and255 (by omega), hfr])
  clear h hw hfit hcC hp hl0 hb hm hfr hje htc htc2 hib hn hn1 hdeep hbl hnb k0 k1 n16 n24 n16' hgv
  go_enter Try.func67, Try.ntmps67
  go_upto_region 9 with (fail)
  refine wp_gen (fun W => CellsAt W w.heap.size 0 (PrefixM.mk a (m : Int)).cells ∧ CellsAt W (w.heap.size + 1) 0 tp.cells ∧ Fr noB w W) ⟨by (repeat (first | assumption | exact cells_new _ _ _ (by simp) | refine CellsAt.alloc ?_ _ | refine CellsAt.drew ?_ | refine CellsAt.drewN ?_ _)), by (repeat (first | assumption | exact cells_new _ _ _ (by simp) | refine CellsAt.alloc ?_ _ | refine CellsAt.drew ?_ | refine CellsAt.drewN ?_ _)), ((Fr.refl _ _).alloc _).alloc _⟩ ?_
  rintro w1 ⟨hc1, hd1, hf1⟩
  have Hc1 := hide hc1; have Hd1 := hide hd1; have Hf1 := hide hf1
  have p0 : w1.cell? ⟨w.heap.size, 0, none⟩ = some (.int .u32 (a : Nat)) := by have := hc1 0 _ rfl; rwa [Nat.zero_add] at this
  have p1 : w1.cell? ⟨w.heap.size, 1, none⟩ = some (.int .i64 (m : Int)) := by have := hc1 1 _ rfl; rwa [Nat.zero_add] at this
  have g16 : ¬ (m : Int) ≤ 16 := by omega
  have g24 : ¬ (m : Int) ≤ 24 := by omega
  clear hc1 hd1 hf1
  go_upto_region 1 with (fail)
  try rw [decide_eq_false (show ¬ (m : Int) ≤ 16 by omega)]
  try rw [decide_eq_false (show ¬ (m : Int) ≤ 24 by omega)]
  clear p1 g16 g24
  go_wp2_with (refine wpList_build_as rfl 28 _ rfl (PrefixM.mk a 24).cells.toArray (by kernel_rfl) ?_)
  refine (addr_Norm ⟨a, 24⟩ Hnw.out _).mono ?_
  rintro e w2 ⟨rfl, hf2⟩
  rw [Hn24.out]
  have Hf2 := hide (Hf1.out.tr hf2); have Hf12 := hide hf2
  clear hf2 p0
  go_wp2_with fail
  refine (hat.out w2 (H.out.frN Hf2.out)).mono ?_
  rintro e w3 ⟨bb, off, hab, rfl, hf3⟩
  unfold adr at hab
  simp only [Option.map_some, Option.some.injEq, Addr.mk.injEq, and_true] at hab
  obtain ⟨rfl, rfl⟩ := hab
  have Hf3 := hide (Hf2.out.tr hf3); have Hf13 := hide (show Fr noB w1 w3 from Hf12.out.tr hf3)
  have hs2 := Hf1.out.size
  clear hf3
  go_upto_region 2 with (fail)
  have d5 : ∀ z : Grow w3, z.v.cell? ⟨g, 5, none⟩ = some (.slice (some ⟨gB, 0, none⟩) bl bc) := fun z => by rw [(Hblk0.out.fr (Hf3.out.tr z.fr) (fun h => h)).cell 5]; rfl
  have t2 : ∀ z : Grow w3, z.v.cell? ⟨gB, n1 * 768 + jj * 3 + 2, none⟩ = some (.int .i32 ((n + 1 : Nat) : Int)) := fun z => Htc.out _ (Hf3.out.tr z.fr)
  refine wp_region_mix (fun W => ∃ z : Grow w3, W = z.v) (by kernel_rfl) (by kernel_rfl) (inGrow (Fr.refl _ _).drew) ?_
  have hmul2 : ((n : Int) * 768).toNat = n * 768 := by omega
  repeat (first | (refine wpMix_skip rfl ?_; simp only [Act.put, List.setIfInBounds_toArray, List.set_cons_succ, List.set_cons_zero]) | (refine wpMix_calm rfl rfl (fun K hK => ?_); go_big_quiet_op; refine hK _ ?_; clear hK K))
  refine wpMix_nil ?_
  clear d5 t2
  have Hp3 := hide (show CellsAt w3.drew w.heap.size 0 (PrefixM.mk a (m : Int)).cells from Hc1.out.fr Hf13.out.drew (fun h => h))
  have p0 : w3.drew.cell? ⟨w.heap.size, 0, none⟩ = some (.int .u32 (a : Nat)) := by have := Hp3.out 0 _ rfl; rwa [Nat.zero_add] at this
  have p1 : w3.drew.cell? ⟨w.heap.size, 1, none⟩ = some (.int .i64 (m : Int)) := by have := Hp3.out 1 _ rfl; rwa [Nat.zero_add] at this
  go_upto_region 4 with (fail)
  rw [e8.out, IntWalk.wrap64_in (from_ : Int) (by have := hfl; omega)]
  go_wp2_with fail
  rw [shl_val (32 - m) (by omega)]
  obtain ⟨q, hq⟩ : ∃ q, 2 ^ (32 - m) = q := ⟨_, rfl⟩
  rw [hq] at HRp Hdeep hq256 ⊢
  clear hq p0 p1
  have hq1 : q ≤ 256 := by omega
  go_loopw [41] (PaintAt w1 C g gt most ⟨some ⟨gT, 0, none⟩, 65536, sc⟩ ⟨some ⟨gB, 0, none⟩, bl, bc⟩ sf gm X nb q (fun i => under X.S 0 (.b n (from_ + i))) tp (fitOf k dd)) (fun i _ => q - (intOf i).toNat)
  case atStart => exact ⟨0, by omega, rfl, by have := H.out.frN (Hf3.out.drew); rw [show (fun K => (List.range 0).any fun i => under X.S 0 (.b n (from_ + i)) K) = fun _ => false from rfl, pntS_none]; exact this, Hf13.out.drew.mono (fun _ _ h => h.elim)⟩
  case round =>
    obtain ⟨j, hj, rfl, hcore, hfr⟩ := hrel
    have Hcore := hide hcore; have Hfr := hide hfr
    have Hq := hide (Hd1.out.fr hfr (fun hC => by have := Hlt.out _ hC; omega))
    clear hcore hfr
    by_cases hlt : j < q
    · have Hd2 := hide ((Hdeep.out j hlt).pnt ht (fitOf k dd) (fun K => (List.range j).any (fun i => under X.S 0 (.b n (from_ + i)) K)))
      have Hft2 := hide ((Hfit.out.fr Hf1.out (fun h => h)).fr Hfr.out HcC.out)
      have hidx : (from_ : Int) + (j : Int) < 256 := by omega
      have hmul3 : (((from_ : Int) + (j : Int)) * 3).toNat = (from_ + j) * 3 := by omega
      go_upto_region 7 with (fail)
      refine wp_region_mix (fun W => ∃ z : GrowS C wr, W = z.v) (by kernel_rfl) (by kernel_rfl) (inGrowS (Fr.refl _ _).drew) ?_
      iterate 7 (first | (refine wpMix_skip rfl ?_; simp only [Act.put, List.setIfInBounds_toArray, List.set_cons_succ, List.set_cons_zero]) | (refine wpMix_calm rfl rfl (fun K hK => ?_); go_big_quiet_op; refine hK _ ?_; clear hK K))
      refine wpMix_load_atw rfl 111 (.tmp 6) rfl (w.heap.size + 1) 0 rfl tp.cells (fun W hW => by obtain ⟨z, rfl⟩ := hW; exact Hq.out.fr z.fr (fun hC => by have := Hlt.out _ hC; omega)) _ Try.underlying111 rfl (by kernel_rfl) ?_
      simp only [Act.put, List.setIfInBounds_toArray, List.set_cons_succ, List.set_cons_zero]
      iterate 1 (first | (refine wpMix_skip rfl ?_; simp only [Act.put, List.setIfInBounds_toArray, List.set_cons_succ, List.set_cons_zero]) | (refine wpMix_calm rfl rfl (fun K hK => ?_); go_big_quiet_op; refine hK _ ?_; clear hK K))
      refine wpMix_spine rfl rfl (fun K hK => ?_); go_wp2_with fail
      refine (dir_paints k c dd tp ht 0 wr.drew C g gt most ⟨some ⟨gT, 0, none⟩, 65536, sc⟩ ⟨some ⟨gB, 0, none⟩, bl, bc⟩ sf gm (X.pntS (fun K => (List.range j).any (fun i => under X.S 0 (.b n (from_ + i)) K)) tp (fitOf k dd)) nb (.b n (from_ + j)) gB (n * 768 + (from_ + j) * 3) (Hcore.out.frN (Fr.refl noB wr).drew) Hd2.out (Hft2.out.fr (Fr.refl noB wr).drew (fun h => h)) HcC.out rfl).mono ?_
      rintro e w3 ⟨rfl, hc3, hf3⟩
      have hf3' : Fr C wr w3 := (Fr.refl C wr).drew.tr hf3
      refine hK _ _ rfl (inGrowS hf3') ?_
      clear hK K
      have Hc3 := hide (show CoreAt w3 C g gt most ⟨some ⟨gT, 0, none⟩, 65536, sc⟩ ⟨some ⟨gB, 0, none⟩, bl, bc⟩ sf gm (X.pntS (fun K => (List.range (j + 1)).any (fun i => under X.S 0 (.b n (from_ + i)) K)) tp (fitOf k dd)) nb from by
        rw [pntS_two X _ _ ht] at hc3
        have e : (fun K => ((List.range j).any fun i => under X.S 0 (.b n (from_ + i)) K) || under (X.pntS (fun K => (List.range j).any (fun i => under X.S 0 (.b n (from_ + i)) K)) tp (fitOf k dd)).S 0 (.b n (from_ + j)) K) = fun K => (List.range (j + 1)).any (fun i => under X.S 0 (.b n (from_ + i)) K) := by
          funext K
          rw [any_succ]
          exact congrArg (fun y => ((List.range j).any fun i => under X.S 0 (.b n (from_ + i)) K) || y) (under_pnt ht (fitOf k dd) (fun K => (List.range j).any fun i => under X.S 0 (.b n (from_ + i)) K) X.S 0 (.b n (from_ + j)) K)
        rw [e] at hc3
        exact hc3)
      have Hf3 := hide (Hfr.out.tr hf3')
      clear hc3 hf3 hf3'
      refine wpMix_nil ?_
      go_wp2_with fail
      go_roundw
      case rel => exact ⟨j + 1, by omega, by go_num, Hc3.out, Hf3.out⟩
      case measure => simp [intOf]; omega
    · obtain rfl : j = q := by omega
      go_wp2_with fail
      first | go_end0 | (refine bodyPost_ret (results_none rfl _ _ _) rfl ?_) | (simp only [Exit.inBlock, Exit.then]; refine bodyPost_ret (results_none rfl _ _ _) rfl ?_)
      exact ⟨rfl, by rw [← HRp.out]; exact Hcore.out, Fr.trans Hf1.out Hfr.out (fun _ _ h => h.elim) (fun _ _ h => h)⟩

/-- All places of a prefix. -/
theorem dir_paint (k : Bool) (c dd : Nat) (tp : PlM) (ht : tp.block = 0) (w : World) (C : Nat → Prop) (g gt : Nat) (most : Int) (st sb sf : SlV) (gm : Nat) (X : TS) (nb : Nat) (h : CoreAt w C g gt most st sb sf gm X nb) {lab : Nat → Lb} (hw : Wf X.S lab) (p : PrefixM) (hp : okP p) (n16 : 16 < p.len → (X.S.t (p.addr / 65536)).block ≠ 0) (n24 : 24 < p.len → (X.S.v1 (p.addr / 256)).block ≠ 0) (hfit : FitAt w k c dd) (hcC : ¬ C c) :
    Calls Try.prog 67 #[.pointer (some ⟨g, 0, none⟩), .agg p.cells.toArray, .agg tp.cells.toArray, fv k c] w fun e w' => e = .returned (.tuple #[]) ∧ CoreAt w' C g gt most st sb sf gm (X.pntS (Rp X.S p) tp (fitOf k dd)) nb ∧ Fr C w w' := by
  by_cases h16 : p.len ≤ 16
  · exact paint16 k c dd tp ht w C g gt most st sb sf gm X nb h hw p hp h16 hfit hcC
  · by_cases h24 : p.len ≤ 24
    · exact paint24 k c dd tp ht w C g gt most st sb sf gm X nb h hw p hp (by omega) h24 (n16 (by omega)) hfit hcC
    · exact paint32 k c dd tp ht w C g gt most st sb sf gm X nb h hw p hp (by omega) (n16 (by omega)) (n24 (by omega)) hfit hcC
end Go.Proofs.Ytgjabgneapdbiaa

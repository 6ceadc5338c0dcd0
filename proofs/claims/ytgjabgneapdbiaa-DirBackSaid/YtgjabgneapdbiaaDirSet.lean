/- Dir.Set. -/
import Derived.Test.YtgjabgneapdbiaaDirCore
namespace Go.Proofs.Ytgjabgneapdbiaa
open Go.RowKit Go.BigFrame
set_option linter.unusedSimpArgs false
set_option linter.unusedVariables false
attribute [local irreducible] wpMix wpAnyG
attribute [local irreducible] tabN

def DirTo (w : World) (D : Nat → Prop) (g : Nat) (most : Int) (l' : List EntM) (m nb : Nat) (v : Value) (e : Ending) (w' : World) : Prop := e = .returned v ∧ DirRep w' (gr D w w') g most l' m nb ∧ Fr D w w'
theorem DirRep.up {w : World} {D : Nat → Prop} {g m m' nb nb' : Nat} {most : Int} {l : List EntM} (h : DirRep w D g most l m nb) (hm : m ≤ m') (hn : nb ≤ nb') (hn' : nb' ≤ 1000000) : DirRep w D g most l m' nb' := by
  obtain ⟨⟨Ft, C, gt, k1, k2, k3, k4, k5⟩, k6⟩ := h
  refine ⟨⟨Ft, C, gt, k1.up hm, ?_, k3, k4, k5⟩, k6⟩
  cases k2 with
  | made st sb sf gm X h i => exact .made st sb sf gm X (h.up hn hn') i
  | bare gm hb hm hc hlt hl hnb => exact .bare gm hb hm hc hlt hl hn'
set_option maxRecDepth 100000 in
set_option maxHeartbeats 4000000 in
theorem dir_set_bad (w : World) (g : Nat) (p : PrefixM) (hp : p.wf) (v : Int) (hn : ¬ (p = normP p ∧ 0 ≤ v)) :
    Calls Try.prog 41 #[.pointer (some ⟨g, 0, none⟩), .agg p.cells.toArray, .int .i64 v] w fun e w' => e = .returned (.int .i64 1) ∧ Fr noB w w' := by
  have Hp := hide hp; have Hn := hide hn
  clear hp hn
  go_enter Try.func41, Try.ntmps41
  go_upto_region 1 with (fail)
  refine wp_gen (fun W => W.cell? ⟨w.heap.size, 0, none⟩ = some (.pointer (some ⟨g, 0, none⟩)) ∧ CellsAt W (w.heap.size + 1) 0 p.cells ∧ Fr noB w W) ⟨by simp, by (repeat (first | assumption | exact cells_new _ _ _ (by simp) | refine CellsAt.alloc ?_ _ | refine CellsAt.drew ?_ | refine CellsAt.drewN ?_ _)), ((Fr.refl _ _).alloc _).alloc _⟩ ?_
  rintro w1 ⟨hd1, hc1, hf1⟩
  have Hf1 := hide hf1
  clear hf1
  go_wp2_with (refine wpList_load_atw rfl 28 (.tmp 4) rfl (w.heap.size + 1) 0 rfl p.cells hc1 _ Try.underlying28 rfl (by kernel_rfl) ?_)
  refine (addr_Is p Hp.out _).mono ?_
  rintro e w2 ⟨rfl, hf2⟩
  have Hf2 := hide (Hf1.out.tr hf2)
  clear hf2 hc1 hd1
  by_cases h1 : p = normP p
  · have hv : v < 0 := by
      by_cases hv : 0 ≤ v
      · exact absurd ⟨h1, hv⟩ Hn.out
      · omega
    rw [decide_eq_true h1]
    clear h1
    go_wp2_with fail
    go_ret
    exact ⟨rfl, Hf2.out⟩
  · rw [decide_eq_false h1]
    clear h1
    go_wp2_with fail
    go_ret
    exact ⟨rfl, Hf2.out⟩

theorem wpMix_klen {α : Type} [DecidableEq α] {P : Program} {ops : Array Oper} {mt kt et : TypeId} {cells : α → List Value} {b n : Nat} {S : World → Prop} {Q : Act → World → Prop} {o : Oper} {rest : List Oper} {a : Act} {w : World} (hw : Region.wanted o (yielded ops a.tmps) = true) (m : Operand)
    (ho : o.op = .call { callee := .builtin .len, args := #[m], argTypes := #[mt] }) (ht : P.underlying mt = some (.map kt et)) (hm : a.eval m = .map (some b)) (hk : ∀ w, S w → ∃ f, KMapS cells w b n f)
    (h : wpMix P ops S Q rest (a.put o.dst (.int .i64 n)) w) : wpMix P ops S Q (o :: rest) a w := by
  unfold wpMix mOper
  rw [if_pos hw, if_pos (by rw [ho]; rfl)]
  refine ⟨_, fun w hw => ?_, h⟩
  obtain ⟨f, hf⟩ := hk w hw
  have := hf.kmap.len (ty := o.type) ht
  unfold Oper.quietAt execOp
  simp only [ho, resolve, invoke, builtin, Sem.run_bind, Sem.run_pure, Result.andThen_ok, List.map_toArray, List.map_cons, List.map_nil, hm, this]
  exact ⟨rfl, rfl⟩
theorem hs_len : ∀ (l : List EntM) (hs : List Nat), (l.foldl hsF hs).length ≤ hs.length + l.length
  | [], hs => by simp
  | x :: l, hs => by
    rw [List.foldl_cons]
    have := hs_len l (hsF hs x)
    have h1 : (hsF hs x).length ≤ hs.length + 1 := by
      unfold hsF addD
      split
      · split
        · omega
        · simp
      · omega
    rw [List.length_cons]
    omega
theorem bs_len : ∀ (l : List EntM) (hs : List Nat), (l.foldl bsF hs).length ≤ hs.length + l.length
  | [], hs => by simp
  | x :: l, hs => by
    rw [List.foldl_cons]
    have := bs_len l (bsF hs x)
    have h1 : (bsF hs x).length ≤ hs.length + 1 := by
      unfold bsF addD
      split
      · split
        · omega
        · simp
      · omega
    rw [List.length_cons]
    omega
theorem ownN_le (l : List EntM) : ownN l ≤ 2 * l.length := by
  have h1 := hs_len l []
  have h2 := bs_len l []
  unfold ownN hsL bsL
  simp only [List.length_nil] at h1 h2
  omega
/-- Parts make a Dir. -/
theorem mkRep {w w' : World} {D Ft C : Nat → Prop} {g gt m nb gm : Nat} {most : Int} {l : List EntM} {st sb sf : SlV} {X : TS} (hT : Trie w' Ft gt l m) (hC : CoreAt w' C g gt most st sb sf gm X nb) (hi : Inv X l) (hd : ∀ b, Ft b → ¬ C b) (h1 : ∀ b, Ft b → D b ∨ w.heap.size ≤ b) (h2 : ∀ b, C b → D b ∨ w.heap.size ≤ b) (hD : ∀ b, D b → b < w.heap.size) (hs : w.heap.size ≤ w'.heap.size) :
    DirRep w' (gr D w w') g most l m nb :=
  ⟨⟨Ft, C, gt, hT, .made st sb sf gm X hC hi, hd, fun b hb => (h1 b hb).elim .inl (fun h => .inr ⟨h, hT.lt b hb⟩), fun b hb => (h2 b hb).elim .inl (fun h => .inr ⟨h, hC.lt b hb⟩)⟩, fun b hb => hb.elim (fun h => by have := hD b h; omega) (fun h => h.2)⟩
/-- Set, ahead of the trie's Set. -/
def MidAt (w2 : World) (C : Nat → Prop) (g gt : Nat) (most : Int) (gm : Nat) (XA : TS) (nb : Nat) (W : World) : Prop := ∃ CA stA sbA sfA, CoreAt W CA g gt most stA sbA sfA gm XA nb ∧ (∀ b, CA b → C b ∨ w2.heap.size ≤ b) ∧ Fr C w2 W
/-- .. and the tables then. -/
structure MidX (X XA : TS) (l : List EntM) (p : PrefixM) : Prop where
  is : XA = if hasE l p then X else X.ownAll p
  wf : ∃ lab, Wf XA.S lab
  n16 : 16 < p.len → (XA.S.t (p.addr / 65536)).block ≠ 0
  n24 : 24 < p.len → (XA.S.v1 (p.addr / 256)).block ≠ 0
theorem midX {X : TS} {l : List EntM} {p : PrefixM} (hi : Inv X l) (hp : okP p) : MidX X (if hasE l p then X else X.ownAll p) l p := by
  obtain ⟨lab, hw⟩ := hi.wf
  cases hh : hasE l p with
  | true =>
    obtain ⟨y, hy, hyp⟩ : ∃ y ∈ l, y.p = p := by
      obtain ⟨y, hy, hyp⟩ := hasE_some hh
      exact ⟨y, List.mem_of_getElem? hy, hyp⟩
    obtain ⟨h1, h2⟩ := need_blocks (l := l) hp hi.inu (fun o ho => hi.cnt.mem hy (by rw [hyp]; exact ho))
    exact ⟨by rw [hh], ⟨lab, hw⟩, h1, h2⟩
  | false =>
    obtain ⟨w1, u1, _, o1⟩ := own_all hw hi.inu hi.cnt.pos hp.lt
    obtain ⟨h1, h2⟩ := need_blocks (X := X.ownAll p) (l := l) hp u1 (fun o ho => by rw [o1, if_pos ho]; simp)
    exact ⟨by rw [hh], w1, h1, h2⟩
/-- How many of the first k blocks nobody owns yet. -/
def NeedAt (w0 : World) (l : List EntM) (p : PrefixM) (iv nv : Value) (wr : World) : Prop := ∃ k : Nat, k ≤ (ownedL p).length ∧ iv = .int .i64 k ∧ nv = .int .i64 (((ownedL p).take k).countP (fun o => decide (cnt l o = 0)) : Nat) ∧ Fr noB w0 wr
theorem cnt_get {l : List EntM} {f : OwnF} (h : CntIs l f) (o : PrefixM) : (f o).getD 0 = ((cnt l o : Nat) : Int) := by
  rw [h o]
  split
  · rename_i e; rw [e]; rfl
  · rfl
set_option maxRecDepth 100000 in
set_option maxHeartbeats 16000000 in
theorem dir_set_ok (w : World) (D : Nat → Prop) (g : Nat) (most : Int) (l : List EntM) (m nb : Nat) (h : DirRep w D g most l m nb) (hm : m + 2 ≤ 1000000) (hnb : nb + 2 ≤ 1000000) (hmost : 0 ≤ most ∧ i64b most) (p : PrefixM) (hp : okP p) (v : Int) (hv : 0 ≤ v) (hv2 : i64b v) :
    Calls Try.prog 41 #[.pointer (some ⟨g, 0, none⟩), .agg p.cells.toArray, .int .i64 v] w (DirTo w D g most (dirX most l p v).l (m + 2) (nb + 2) (.int .i64 (dirX most l p v).e)) := by
  have HX := hide (show dirX most l p v = if hasE l p = true ∨ (needN l p : Int) ≤ most - (ownN l : Int) then ⟨0, putE l p v⟩ else ⟨6, l⟩ from by unfold dirX; rw [if_pos ⟨hp.1, hv⟩])
  have H := hide h; have Hp := hide hp; have Hm := hide hm; have Hnb := hide hnb; have Hmost := hide hmost
  obtain ⟨⟨Ft, C, gt, hT, hC, hdis, hFD, hCD⟩, hDl⟩ := h
  have HT := hide hT; have HC := hide hC; have Hdis := hide hdis; have HFD := hide hFD; have HCD := hide hCD; have HDl := hide hDl
  clear hT hC hdis hFD hCD hDl hp hm hnb hmost
  have hmf : ∀ (fn : Fn) (first cap : Array Value) (w : World), (Instr.makeFunc fn first cap).run Try.prog w = .ok (.func fn first cap) w := fun _ _ _ _ => rfl
  go_enter Try.func41, Try.ntmps41
  go_upto_region 1 with (fail)
  refine wp_gen (fun W => W.cell? ⟨w.heap.size, 0, none⟩ = some (.pointer (some ⟨g, 0, none⟩)) ∧ CellsAt W (w.heap.size + 1) 0 p.cells ∧ Fr noB w W ∧ w.heap.size + 1 < W.heap.size) ⟨by simp, by (repeat (first | assumption | exact cells_new _ _ _ (by simp) | refine CellsAt.alloc ?_ _ | refine CellsAt.drew ?_ | refine CellsAt.drewN ?_ _)), ((Fr.refl _ _).alloc _).alloc _, by simp⟩ ?_
  rintro w1 ⟨hd1, hc1, hf1, hs1⟩
  have Hf1 := hide hf1; have Hd1 := hide hd1; have Hc1 := hide hc1; have Hs1 := hide hs1
  clear hf1 hs1
  go_wp2_with (refine wpList_load_atw rfl 28 (.tmp 4) rfl (w.heap.size + 1) 0 rfl p.cells hc1 _ Try.underlying28 rfl (by kernel_rfl) ?_)
  refine (addr_Is p Hp.out.2 _).mono ?_
  rintro e w2 ⟨rfl, hf2⟩
  rw [decide_eq_true Hp.out.1]
  have Hf2 := hide (Hf1.out.tr hf2)
  have hd2 : w2.cell? ⟨w.heap.size, 0, none⟩ = some (.pointer (some ⟨g, 0, none⟩)) := (hf2.cell (block_of_cell hd1) (fun h => h)).trans hd1
  have Hc2 := hide (hc1.fr hf2 (fun h => h))
  have Hd2 := hide hd2
  have HC2 := hide (HC.out.fr Hf2.out (fun _ _ h => h)); have HT2 := hide (HT.out.frN Hf2.out)
  have hs2 := hide (show w.heap.size + 1 < w2.heap.size from Nat.lt_of_lt_of_le Hs1.out hf2.size)
  have hlv : ¬ v < 0 := by omega
  clear hf2 hc1 hd1
  go_wp2_with fail
  rw [decide_eq_false (show ¬ v < 0 by omega)]
  refine (dir_once w2 C w.heap.size g gt most l nb HC2.out Hd2.out (by have := hs2.out; omega) (fun hC => by have := HC.out.here.2 _ hC; omega)).mono ?_
  rintro e w3 ⟨rfl, ⟨st, sb, sf, gm, X, hc3, hi3⟩, hf3⟩
  have hCw : ∀ j, ¬ C (w.heap.size + j) := fun j hC => by have := HC.out.here.2 _ hC; omega
  have hd3 : w3.cell? ⟨w.heap.size, 0, none⟩ = some (.pointer (some ⟨g, 0, none⟩)) := (hf3.cell (block_of_cell Hd2.out) (hCw 0)).trans Hd2.out
  have Hc3 := hide (Hc2.out.fr hf3 (hCw 1)); have Hd3 := hide hd3; have Hco3 := hide hc3; have Hi3 := hide hi3; have Hf3 := hide hf3; have HCw := hide hCw
  have HT3 := hide (HT2.out.fr hf3 (fun b hb hC => Hdis.out b hb hC))
  have d0 : ∀ z : Grow w3, z.v.cell? ⟨w.heap.size, 0, none⟩ = some (.pointer (some ⟨g, 0, none⟩)) := fun z => (z.fr.cell (block_of_cell hd3) (fun h => h)).trans hd3
  have g0 : ∀ z : Grow w3, z.v.cell? ⟨g, 0, none⟩ = some (.pointer (some ⟨gt, 0, none⟩)) := fun z => (hc3.blk.fr z.fr (fun h => h)).cell 0
  clear hd2 hd3 hc3 hi3 hf3 hCw hmf
  go_upto_region 4 with (fail)
  refine wp_region_mix (fun W => ∃ z : Grow w3, W = z.v) (by kernel_rfl) (by kernel_rfl) (inGrow (Fr.refl _ _).drew) ?_
  iterate 4 (first | (refine wpMix_skip rfl ?_; simp only [Act.put, List.setIfInBounds_toArray, List.set_cons_succ, List.set_cons_zero]) | (refine wpMix_calm rfl rfl (fun K hK => ?_); go_big_quiet_op; refine hK _ ?_; clear hK K))
  refine wpMix_load_atw rfl 28 (.tmp 4) rfl (w.heap.size + 1) 0 rfl p.cells (fun W hW => by obtain ⟨z, rfl⟩ := hW; exact Hc3.out.fr z.fr (fun h => h)) _ Try.underlying28 rfl (by kernel_rfl) ?_
  simp only [Act.put, List.setIfInBounds_toArray, List.set_cons_succ, List.set_cons_zero]
  refine wpMix_spine rfl rfl (fun K hK => ?_); go_wp2_with fail
  refine (trie_get w3.drew Ft gt l m (HT3.out.frN (Fr.refl noB _).drew) p Hp.out.2).mono ?_
  rintro e w4 ⟨rfl, hf4'⟩
  have hf4 : Fr noB w3 w4 := (Fr.refl _ _).drew.tr hf4'
  refine hK _ _ rfl (inGrow hf4) ?_
  clear hK K hf4' d0 g0
  have Hf4 := hide hf4
  have Hd4 := hide ((hf4.cell (block_of_cell Hd3.out) (fun h => h)).trans Hd3.out)
  have Hc4 := hide (Hc3.out.fr hf4 (fun h => h)); have Hco4 := hide (Hco3.out.frN hf4); have HT4 := hide (HT3.out.frN hf4)
  clear hf4
  cases hget : getE l p with
  | some x =>
    unfold getV
    repeat (first | (refine wpMix_skip rfl ?_; simp only [Act.put, List.setIfInBounds_toArray, List.set_cons_succ, List.set_cons_zero]) | (refine wpMix_calm rfl rfl (fun K hK => ?_); go_big_quiet_op; refine hK _ ?_; clear hK K))
    refine wpMix_nil ?_
    have hyes : hasE l p = true := (hasE_iff HT.out.sorted p).2 ⟨x, ((getE_some HT.out.sorted).1 hget).1, ((getE_some HT.out.sorted).1 hget).2⟩
    have HE := hide (show dirX most l p v = ⟨0, putE l p v⟩ from by rw [HX.out, if_pos (.inl hyes)])
    obtain ⟨wm, hwm⟩ : ∃ wm, w4 = wm := ⟨_, rfl⟩
    subst hwm
    obtain ⟨XA, hXA⟩ : ∃ XA, XA = if hasE l p = true then X else X.ownAll p := ⟨_, rfl⟩
    have HmX := hide (show MidX X XA l p from by rw [hXA]; exact midX Hi3.out Hp.out)
    rw [hyes, if_pos rfl] at hXA
    have HMid : Hid (MidAt w2 C g gt most gm XA (nb + 2) w4) := hide (by
      rw [hXA]
      exact ⟨_, st, sb, sf, Hco4.out.up (by omega) Hnb.out, fun b hb => hb.elim .inl (fun h => .inr h.1), Hf3.out.tr (Hf4.out.mono (fun _ _ h => h.elim))⟩)
    clear hget hyes hXA
    have hmf : ∀ (fn : Fn) (first cap : Array Value) (w : World), (Instr.makeFunc fn first cap).run Try.prog w = .ok (.func fn first cap) w := fun _ _ _ _ => rfl
    obtain ⟨CA, stA, sbA, sfA, hcm, hCA, hfm⟩ := HMid.out
    have HCA := hide hCA; have Hfm := hide hfm; have Hcm := hide hcm
    have hdm : w4.cell? ⟨w.heap.size, 0, none⟩ = some (.pointer (some ⟨g, 0, none⟩)) := (hfm.cell (block_of_cell Hd2.out) (HCw.out 0)).trans Hd2.out
    have Hdm := hide hdm
    have Hpm := hide (Hc2.out.fr hfm (HCw.out 1))
    have HTm := hide (HT2.out.fr hfm (fun b hb hC => Hdis.out b hb hC))
    have d0 : ∀ z : Grow w4, z.v.cell? ⟨w.heap.size, 0, none⟩ = some (.pointer (some ⟨g, 0, none⟩)) := fun z => (z.fr.cell (block_of_cell hdm) (fun h => h)).trans hdm
    have g0 : ∀ z : Grow w4, z.v.cell? ⟨g, 0, none⟩ = some (.pointer (some ⟨gt, 0, none⟩)) := fun z => (hcm.blk.fr z.fr (fun h => h)).cell 0
    have HFno := hide (show ∀ j, ¬ Ft (w.heap.size + j) from fun j h => by have := HT.out.lt _ h; omega)
    have HCFt := hide (show ∀ b, CA b → ¬ Ft b from fun b hb h => by
      have := HT.out.lt b h
      have := Hf2.out.size
      rcases hCA b hb with k | k
      · exact Hdis.out b h k
      · omega)
    clear hcm hCA hfm hdm
    go_upto_region 16 with (fail)
    refine wp_region_mixT 6 (fun W => ∃ z : Grow w4, W = z.v) (by kernel_rfl) (by kernel_rfl) (inGrow (Fr.refl _ _).drew) ?_
    simp only [List.take_succ_cons, List.take_zero, List.drop_succ_cons, List.drop_zero]
    iterate 4 (first | (refine wpMix_skip rfl ?_; simp only [Act.put, List.setIfInBounds_toArray, List.set_cons_succ, List.set_cons_zero]) | (refine wpMix_calm rfl rfl (fun K hK => ?_); go_big_quiet_op; refine hK _ ?_; clear hK K))
    refine wpMix_load_atw rfl 28 (.tmp 4) rfl (w.heap.size + 1) 0 rfl p.cells (fun W hW => by obtain ⟨z, rfl⟩ := hW; exact Hpm.out.fr z.fr (fun h => h)) _ Try.underlying28 rfl (by kernel_rfl) ?_
    simp only [Act.put, List.setIfInBounds_toArray, List.set_cons_succ, List.set_cons_zero]
    iterate 1 (first | (refine wpMix_skip rfl ?_; simp only [Act.put, List.setIfInBounds_toArray, List.set_cons_succ, List.set_cons_zero]) | (refine wpMix_calm rfl rfl (fun K hK => ?_); go_big_quiet_op; refine hK _ ?_; clear hK K))
    refine wpMix_nil ?_
    clear d0 g0
    go_wp2_with fail
    refine (trie_set w4.drew Ft gt l m (HTm.out.frN (Fr.refl noB _).drew) Hm.out p Hp.out v).mono ?_
    rintro e wt ⟨rfl, hTt, hft'⟩
    have hft : Fr Ft w4 wt := (Fr.refl Ft w4).drew.tr hft'
    have Hft := hide hft; have HTt := hide (show Trie wt (gr Ft w4 wt) gt (putE l p v) (m + 2) from hTt)
    have hdt : wt.cell? ⟨w.heap.size, 0, none⟩ = some (.pointer (some ⟨g, 0, none⟩)) := (hft.cell (block_of_cell Hdm.out) (HFno.out 0)).trans Hdm.out
    have hpt := Hpm.out.fr hft (HFno.out 1)
    have Hdt := hide hdt; have Hpt := hide hpt; have Hct := hide (Hcm.out.fr hft HCFt.out)
    clear hft hft' hTt hdt
    go_wp2_with (refine wpList_load_atw rfl 28 (.tmp 4) rfl (w.heap.size + 1) 0 rfl p.cells hpt _ Try.underlying28 rfl (by kernel_rfl) ?_)
    refine (dir_painted p Hp.out.bd v wt).mono ?_
    rintro e w9 ⟨rfl, hf9⟩
    have Hf9 := hide hf9
    clear hf9 hpt
    go_upto_region 18 with (refine wpList_store_new rfl 111 _ _ rfl _ _ (paintTo p v).cells _ rfl rfl (by simp) (by kernel_rfl) rfl (by kernel_rfl) ?_)
    refine wp_gen (fun W => CellsAt W w9.heap.size 0 (paintTo p v).cells ∧ Fr noB w9 W) ⟨by (repeat (first | assumption | exact cells_new _ _ _ (by simp) | refine CellsAt.alloc ?_ _ | refine CellsAt.drew ?_ | refine CellsAt.drewN ?_ _)), (Fr.refl _ _).alloc _⟩ ?_
    rintro w10 ⟨hc10, hf10⟩
    have Hf10 := hide (Hf9.out.tr hf10)
    have hd10 := ((Hf10.out).cell (block_of_cell Hdt.out) (fun h => h)).trans Hdt.out
    have hp10 := Hpt.out.fr Hf10.out (fun h => h)
    have Hco10 := hide (Hct.out.frN Hf10.out)
    have Hc10 := hide hc10
    have hs9 : Hid (wt.heap.size ≤ w9.heap.size) := hide Hf9.out.size
    clear hf10
    simp only [Act.put, List.setIfInBounds_toArray, List.set_cons_succ, List.set_cons_zero]
    go_wp2_with (first | (refine wpList_load_atw rfl 28 (.tmp 4) rfl (w.heap.size + 1) 0 rfl p.cells hp10 _ Try.underlying28 rfl (by kernel_rfl) ?_) | (refine wpList_load_atw rfl 111 (.tmp 12) rfl w9.heap.size 0 rfl (paintTo p v).cells hc10 _ Try.underlying111 rfl (by kernel_rfl) ?_))
    obtain ⟨lab, hlab⟩ := HmX.out.wf
    refine (dir_paint true w9.heap.size (p.len + 1).toNat (paintTo p v) rfl w10 CA g gt most stA sbA sfA gm XA (nb + 2) Hco10.out hlab p Hp.out HmX.out.n16 HmX.out.n24 (Hc10.out 1 _ rfl) (fun hC => by have := Hct.out.lt _ hC; have := hs9.out; omega)).mono ?_
    rintro e w11 ⟨rfl, hc11, hf11⟩
    have Hc11 := hide hc11; have Hf11 := hide hf11
    clear hc11 hf11 hc10 hd10 hp10
    go_wp2_with fail
    go_ret
    have f1 : Fr C w w4 := Fr.trans Hf2.out Hfm.out (fun _ _ h => h.elim) (fun _ _ h => h)
    have f2 : Fr D w wt := Fr.trans f1 Hft.out (fun b _ h => HCD.out b h) (fun b _ h => HFD.out b h)
    have f3 : Fr D w w10 := f2.tr (Hf10.out.mono (fun _ _ h => h.elim))
    have f4 : Fr D w w11 := Fr.trans f3 Hf11.out (fun _ _ h => h) (fun b hb h => by
      have := Hf2.out.size
      rcases HCA.out b h with k | k
      · exact HCD.out b k
      · omega)
    have hX : XA.pntS (Rp XA.S p) (paintTo p v) (fitOf true (p.len + 1).toNat) = X.setP l p v := by
      unfold TS.setP TS.pntS
      simp only
      rw [← HmX.out.is]
      rfl
    have hc := Hc11.out
    rw [hX] at hc
    rw [HE.out]
    refine ⟨rfl, mkRep ((HTt.out.frN Hf10.out).fr Hf11.out (fun b hb hC => by
        rcases hb with k | k
        · exact HCFt.out b hC k
        · have := Hcm.out.lt b hC; omega)) hc (inv_set Hi3.out HT.out.sorted HT.out.ok Hp.out v) (fun b hb hC => by
        rcases hb with k | k
        · exact HCFt.out b hC k
        · have := Hcm.out.lt b hC; omega) (fun b hb => by
        have := f1.size
        rcases hb with k | k
        · exact .inl (HFD.out b k)
        · exact .inr (by omega)) (fun b hb => by
        have := Hf2.out.size
        rcases HCA.out b hb with k | k
        · exact .inl (HCD.out b k)
        · exact .inr (by omega)) HDl.out f4.size, f4⟩
  | none =>
    unfold getV
    repeat (first | (refine wpMix_skip rfl ?_; simp only [Act.put, List.setIfInBounds_toArray, List.set_cons_succ, List.set_cons_zero]) | (refine wpMix_calm rfl rfl (fun K hK => ?_); go_big_quiet_op; refine hK _ ?_; clear hK K))
    refine wpMix_nil ?_
    have hno : hasE l p = false := by
      cases hh : hasE l p with
      | false => rfl
      | true =>
        obtain ⟨y, hy, hyp⟩ := (hasE_iff HT.out.sorted p).1 hh
        have := (getE_some HT.out.sorted).2 ⟨hy, hyp⟩
        rw [hget] at this
        simp at this
    have Hno := hide hno
    clear hno hget
    have hc4 := Hc4.out
    go_wp2_with (refine wpList_load_atw rfl 28 (.tmp 4) rfl (w.heap.size + 1) 0 rfl p.cells hc4 _ Try.underlying28 rfl (by kernel_rfl) ?_)
    refine (dir_owned p Hp.out.2 w4).mono ?_
    rintro e w5 ⟨⟨s5a, s5l, s5c⟩, rfl, hn5, hf5⟩
    have hl5 : s5l = (ownedL p).length := hn5.len
    have h52 : s5l ≤ 2 := by have := owned_len p; omega
    have Hn5 := hide hn5; have Hl5 := hide hl5; have Hf5 := hide hf5
    have Hd5 := hide ((hf5.cell (block_of_cell Hd4.out) (fun h => h)).trans Hd4.out)
    have Hc5 := hide (Hc4.out.fr hf5 (fun h => h)); have Hco5 := hide (Hco4.out.frN hf5); have HT5 := hide (HT4.out.frN hf5)
    clear hn5 hl5 hf5 hc4
    go_wp2_with fail
    go_loopw [43, 9] (NeedAt w5 l p) (fun i _ _ => s5l - (intOf i).toNat)
    case atStart => exact ⟨0, Nat.zero_le _, rfl, rfl, Fr.refl _ _⟩
    case round =>
      obtain ⟨k, hk, rfl, rfl, hfr⟩ := hrel
      have Hfr := hide hfr
      clear hfr
      by_cases hlt : k < s5l
      · have hx : (ownedL p)[k]? = some ((ownedL p)[k]'(by have := Hl5.out; omega)) := List.getElem?_eq_getElem _
        generalize (ownedL p)[k] = o at hx
        obtain ⟨b, hb, _, hcx, _⟩ := own_at (Hn5.out.fr Hfr.out).1 PrefixM.length hx
        simp only at hb
        subst hb
        have hmul : ((k : Int) * 2).toNat = k * 2 := by omega
        have Hx := hide hx; have Hlt := hide hlt
        have hk5 : k + 1 ≤ (ownedL p).length := by have := Hl5.out; omega
        have hcp : ((ownedL p).take k).countP (fun o => decide (cnt l o = 0)) ≤ 2 := Nat.le_trans (List.countP_le_length) (by rw [List.length_take]; omega)
        obtain ⟨c, hc⟩ : ∃ c, ((ownedL p).take k).countP (fun o => decide (cnt l o = 0)) = c := ⟨_, rfl⟩
        rw [hc] at hcp
        have hc1 : ((ownedL p).take (k + 1)).countP (fun o => decide (cnt l o = 0)) = c + if cnt l o = 0 then 1 else 0 := by
          rw [List.take_add_one, hx, List.countP_append, hc]
          simp [List.countP_cons]
        have Hc := hide hc; have Hc1 := hide hc1; have Hk5 := hide hk5
        rw [hc]
        clear hx hk hc hc1 hk5
        go_upto_region 10 with (first | (refine wpList_load_atw rfl 28 (.tmp 45) rfl b (k * 2) (by go_simp) o.cells hcx _ Try.underlying28 rfl (by kernel_rfl) ?_) | (refine wpList_store_new rfl 28 _ _ rfl _ _ (PrefixM.cells _) _ rfl rfl (by simp) (by kernel_rfl) rfl (by kernel_rfl) ?_))
        refine wp_gen (fun W => CellsAt W wr.heap.size 0 o.cells ∧ Fr noB wr W) ⟨by (repeat (first | assumption | exact cells_new _ _ _ (by simp) | refine CellsAt.alloc ?_ _ | refine CellsAt.drew ?_ | refine CellsAt.drewN ?_ _)), by first | exact (Fr.refl _ _).alloc _ | exact ((Fr.refl _ _).alloc _).drew⟩ ?_
        rintro w6 ⟨hc6, hf6⟩
        have Hc6 := hide hc6; have Hf6 := hide (Hfr.out.tr hf6)
        have hco6 := Hco5.out.frN Hf6.out
        have hd6 := (Hf6.out.cell (block_of_cell Hd5.out) (fun h => h)).trans Hd5.out
        have d0 : ∀ z : Grow w6, z.v.cell? ⟨w.heap.size, 0, none⟩ = some (.pointer (some ⟨g, 0, none⟩)) := fun z => (z.fr.cell (block_of_cell hd6) (fun h => h)).trans hd6
        have g7 : ∀ z : Grow w6, z.v.cell? ⟨g, 7, none⟩ = some (.map (some gm)) := fun z => (hco6.blk.fr z.fr (fun h => h)).cell 7
        have Hco6 := hide hco6
        clear hc6 hf6 hco6 hd6 hcx
        simp only [Act.put, List.setIfInBounds_toArray, List.set_cons_succ, List.set_cons_zero]
        refine wp_region_mix (fun W => ∃ z : Grow w6, W = z.v) (by kernel_rfl) (by kernel_rfl) (inGrow (Fr.refl _ _).drew) ?_
        iterate 4 (first | (refine wpMix_skip rfl ?_; simp only [Act.put, List.setIfInBounds_toArray, List.set_cons_succ, List.set_cons_zero]) | (refine wpMix_calm rfl rfl (fun K hK => ?_); go_big_quiet_op; refine hK _ ?_; clear hK K))
        refine wpMix_load_atw rfl 28 (.tmp 11) rfl wr.heap.size 0 rfl o.cells (fun W hW => by obtain ⟨z, rfl⟩ := hW; exact Hc6.out.fr z.fr (fun h => h)) _ Try.underlying28 rfl (by kernel_rfl) ?_
        simp only [Act.put, List.setIfInBounds_toArray, List.set_cons_succ, List.set_cons_zero]
        refine wpMix_klook rfl (.tmp 50) (.tmp 51) rfl prefix_fit Try.underlying90 rfl o rfl rfl ((cnt l o : Nat) : Int) (fun W hW => by obtain ⟨z, rfl⟩ := hW; exact ⟨_, _, Hco6.out.map.fr z.fr (fun h => h), cnt_get Hi3.out.cnt o⟩) ?_
        simp only [Act.put, List.setIfInBounds_toArray, List.set_cons_succ, List.set_cons_zero]
        iterate 1 (first | (refine wpMix_skip rfl ?_; simp only [Act.put, List.setIfInBounds_toArray, List.set_cons_succ, List.set_cons_zero]) | (refine wpMix_calm rfl rfl (fun K hK => ?_); go_big_quiet_op; refine hK _ ?_; clear hK K))
        refine wpMix_nil ?_
        clear d0 g7
        by_cases h0 : cnt l o = 0
        case' pos =>
          rw [show (((cnt l o : Nat) : Int) == 0) = true from by simp [h0]]
          rw [if_pos h0] at Hc1
        case' neg =>
          rw [show (((cnt l o : Nat) : Int) == 0) = false from by simp [h0]]
          rw [if_neg h0, Nat.add_zero] at Hc1
        all_goals
          clear h0
          go_wp2_with fail
          go_roundw
          case rel => exact ⟨k + 1, Hk5.out, by go_num, by rw [Hc1.out] <;> go_num, Hf6.out.drew⟩
          case measure => simp [intOf]; omega
      · obtain rfl : k = s5l := by have := Hl5.out; omega
        have hnd : ((ownedL p).take k).countP (fun o => decide (cnt l o = 0)) = needN l p := by unfold needN; rw [Hl5.out, List.take_length]
        rw [hnd]
        have hn2 : needN l p ≤ 2 := Nat.le_trans List.countP_le_length (owned_len p)
        obtain ⟨c, hc⟩ : ∃ c, needN l p = c := ⟨_, rfl⟩
        rw [hc] at hn2 ⊢
        have hco6 := Hco5.out.frN Hfr.out
        have hd6 := (Hfr.out.cell (block_of_cell Hd5.out) (fun h => h)).trans Hd5.out
        have d0 : ∀ z : Grow wr, z.v.cell? ⟨w.heap.size, 0, none⟩ = some (.pointer (some ⟨g, 0, none⟩)) := fun z => (z.fr.cell (block_of_cell hd6) (fun h => h)).trans hd6
        have g7 : ∀ z : Grow wr, z.v.cell? ⟨g, 7, none⟩ = some (.map (some gm)) := fun z => (hco6.blk.fr z.fr (fun h => h)).cell 7
        have g8 : ∀ z : Grow wr, z.v.cell? ⟨g, 8, none⟩ = some (.int .i64 most) := fun z => (hco6.blk.fr z.fr (fun h => h)).cell 8
        have hon : X.n = ownN l := own_count Hco5.out.map Hi3.out.cnt
        have hob := ownN_le l
        have hll := HT5.out.le
        obtain ⟨q, hq⟩ : ∃ q, ownN l = q := ⟨_, rfl⟩
        have Hq := hide hq; have Hc := hide hc; have Hco6 := hide hco6; have Hd6 := hide hd6
        have hqb : q ≤ 2000000 := by omega
        have hm0 := Hmost.out.1
        have hm1 : most < 9223372036854775808 := by have := Hmost.out.2; unfold i64b at this; omega
        have Hn := hide (show KMapS PrefixM.cells wr gm q X.own from by have := hco6.map; rw [hon, hq] at this; exact this)
        clear hnd hc hco6 hd6 hon hob hll hq hlt hk
        go_upto_region 13 with (fail)
        refine wp_region_mix (fun W => ∃ z : Grow wr, W = z.v) (by kernel_rfl) (by kernel_rfl) (inGrow (Fr.refl _ _).drew) ?_
        iterate 9 (first | (refine wpMix_skip rfl ?_; simp only [Act.put, List.setIfInBounds_toArray, List.set_cons_succ, List.set_cons_zero]) | (refine wpMix_calm rfl rfl (fun K hK => ?_); go_big_quiet_op; refine hK _ ?_; clear hK K))
        refine wpMix_klen (cells := PrefixM.cells) rfl (.tmp 65) rfl Try.underlying90 rfl (fun W hW => by obtain ⟨z, rfl⟩ := hW; exact ⟨_, Hn.out.fr z.fr (fun h => h)⟩) ?_
        simp only [Act.put, List.setIfInBounds_toArray, List.set_cons_succ, List.set_cons_zero]
        iterate 2 (first | (refine wpMix_skip rfl ?_; simp only [Act.put, List.setIfInBounds_toArray, List.set_cons_succ, List.set_cons_zero]) | (refine wpMix_calm rfl rfl (fun K hK => ?_); go_big_quiet_op; refine hK _ ?_; clear hK K))
        refine wpMix_nil ?_
        clear d0 g7 g8
        by_cases hroom : (c : Int) ≤ most - (q : Int)
        · rw [decide_eq_false (show ¬ most - (q : Int) < (c : Int) by omega)]
          have HE := hide (show dirX most l p v = ⟨0, putE l p v⟩ from by rw [HX.out, if_pos (.inr (by rw [Hc.out, Hq.out]; exact hroom))])
          clear hroom
          have hd6 := Hd6.out
          have hp6 := Hc5.out.fr Hfr.out.drew (fun h => h)
          go_wp2_with (refine wpList_load_atw rfl 28 (.tmp 4) rfl (w.heap.size + 1) 0 rfl p.cells hp6 _ Try.underlying28 rfl (by kernel_rfl) ?_)
          obtain ⟨lab0, hw0⟩ := Hi3.out.wf
          refine (dir_own wr.drew _ g gt most st sb sf gm X nb (Hco6.out.frN (Fr.refl noB _).drew) Hnb.out hw0 Hi3.out.inu p Hp.out Hp.out.2).mono ?_
          rintro e wm ⟨rfl, ⟨sbm, sfm, hcm⟩, hfm⟩
          obtain ⟨XA, hXA⟩ : ∃ XA, XA = if hasE l p = true then X else X.ownAll p := ⟨_, rfl⟩
          have HmX := hide (show MidX X XA l p from by rw [hXA]; exact midX Hi3.out Hp.out)
          rw [Hno.out, if_neg (by simp)] at hXA
          have HMid : Hid (MidAt w2 C g gt most gm XA (nb + 2) wm) := hide (by
            have f0 : Fr C w2 wr := Hf3.out.tr ((Hf4.out.tr (Hf5.out.tr Hfr.out)).mono (fun _ _ h => h.elim))
            have hsz := f0.size
            have hs3 := Hf3.out.size
            have hcc : ∀ b, gr (gr C w2 w3) wr.drew wm b → C b ∨ w2.heap.size ≤ b := fun b hb => by
              have : wr.drew.heap.size = wr.heap.size := rfl
              rcases hb with (k | k) | k
              · exact .inl k
              · exact .inr k.1
              · exact .inr (by omega)
            refine ⟨_, st, sbm, sfm, by rw [hXA]; exact hcm, hcc, Fr.trans f0.drew hfm (fun _ _ h => h) (fun b hb h => ?_)⟩
            rcases h with k | k
            · exact k
            · omega)
          clear hd6 hp6 hcm hfm hXA hw0
          have hmf : ∀ (fn : Fn) (first cap : Array Value) (w : World), (Instr.makeFunc fn first cap).run Try.prog w = .ok (.func fn first cap) w := fun _ _ _ _ => rfl
          obtain ⟨CA, stA, sbA, sfA, hcm, hCA, hfm⟩ := HMid.out
          have HCA := hide hCA; have Hfm := hide hfm; have Hcm := hide hcm
          have hdm : wm.cell? ⟨w.heap.size, 0, none⟩ = some (.pointer (some ⟨g, 0, none⟩)) := (hfm.cell (block_of_cell Hd2.out) (HCw.out 0)).trans Hd2.out
          have Hdm := hide hdm
          have Hpm := hide (Hc2.out.fr hfm (HCw.out 1))
          have HTm := hide (HT2.out.fr hfm (fun b hb hC => Hdis.out b hb hC))
          have d0 : ∀ z : Grow wm, z.v.cell? ⟨w.heap.size, 0, none⟩ = some (.pointer (some ⟨g, 0, none⟩)) := fun z => (z.fr.cell (block_of_cell hdm) (fun h => h)).trans hdm
          have g0 : ∀ z : Grow wm, z.v.cell? ⟨g, 0, none⟩ = some (.pointer (some ⟨gt, 0, none⟩)) := fun z => (hcm.blk.fr z.fr (fun h => h)).cell 0
          have HFno := hide (show ∀ j, ¬ Ft (w.heap.size + j) from fun j h => by have := HT.out.lt _ h; omega)
          have HCFt := hide (show ∀ b, CA b → ¬ Ft b from fun b hb h => by
            have := HT.out.lt b h
            have := Hf2.out.size
            rcases hCA b hb with k | k
            · exact Hdis.out b h k
            · omega)
          clear hcm hCA hfm hdm
          go_upto_region 16 with (fail)
          refine wp_region_mixT 6 (fun W => ∃ z : Grow wm, W = z.v) (by kernel_rfl) (by kernel_rfl) (inGrow (Fr.refl _ _).drew) ?_
          simp only [List.take_succ_cons, List.take_zero, List.drop_succ_cons, List.drop_zero]
          iterate 4 (first | (refine wpMix_skip rfl ?_; simp only [Act.put, List.setIfInBounds_toArray, List.set_cons_succ, List.set_cons_zero]) | (refine wpMix_calm rfl rfl (fun K hK => ?_); go_big_quiet_op; refine hK _ ?_; clear hK K))
          refine wpMix_load_atw rfl 28 (.tmp 4) rfl (w.heap.size + 1) 0 rfl p.cells (fun W hW => by obtain ⟨z, rfl⟩ := hW; exact Hpm.out.fr z.fr (fun h => h)) _ Try.underlying28 rfl (by kernel_rfl) ?_
          simp only [Act.put, List.setIfInBounds_toArray, List.set_cons_succ, List.set_cons_zero]
          iterate 1 (first | (refine wpMix_skip rfl ?_; simp only [Act.put, List.setIfInBounds_toArray, List.set_cons_succ, List.set_cons_zero]) | (refine wpMix_calm rfl rfl (fun K hK => ?_); go_big_quiet_op; refine hK _ ?_; clear hK K))
          refine wpMix_nil ?_
          clear d0 g0
          go_wp2_with fail
          refine (trie_set wm.drew Ft gt l m (HTm.out.frN (Fr.refl noB _).drew) Hm.out p Hp.out v).mono ?_
          rintro e wt ⟨rfl, hTt, hft'⟩
          have hft : Fr Ft wm wt := (Fr.refl Ft wm).drew.tr hft'
          have Hft := hide hft; have HTt := hide (show Trie wt (gr Ft wm wt) gt (putE l p v) (m + 2) from hTt)
          have hdt : wt.cell? ⟨w.heap.size, 0, none⟩ = some (.pointer (some ⟨g, 0, none⟩)) := (hft.cell (block_of_cell Hdm.out) (HFno.out 0)).trans Hdm.out
          have hpt := Hpm.out.fr hft (HFno.out 1)
          have Hdt := hide hdt; have Hpt := hide hpt; have Hct := hide (Hcm.out.fr hft HCFt.out)
          clear hft hft' hTt hdt
          go_wp2_with (refine wpList_load_atw rfl 28 (.tmp 4) rfl (w.heap.size + 1) 0 rfl p.cells hpt _ Try.underlying28 rfl (by kernel_rfl) ?_)
          refine (dir_painted p Hp.out.bd v wt).mono ?_
          rintro e w9 ⟨rfl, hf9⟩
          have Hf9 := hide hf9
          clear hf9 hpt
          go_upto_region 18 with (refine wpList_store_new rfl 111 _ _ rfl _ _ (paintTo p v).cells _ rfl rfl (by simp) (by kernel_rfl) rfl (by kernel_rfl) ?_)
          refine wp_gen (fun W => CellsAt W w9.heap.size 0 (paintTo p v).cells ∧ Fr noB w9 W) ⟨by (repeat (first | assumption | exact cells_new _ _ _ (by simp) | refine CellsAt.alloc ?_ _ | refine CellsAt.drew ?_ | refine CellsAt.drewN ?_ _)), (Fr.refl _ _).alloc _⟩ ?_
          rintro w10 ⟨hc10, hf10⟩
          have Hf10 := hide (Hf9.out.tr hf10)
          have hd10 := ((Hf10.out).cell (block_of_cell Hdt.out) (fun h => h)).trans Hdt.out
          have hp10 := Hpt.out.fr Hf10.out (fun h => h)
          have Hco10 := hide (Hct.out.frN Hf10.out)
          have Hc10 := hide hc10
          have hs9 : Hid (wt.heap.size ≤ w9.heap.size) := hide Hf9.out.size
          clear hf10
          simp only [Act.put, List.setIfInBounds_toArray, List.set_cons_succ, List.set_cons_zero]
          go_wp2_with (first | (refine wpList_load_atw rfl 28 (.tmp 4) rfl (w.heap.size + 1) 0 rfl p.cells hp10 _ Try.underlying28 rfl (by kernel_rfl) ?_) | (refine wpList_load_atw rfl 111 (.tmp 12) rfl w9.heap.size 0 rfl (paintTo p v).cells hc10 _ Try.underlying111 rfl (by kernel_rfl) ?_))
          obtain ⟨lab, hlab⟩ := HmX.out.wf
          refine (dir_paint true w9.heap.size (p.len + 1).toNat (paintTo p v) rfl w10 CA g gt most stA sbA sfA gm XA (nb + 2) Hco10.out hlab p Hp.out HmX.out.n16 HmX.out.n24 (Hc10.out 1 _ rfl) (fun hC => by have := Hct.out.lt _ hC; have := hs9.out; omega)).mono ?_
          rintro e w11 ⟨rfl, hc11, hf11⟩
          have Hc11 := hide hc11; have Hf11 := hide hf11
          clear hc11 hf11 hc10 hd10 hp10
          go_wp2_with fail
          go_ret
          have f1 : Fr C w wm := Fr.trans Hf2.out Hfm.out (fun _ _ h => h.elim) (fun _ _ h => h)
          have f2 : Fr D w wt := Fr.trans f1 Hft.out (fun b _ h => HCD.out b h) (fun b _ h => HFD.out b h)
          have f3 : Fr D w w10 := f2.tr (Hf10.out.mono (fun _ _ h => h.elim))
          have f4 : Fr D w w11 := Fr.trans f3 Hf11.out (fun _ _ h => h) (fun b hb h => by
            have := Hf2.out.size
            rcases HCA.out b h with k | k
            · exact HCD.out b k
            · omega)
          have hX : XA.pntS (Rp XA.S p) (paintTo p v) (fitOf true (p.len + 1).toNat) = X.setP l p v := by
            unfold TS.setP TS.pntS
            simp only
            rw [← HmX.out.is]
            rfl
          have hc := Hc11.out
          rw [hX] at hc
          rw [HE.out]
          refine ⟨rfl, mkRep ((HTt.out.frN Hf10.out).fr Hf11.out (fun b hb hC => by
              rcases hb with k | k
              · exact HCFt.out b hC k
              · have := Hcm.out.lt b hC; omega)) hc (inv_set Hi3.out HT.out.sorted HT.out.ok Hp.out v) (fun b hb hC => by
              rcases hb with k | k
              · exact HCFt.out b hC k
              · have := Hcm.out.lt b hC; omega) (fun b hb => by
              have := f1.size
              rcases hb with k | k
              · exact .inl (HFD.out b k)
              · exact .inr (by omega)) (fun b hb => by
              have := Hf2.out.size
              rcases HCA.out b hb with k | k
              · exact .inl (HCD.out b k)
              · exact .inr (by omega)) HDl.out f4.size, f4⟩
        · rw [decide_eq_true (show most - (q : Int) < (c : Int) by omega)]
          have HE := hide (show dirX most l p v = ⟨6, l⟩ from by rw [HX.out, if_neg (by rw [Hc.out, Hq.out, Hno.out]; simp only [Bool.false_eq_true, false_or]; exact hroom)])
          clear hroom
          go_wp2_with fail
          go_ret
          have hF : Fr C w wr := Fr.trans Hf2.out (Hf3.out.tr ((Hf4.out.tr (Hf5.out.tr Hfr.out)).mono (fun _ _ h => h.elim))) (fun _ _ h => h.elim) (fun _ _ h => h)
          rw [HE.out]
          refine ⟨rfl, ?_, hF.drew.mono (fun b _ h => HCD.out b h)⟩
          have hrep : DirRep wr (gr D w wr) g most l m nb := mkRep (HT5.out.frN Hfr.out) Hco6.out Hi3.out (fun b hb h => by
            have := HT.out.lt b hb
            have := Hf2.out.size
            rcases h with h | h
            · exact Hdis.out b hb h
            · omega) (fun b hb => .inl (HFD.out b hb)) (fun b hb => by
            have := Hf2.out.size
            rcases hb with h | h
            · exact .inl (HCD.out b h)
            · exact .inr (by omega)) HDl.out hF.size
          exact (hrep.fr (Fr.refl noB _).drew (fun _ _ h => h)).up (by omega) (by omega) Hnb.out
end Go.Proofs.Ytgjabgneapdbiaa

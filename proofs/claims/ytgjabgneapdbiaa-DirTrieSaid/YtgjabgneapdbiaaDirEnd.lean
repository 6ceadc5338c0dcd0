/- dir.New, Blocks, Len. Dir.Del. Dir.Look; a Dir that is nil. The arguments of chapter 10's laws, opened. Chapter 10's known Dir. -/
import Derived.Test.YtgjabgneapdbiaaDirSet
namespace Go.Proofs.Ytgjabgneapdbiaa
open Go.RowKit Go.BigFrame
set_option linter.unusedSimpArgs false
set_option linter.unusedVariables false
attribute [local irreducible] wpMix wpAnyG
attribute [local irreducible] tabN

theorem wpList_klen {α : Type} [DecidableEq α] {P : Program} {ops : Array Oper} {mt kt et : TypeId} {cells : α → List Value} {b n : Nat} {f : α → Option Int} {Q : Exit → Act → World → Prop} {o : Oper} {rest : List Oper} {a : Act} {w : World} (hg : o.guard = none) (m : Operand)
    (ho : o.op = .call { callee := .builtin .len, args := #[m], argTypes := #[mt] }) (ht : P.underlying mt = some (.map kt et)) (hm : a.eval m = .map (some b)) (hk : KMapS cells w b n f)
    (h : wpList P ops Q rest (a.put o.dst (.int .i64 n)) w) : wpList P ops Q (o :: rest) a w :=
  wpList_plain hg fun _ hK => by
    have := hk.kmap.len (ty := o.type) ht
    unfold Oper.wp execOp
    simp only [ho, resolve, invoke, builtin, Sem.run_bind, Sem.run_pure, Result.andThen_ok, List.map_toArray, List.map_cons, List.map_nil, hm, this]
    exact hK _ _ h
theorem dir_blocks (w : World) (D : Nat → Prop) (g : Nat) (most : Int) (l : List EntM) (m nb : Nat) (h : DirRep w D g most l m nb) :
    Calls Try.prog 43 #[.pointer (some ⟨g, 0, none⟩)] w fun e w' => e = .returned (.int .i64 (ownN l : Nat)) ∧ w' = w := by
  obtain ⟨⟨Ft, C, gt, hT, hC, _⟩, _⟩ := h
  obtain ⟨_, gm, f, h7, hk, _⟩ := hC.head
  have Hk := hide hk
  clear hT hC hk
  go_enter Try.func43, Try.ntmps43
  go_wp2_with (refine wpList_klen (cells := PrefixM.cells) rfl (.tmp 8) rfl Try.underlying90 rfl Hk.out ?_)
  go_ret
  exact ⟨rfl, rfl⟩
theorem dir_blocks_nil (w : World) : Calls Try.prog 43 #[.pointer none] w fun e w' => e = .returned (.int .i64 0) ∧ w' = w := by
  go_enter Try.func43, Try.ntmps43
  go_wp2_with fail
  go_ret
  exact ⟨rfl, rfl⟩
theorem dir_len (w : World) (D : Nat → Prop) (g : Nat) (most : Int) (l : List EntM) (m nb : Nat) (h : DirRep w D g most l m nb) :
    Calls Try.prog 51 #[.pointer (some ⟨g, 0, none⟩)] w fun e w' => e = .returned (.int .i64 (l.length : Nat)) ∧ w' = w := by
  obtain ⟨⟨Ft, C, gt, hT, hC, _⟩, _⟩ := h
  obtain ⟨h0, _⟩ := hC.head
  have HT := hide hT
  clear hT hC
  go_enter Try.func51, Try.ntmps51
  go_wp2_with fail
  refine (trie_len w Ft gt l m HT.out).mono ?_
  rintro e w' ⟨rfl, rfl⟩
  go_wp2_with fail
  go_ret
  exact ⟨rfl, rfl⟩
theorem dir_len_nil (w : World) : Calls Try.prog 51 #[.pointer none] w fun e w' => e = .returned (.int .i64 0) ∧ w' = w := by
  go_enter Try.func51, Try.ntmps51
  go_wp2_with fail
  go_ret
  exact ⟨rfl, rfl⟩
set_option maxRecDepth 100000 in
set_option maxHeartbeats 1000000 in
theorem dir_new (w : World) (n : Int) (hn : i64b n) : Calls Try.prog 40 #[.int .i64 n] w fun e w' => ∃ g, e = .returned (.pointer (some ⟨g, 0, none⟩)) ∧ DirRep w' (newF w w') g (max n 0) [] 1 0 ∧ Fr noB w w' := by
  have hmx := run_max_int Try.prog
  have hmm := @run_makeMap Try.prog
  go_enter Try.func40, Try.ntmps40
  go_wp2_with fail
  refine (trie_new w).mono ?_
  rintro e w1 ⟨gt, rfl, hT, hf⟩
  have HT := hide hT; have Hf := hide hf
  clear hT hf
  go_wp2_with fail
  go_ret
  have hb : Blk ((w1.alloc (.map #[] 0)).alloc (.cells (dirC gt 0 nilS nilS nilS w1.heap.size (max n 0)).toArray 106)) (w1.heap.size + 1) (dirC gt 0 nilS nilS nilS w1.heap.size (max n 0)).toArray 106 := by
    have := Blk.alloc_new (w1.alloc (.map #[] 0)) (dirC gt 0 nilS nilS nilS w1.heap.size (max n 0)).toArray 106
    rw [World.size_alloc] at this
    exact this
  have hk := (KMapS.new PrefixM.cells w1).fr ((Fr.refl noB (w1.alloc (.map #[] 0))).alloc (.cells (dirC gt 0 nilS nilS nilS w1.heap.size (max n 0)).toArray 106)) (fun h => h)
  have hsz := Hf.out.size
  refine ⟨w1.heap.size + 1, rfl, ⟨⟨newF w w1, fun b => w1.heap.size ≤ b ∧ b < w1.heap.size + 2, gt, HT.out.frN (((Fr.refl _ _).alloc _).alloc _), .bare w1.heap.size hb hk ⟨by omega, by omega⟩ (fun b h => by simp; omega) rfl (by decide), fun b h1 h2 => by unfold newF at h1; omega, fun b h => ?_, fun b h => ?_⟩, fun b h => h.2⟩, Hf.out.tr (((Fr.refl _ _).alloc _).alloc _)⟩
  · unfold newF at *
    refine ⟨h.1, ?_⟩
    simp
    omega
  · unfold newF
    refine ⟨by omega, ?_⟩
    simp
    omega
end Go.Proofs.Ytgjabgneapdbiaa

namespace Go.Proofs.Ytgjabgneapdbiaa
open Go.RowKit Go.BigFrame
set_option linter.unusedSimpArgs false
set_option linter.unusedVariables false
attribute [local irreducible] wpMix wpAnyG
attribute [local irreducible] tabN

/-- Del, behind the painting. -/
def TS.unP (X : TS) (l : List EntM) (p : PrefixM) : TS := { X with S := pnt (Rp X.S p) (upTop (delE l p) p) (fun d => decide (d = (p.len + 1).toNat)) X.S }
structure UnP (X : TS) (l : List EntM) (p : PrefixM) : Prop where
  n16 : 16 < p.len → (X.S.t (p.addr / 65536)).block ≠ 0
  n24 : 24 < p.len → (X.S.v1 (p.addr / 256)).block ≠ 0
  top : (upTop (delE l p) p).block = 0
  wf : ∃ lab, Wf X.S lab
  dis : ∀ k o, (ownedL p).reverse[k]? = some o → DisAt (dnO (X.unP l p) p k) o
  inv : Inv ((X.unP l p).disAll p) (delE l p)
theorem unP {X : TS} {l : List EntM} (I : Inv X l) (hs : SortedE l) (hok : ∀ x ∈ l, okP x.p) {p : PrefixM} (hp : okP p) (hh : hasE l p = true) : UnP X l p := by
  obtain ⟨lab, w⟩ := I.wf
  have hb := hp.bd
  have hplt := hp.lt
  have hs' := del_E_sorted hs p
  have hok' : ∀ x ∈ delE l p, okP x.p := fun x hx => hok x ((del_E_mem hs p x).1 hx).1
  obtain ⟨y, hy, hyp⟩ := (hasE_iff hs p).1 hh
  have htp : (upTop (delE l p) p).block = 0 := by unfold upTop; split <;> rfl
  obtain ⟨n16, n24⟩ := need_blocks (l := l) hp I.inu (fun o ho => I.cnt.mem hy (by rw [hyp]; exact ho))
  -- behind the painting
  have hlk : ∀ a, a < 4294967296 → PlOk ((pnt (Rp X.S p) (upTop (delE l p) p) (fun d => decide (d = (p.len + 1).toNat)) X.S).lk a) (longE (delE l p) a) := fun a ha => by
    rw [paint_lk w hp n16 n24 htp _ ha]
    have hl := I.lk a ha
    obtain ⟨g1, g2⟩ := long_del hs hok hp ha
    by_cases hi : inP p a ∧ decide ((X.S.lk a).deep = (p.len + 1).toNat) = true
    · rw [if_pos hi]
      obtain ⟨h1, h2⟩ := hi
      rw [decide_eq_true_eq] at h2
      obtain ⟨e, he, hd, _⟩ := hl.deep.1 ⟨h2, by omega⟩
      have hem := long_mem hs hok ha he
      have hep : e.p = p := same_len (hok e hem.1) hp hem.2.1 h1 (by omega)
      rw [g1 e he hep]
      unfold upTop
      cases hlast : (pathX (delE l p) p).getLast? with
      | none => rfl
      | some q =>
        have hq := (pathX_last hs' hok' hp.2 hlast).1
        have := (hok' q (pathX_mem hq).1).bd
        exact ⟨by show (((q.p.len + 1).toNat : Nat) : Int) = _; omega, rfl⟩
    · rw [if_neg hi]
      rw [g2 (fun x hx e => ?_)]
      · exact hl
      · have hem := long_mem hs hok ha hx
        refine hi ⟨by rw [← e]; exact hem.2.1, ?_⟩
        rw [decide_eq_true_eq]
        rw [hx] at hl
        simp only [PlOk] at hl
        rw [e] at hl
        omega
  have hw1 := pnt_wf w htp (fun d => decide (d = (p.len + 1).toNat)) (Rp X.S p)
  have hu1 := inu_pnt I.inu htp (fun d => decide (d = (p.len + 1).toNat)) (Rp X.S p)
  refine ⟨n16, n24, htp, ⟨lab, w⟩, fun k o h => dis_upto (X1 := X.unP l p) (l := l) hw1 hu1 hok' hlk I.cnt hh hplt k o h, inv_del I hs hok hp hh⟩
theorem field_deep (a b : Int) (d : Nat) (w : World) : (Instr.field 111 (.agg #[.int .i64 a, .int .i16 (d : Nat), .int .i32 b]) 1).run Try.prog w = .ok (.int .i16 (d : Nat)) w := by
  kernel_rfl
set_option maxRecDepth 100000 in
set_option maxHeartbeats 16000000 in
theorem dir_del (w : World) (D : Nat → Prop) (g : Nat) (most : Int) (l : List EntM) (m nb : Nat) (h : DirRep w D g most l m nb) (hnb : nb + 2 ≤ 1000000) (p : PrefixM) (hp : p.wf) :
    Calls Try.prog 49 #[.pointer (some ⟨g, 0, none⟩), .agg p.cells.toArray] w (DirTo w D g most (delE l p) m (nb + 2) (.bool (hasE l p))) := by
  obtain ⟨⟨Ft, C, gt, hT, hC, hdis, hFD, hCD⟩, hDl⟩ := h
  have HT := hide hT; have HC := hide hC; have Hdis := hide hdis; have HFD := hide hFD; have HCD := hide hCD; have HDl := hide hDl; have Hp := hide hp; have Hnb := hide hnb
  clear hT hC hdis hFD hCD hDl hp hnb
  go_enter Try.func49, Try.ntmps49
  go_upto_region 1 with (fail)
  refine wp_gen (fun W => CellsAt W w.heap.size 0 p.cells ∧ Fr noB w W ∧ w.heap.size < W.heap.size) ⟨by (repeat (first | assumption | exact cells_new _ _ _ (by simp) | refine CellsAt.alloc ?_ _ | refine CellsAt.drew ?_ | refine CellsAt.drewN ?_ _)), (Fr.refl _ _).alloc _, by simp⟩ ?_
  rintro w1 ⟨hc1, hf1, hs1⟩
  have Hf1 := hide hf1; have Hc1 := hide hc1; have Hs1 := hide hs1
  have HC1 := hide (HC.out.fr hf1 (fun _ _ h => h))
  have HFn := hide (show ¬ Ft w.heap.size from fun h => by have := HT.out.lt _ h; omega)
  have g0 : ∀ z : GrowS Ft w1, z.v.cell? ⟨g, 0, none⟩ = some (.pointer (some ⟨gt, 0, none⟩)) := fun z => (HC1.out.fr z.fr (fun b hb h => Hdis.out b h hb)).head.1
  clear hc1 hf1 hs1
  refine wp_region_mix (fun W => ∃ z : GrowS Ft w1, W = z.v) (by kernel_rfl) (by kernel_rfl) (inGrowS (Fr.refl _ _).drew) ?_
  iterate 7 (first | (refine wpMix_skip rfl ?_; simp only [Act.put, List.setIfInBounds_toArray, List.set_cons_succ, List.set_cons_zero]) | (refine wpMix_calm rfl rfl (fun K hK => ?_); go_big_quiet_op; refine hK _ ?_; clear hK K))
  refine wpMix_load_atw rfl 28 (.tmp 3) rfl w.heap.size 0 rfl p.cells (fun W hW => by obtain ⟨z, rfl⟩ := hW; exact Hc1.out.fr z.fr HFn.out) _ Try.underlying28 rfl (by kernel_rfl) ?_
  simp only [Act.put, List.setIfInBounds_toArray, List.set_cons_succ, List.set_cons_zero]
  refine wpMix_spine rfl rfl (fun K hK => ?_); go_wp2_with fail
  refine (trie_delX w1.drew Ft gt l m ((HT.out.frN Hf1.out).frN (Fr.refl noB _).drew) p Hp.out).mono ?_
  rintro e w2 ⟨rfl, hT2', hf2'⟩
  have hf2 : Fr Ft w1 w2 := (Fr.refl Ft w1).drew.tr hf2'
  have HT2 := hide (show Trie w2 (gr Ft w1 w2) gt (delE l p) m from hT2')
  refine hK _ _ rfl (inGrowS hf2) ?_
  clear hK K g0
  have HC2 := hide (HC1.out.fr hf2 (fun b hb h => Hdis.out b h hb))
  have Hc2 := hide (Hc1.out.fr hf2 HFn.out)
  have Hf2 := hide hf2
  have Hd2 := hide (show ∀ b, gr Ft w1 w2 b → ¬ C b from fun b hb hC => by
    have := HC1.out.here.2 b hC
    rcases hb with k | k
    · exact Hdis.out b k hC
    · omega)
  have Hfw := hide (show Fr D w w2 from Fr.trans Hf1.out hf2 (fun _ _ h => h.elim) (fun b _ h => HFD.out b h))
  clear hf2 hf2' hT2'
  cases hh : hasE l p with
  | false =>
    repeat (first | (refine wpMix_skip rfl ?_; simp only [Act.put, List.setIfInBounds_toArray, List.set_cons_succ, List.set_cons_zero]) | (refine wpMix_calm rfl rfl (fun K hK => ?_); go_big_quiet_op; refine hK _ ?_; clear hK K))
    refine wpMix_nil ?_
    go_wp2_with fail
    go_ret
    have hl : delE l p = l := by unfold delE; rw [hh]; rfl
    have hT := HT2.out
    rw [hl] at hT ⊢
    have hrep : DirRep w2 (gr D w w2) g most l m nb := ⟨⟨gr Ft w1 w2, C, gt, hT, HC2.out, Hd2.out, fun b hb => ?_, fun b hb => .inl (HCD.out b hb)⟩, fun b hb => ?_⟩
    · exact ⟨by rw [hh]; rfl, hrep.up (Nat.le_refl _) (by omega) Hnb.out, Hfw.out⟩
    · have := Hf1.out.size
      rcases hb with k | k
      · exact .inl (HFD.out b k)
      · exact .inr ⟨by omega, k.2⟩
    · rcases hb with k | k
      · have := HDl.out b k; have := Hfw.out.size; omega
      · exact k.2
  | true =>
    repeat (first | (refine wpMix_skip rfl ?_; simp only [Act.put, List.setIfInBounds_toArray, List.set_cons_succ, List.set_cons_zero]) | (refine wpMix_calm rfl rfl (fun K hK => ?_); go_big_quiet_op; refine hK _ ?_; clear hK K))
    refine wpMix_nil ?_
    have hok : okP p := by
      obtain ⟨y, hy, hyp⟩ := (hasE_iff HT.out.sorted p).1 hh
      rw [← hyp]; exact HT.out.ok y hy
    obtain ⟨st, sb, sf, gm, X, hcX, hiX⟩ : ∃ st sb sf gm X, CoreAt w2 C g gt most st sb sf gm X nb ∧ Inv X l := by
      have := HC2.out
      cases this with
      | made st sb sf gm X h i => exact ⟨st, sb, sf, gm, X, h, i⟩
      | bare gm hb hm hc hlt hl hnb => rw [hl] at hh; simp [hasE] at hh
    have HcX := hide hcX; have HiX := hide hiX; have Hok := hide hok; have Hhh := hide hh
    have HU := hide (unP hiX HT.out.sorted HT.out.ok hok hh)
    clear hcX hiX hok hh
    go_upto_region 4 with (fail)
    refine wp_gen (fun W => Blk W w2.heap.size zPl.cells.toArray 111 ∧ Fr noB w2 W ∧ w2.heap.size < W.heap.size) ⟨by first | exact Blk.alloc_new _ _ _ | exact (Blk.alloc_new _ _ _).fr (Fr.refl noB _).drew (fun h => h), by first | exact (Fr.refl _ _).alloc _ | exact ((Fr.refl _ _).alloc _).drew, by simp⟩ ?_
    rintro w3 ⟨hb3, hf3, hs3⟩
    have Hb3 := hide hb3; have Hf3 := hide hf3; have Hs3 := hide hs3
    have Hc3 := hide (Hc2.out.fr hf3 (fun h => h)); have HT3 := hide (HT2.out.frN hf3); have HcX3 := hide (HcX.out.frN hf3)
    have g0 : ∀ z : Grow w3, z.v.cell? ⟨g, 0, none⟩ = some (.pointer (some ⟨gt, 0, none⟩)) := fun z => (HcX3.out.blk.fr z.fr (fun h => h)).cell 0
    clear hb3 hf3 hs3
    refine wp_region_mix (fun W => ∃ z : Grow w3, W = z.v) (by kernel_rfl) (by kernel_rfl) (inGrow (Fr.refl _ _).drew) ?_
    iterate 4 (first | (refine wpMix_skip rfl ?_; simp only [Act.put, List.setIfInBounds_toArray, List.set_cons_succ, List.set_cons_zero]) | (refine wpMix_calm rfl rfl (fun K hK => ?_); go_big_quiet_op; refine hK _ ?_; clear hK K))
    refine wpMix_load_atw rfl 28 (.tmp 3) rfl w.heap.size 0 rfl p.cells (fun W hW => by obtain ⟨z, rfl⟩ := hW; exact Hc3.out.fr z.fr (fun h => h)) _ Try.underlying28 rfl (by kernel_rfl) ?_
    simp only [Act.put, List.setIfInBounds_toArray, List.set_cons_succ, List.set_cons_zero]
    refine wpMix_spine rfl rfl (fun K hK => ?_); go_wp2_with fail
    refine (trie_covers w3.drew (gr Ft w1 w2) gt (delE l p) m (HT3.out.frN (Fr.refl noB _).drew) p Hp.out).mono ?_
    rintro e w4 ⟨⟨s4a, s4l, s4c⟩, rfl, hn4, hf4'⟩
    have hf4 : Fr noB w3 w4 := (Fr.refl _ _).drew.tr hf4'
    refine hK _ _ rfl (inGrow hf4) ?_
    clear hK K g0 hf4'
    have hl4 : s4l = (pathX (delE l p) p).length := by have := hn4.len; simpa using this
    have h80 : s4l ≤ 1000000 := by have := pathX_len (delE l p) p; have := HT2.out.le; omega
    have Hn4 := hide hn4; have Hl4 := hide hl4; have Hf4 := hide hf4
    have Hb4 := hide (Hb3.out.fr hf4 (fun h => h)); have Hc4 := hide (Hc3.out.fr hf4 (fun h => h)); have HT4 := hide (HT3.out.frN hf4); have HcX4 := hide (HcX3.out.frN hf4)
    clear hn4 hf4
    repeat (first | (refine wpMix_skip rfl ?_; simp only [Act.put, List.setIfInBounds_toArray, List.set_cons_succ, List.set_cons_zero]) | (refine wpMix_calm rfl rfl (fun K hK => ?_); go_big_quiet_op; refine hK _ ?_; clear hK K))
    refine wpMix_nil ?_
    rcases hlast : (pathX (delE l p) p).getLast? with _ | q
    case' none =>
      have hz : s4l = 0 := by rw [hl4, List.getLast?_eq_none_iff.1 hlast]; rfl
      subst hz
      have Htop := hide (show upTop (delE l p) p = zPl from by unfold upTop; rw [hlast])
      clear hl4 h80 hlast
      go_upto_region 9 with (fail)
      refine wp_gen (fun W => Blk W w2.heap.size (upTop (delE l p) p).cells.toArray 111 ∧ Fr (oneB w2.heap.size) w4 W) ⟨by rw [Htop.out]; exact Hb4.out, Fr.refl _ _⟩ ?_
    case' some =>
      obtain ⟨ys, hys⟩ := List.getLast?_eq_some_iff.1 hlast
      have hk : s4l = ys.length + 1 := by rw [hl4, hys]; simp
      have hx : ((pathX (delE l p) p).map (·.p))[ys.length]? = some q.p := by rw [hys]; simp
      obtain ⟨b, hb, _, hcx, _⟩ := own_at Hn4.out.1 PrefixM.length hx
      simp only at hb
      subst hb
      have hqm : q ∈ delE l p := (pathX_mem (List.mem_of_getElem? (by rw [hys]; simp : (pathX (delE l p) p)[ys.length]? = some q))).1
      have Htop := hide (show upTop (delE l p) p = paintTo q.p q.v from by unfold upTop; rw [hlast])
      have Hqo := hide (HT4.out.ok q hqm)
      have Hqg := hide ((getE_some HT4.out.sorted).2 ⟨hqm, rfl⟩)
      generalize ys.length = y at *
      subst hk
      have hmul : ((y : Int) * 2).toNat = y * 2 := by omega
      have hy1 : ((y + 1 : Nat) : Int) - 1 = (y : Int) := by omega
      have hyy : (y : Int) < ((y + 1 : Nat) : Int) := by omega
      have Hcx := hide hcx
      clear hl4 hlast hys hx hqm
      go_upto_region 7 with (first | (refine wpList_load_atw rfl 28 (.tmp 35) rfl b (y * 2) (by go_simp) q.p.cells hcx _ Try.underlying28 rfl (by kernel_rfl) ?_) | (refine wpList_store_new rfl 28 _ _ rfl _ _ (PrefixM.cells _) _ rfl rfl (by simp) (by kernel_rfl) rfl (by kernel_rfl) ?_))
      refine wp_gen (fun W => CellsAt W w4.heap.size 0 q.p.cells ∧ Fr noB w4 W) ⟨by (repeat (first | assumption | exact cells_new _ _ _ (by simp) | refine CellsAt.alloc ?_ _ | refine CellsAt.drew ?_ | refine CellsAt.drewN ?_ _)), by first | exact (Fr.refl _ _).alloc _ | exact ((Fr.refl _ _).alloc _).drew⟩ ?_
      rintro w5 ⟨hc5, hf5⟩
      have Hc5 := hide hc5; have Hf5 := hide hf5
      have HT5 := hide (HT4.out.frN hf5); have HcX5 := hide (HcX4.out.frN hf5); have Hb5 := hide (Hb4.out.fr hf5 (fun h => h))
      have g0 : ∀ z : Grow w5, z.v.cell? ⟨g, 0, none⟩ = some (.pointer (some ⟨gt, 0, none⟩)) := fun z => (HcX5.out.blk.fr z.fr (fun h => h)).cell 0
      clear hc5 hf5 hcx
      simp only [Act.put, List.setIfInBounds_toArray, List.set_cons_succ, List.set_cons_zero]
      refine wp_region_mix (fun W => ∃ z : Grow w5, W = z.v) (by kernel_rfl) (by kernel_rfl) (inGrow (Fr.refl _ _).drew) ?_
      iterate 4 (first | (refine wpMix_skip rfl ?_; simp only [Act.put, List.setIfInBounds_toArray, List.set_cons_succ, List.set_cons_zero]) | (refine wpMix_calm rfl rfl (fun K hK => ?_); go_big_quiet_op; refine hK _ ?_; clear hK K))
      refine wpMix_load_atw rfl 28 (.tmp 7) rfl w4.heap.size 0 rfl q.p.cells (fun W hW => by obtain ⟨z, rfl⟩ := hW; exact Hc5.out.fr z.fr (fun h => h)) _ Try.underlying28 rfl (by kernel_rfl) ?_
      simp only [Act.put, List.setIfInBounds_toArray, List.set_cons_succ, List.set_cons_zero]
      refine wpMix_spine rfl rfl (fun K hK => ?_); go_wp2_with fail
      refine (trie_get w5.drew (gr Ft w1 w2) gt (delE l p) m (HT5.out.frN (Fr.refl noB _).drew) q.p Hqo.out.2).mono ?_
      rintro e w6 ⟨rfl, hf6'⟩
      have hf6 : Fr noB w5 w6 := (Fr.refl _ _).drew.tr hf6'
      refine hK _ _ rfl (inGrow hf6) ?_
      clear hK K g0 hf6'
      rw [Hqg.out]
      unfold getV
      repeat (first | (refine wpMix_skip rfl ?_; simp only [Act.put, List.setIfInBounds_toArray, List.set_cons_succ, List.set_cons_zero]) | (refine wpMix_calm rfl rfl (fun K hK => ?_); go_big_quiet_op; refine hK _ ?_; clear hK K))
      refine wpMix_nil ?_
      have Hf6 := hide (Hf5.out.tr hf6); have Hb6 := hide (Hb5.out.fr hf6 (fun h => h))
      have hc6 := Hc5.out.fr hf6 (fun h => h)
      clear hf6
      go_wp2_with (refine wpList_load_atw rfl 28 (.tmp 7) rfl w4.heap.size 0 rfl q.p.cells hc6 _ Try.underlying28 rfl (by kernel_rfl) ?_)
      refine (dir_painted q.p Hqo.out.bd q.v w6).mono ?_
      rintro e w7 ⟨rfl, hf7⟩
      have Hf7 := hide (Hf6.out.tr hf7); have Hb7 := hide (Hb6.out.fr hf7 (fun h => h))
      clear hf7 hc6
      go_upto_region 9 with (refine wpList_store_row rfl 111 (.tmp 5) (.tmp 48) rfl _ (paintTo q.p q.v).cells.toArray rfl rfl _ _ Hb7.out (by kernel_rfl) rfl (PlM.onea _) ?_)
      refine wp_gen (fun W => Blk W w2.heap.size (upTop (delE l p) p).cells.toArray 111 ∧ Fr (oneB w2.heap.size) w4 W) ⟨by rw [Htop.out]; exact Hb7.out.setRow, (Hf7.out.mono (fun _ _ h => h.elim)).setRow (.inr (show oneB w2.heap.size w2.heap.size from rfl)) _⟩ ?_
    all_goals
      rintro w8 ⟨hb8, hf8⟩
      have Hb8 := hide hb8; have Hf8 := hide hf8
      clear hb8 hf8
      have HCne := hide (show ∀ b, C b → ¬ oneB w2.heap.size b from fun b hb e => by unfold oneB at e; have := HcX.out.lt b hb; omega)
      have HTne := hide (show ∀ b, gr Ft w1 w2 b → ¬ oneB w2.heap.size b from fun b hb e => by unfold oneB at e; have := HT2.out.lt b hb; omega)
      have HcX8 := hide (HcX4.out.fr Hf8.out HCne.out)
      have HT8 := hide (HT4.out.fr Hf8.out HTne.out)
      have hc8 := Hc4.out.fr Hf8.out (fun e => by unfold oneB at e; have := Hs1.out; have := Hf2.out.size; omega)
      have Hc8 := hide hc8
      go_wp2_with (refine wpList_load_atw rfl 28 (.tmp 3) rfl w.heap.size 0 rfl p.cells hc8 _ Try.underlying28 rfl (by kernel_rfl) ?_)
      refine (dir_painted p Hok.out.bd 0 w8).mono ?_
      rintro e w9 ⟨rfl, hf9⟩
      have Hf9 := hide hf9
      clear hf9 hc8
      obtain ⟨d, hd⟩ : ∃ d, (p.len + 1).toNat = d := ⟨_, rfl⟩
      have Hd := hide hd
      rw [show (paintTo p 0).cells.toArray = #[.int .i64 0, .int .i16 (d : Nat), .int .i32 0] from by rw [← hd]; rfl]
      have hfl := field_deep 0 0 d
      clear hd
      go_upto_region 10 with (fail)
      refine wp_gen (fun W => CellsAt W w9.heap.size 0 [.int .i16 (d : Nat)] ∧ Fr noB w9 W) ⟨cells_new _ _ _ rfl, (Fr.refl _ _).alloc _⟩ ?_
      rintro w10 ⟨hd10, hf10⟩
      have Hf10 := hide (Hf9.out.tr hf10); have Hd10 := hide (show w10.cell? ⟨w9.heap.size, 0, none⟩ = some (.int .i16 (d : Nat)) from hd10 0 _ rfl)
      have hc10 := Hc8.out.fr Hf10.out (fun h => h)
      have Hc10 := hide hc10
      have hb10 := (Hb8.out.fr Hf10.out (fun h => h)).cells
      have HcX10 := hide (HcX8.out.frN Hf10.out)
      have hmf : ∀ (fn : Fn) (first cap : Array Value) (w : World), (Instr.makeFunc fn first cap).run Try.prog w = .ok (.func fn first cap) w := fun _ _ _ _ => rfl
      clear hd10 hf10 hfl
      go_wp2_with (first | (refine wpList_load_atw rfl 28 (.tmp 3) rfl w.heap.size 0 rfl p.cells hc10 _ Try.underlying28 rfl (by kernel_rfl) ?_) | (refine wpList_load_atw rfl 111 (.tmp 5) rfl w2.heap.size 0 rfl (upTop (delE l p) p).cells hb10 _ Try.underlying111 rfl (by kernel_rfl) ?_))
      obtain ⟨lab, hlab⟩ := HU.out.wf
      have hs9 : Hid (w2.heap.size ≤ w9.heap.size) := hide (by have := Hf3.out.size; have := Hf4.out.size; have := Hf8.out.size; have := Hf9.out.size; omega)
      refine (dir_paint false w9.heap.size d (upTop (delE l p) p) HU.out.top w10 C g gt most st sb sf gm X nb HcX10.out hlab p Hok.out HU.out.n16 HU.out.n24 Hd10.out (fun hC => by have := HcX.out.lt _ hC; have := hs9.out; omega)).mono ?_
      rintro e w11 ⟨rfl, hc11, hf11⟩
      have Hc11 := hide (show CoreAt w11 C g gt most st sb sf gm (X.unP l p) nb from by rw [← Hd.out] at hc11; exact hc11); have Hf11 := hide hf11
      have HwC := hide (show ¬ C w.heap.size from fun h => by have := HC.out.here.2 _ h; omega)
      have hp11 := Hc10.out.fr hf11 HwC.out
      clear hc11 hf11 hc10 hb10 hmf hlab
      go_wp2_with (refine wpList_load_atw rfl 28 (.tmp 3) rfl w.heap.size 0 rfl p.cells hp11 _ Try.underlying28 rfl (by kernel_rfl) ?_)
      refine (dir_disown w11 C g gt most st sb sf gm (X.unP l p) nb Hc11.out Hnb.out p Hp.out HU.out.dis).mono ?_
      rintro e w12 ⟨rfl, ⟨sb', sf', hc12⟩, hf12⟩
      have Hc12 := hide hc12; have Hf12 := hide hf12
      clear hc12 hf12 hp11
      go_wp2_with fail
      go_ret
      have s23 := Hf3.out.size
      have s34 := Hf4.out.size
      have s48 := Hf8.out.size
      have s810 := Hf10.out.size
      have s11 := Hf11.out.size
      have f4 : Fr D w w4 := (Hfw.out.tr ((Hf3.out.tr Hf4.out).mono (fun _ _ h => h.elim)))
      have s24 := Hfw.out.size
      have f8 : Fr D w w8 := Fr.trans f4 Hf8.out (fun _ _ h => h) (fun b hb e => by unfold oneB at e; omega)
      have f10 : Fr D w w10 := f8.tr (Hf10.out.mono (fun _ _ h => h.elim))
      have f12 : Fr D w w12 := (f10.tr (Hf11.out.mono (fun b _ h => HCD.out b h))).tr (Hf12.out.mono (fun b _ h => HCD.out b h))
      refine ⟨by rw [Hhh.out]; rfl, mkRep (((HT8.out.frN Hf10.out).fr Hf11.out Hd2.out).fr Hf12.out Hd2.out) Hc12.out HU.out.inv (fun b hb hC => by
        rcases hC with k | k
        · exact Hd2.out b hb k
        · have := HT2.out.lt b hb; omega) (fun b hb => by
        have := Hf1.out.size
        rcases hb with k | k
        · exact .inl (HFD.out b k)
        · exact .inr (by omega)) (fun b hb => by
        rcases hb with k | k
        · exact .inl (HCD.out b k)
        · exact .inr (by omega)) HDl.out f12.size, f12⟩
end Go.Proofs.Ytgjabgneapdbiaa

namespace Go.Proofs.Ytgjabgneapdbiaa
open Go.RowKit Go.BigFrame
set_option linter.unusedSimpArgs false
set_option linter.unusedVariables false
attribute [local irreducible] wpMix wpAnyG
attribute [local irreducible] tabN

theorem dir_look_nil (w : World) (a : Nat) : Calls Try.prog 42 #[.pointer none, .int .u32 (a : Nat)] w fun e w' => e = .returned (getV none) ∧ Fr noB w w' := by
  go_enter Try.func42, Try.ntmps42
  go_wp2_with fail
  go_ret2
  exact ⟨rfl, Fr.refl _ _⟩
theorem dir_del_nil (w : World) (p : PrefixM) : Calls Try.prog 49 #[.pointer none, .agg p.cells.toArray] w fun e w' => e = .returned (.bool false) ∧ Fr noB w w' := by
  go_enter Try.func49, Try.ntmps49
  go_upto_region 1 with (fail)
  refine wp_region_mix (fun W => ∃ z : Grow w, W = z.v) (by kernel_rfl) (by kernel_rfl) (inGrow ((Fr.refl _ _).alloc _).drew) ?_
  repeat (first | (refine wpMix_skip rfl ?_; simp only [Act.put, List.setIfInBounds_toArray, List.set_cons_succ, List.set_cons_zero]) | (refine wpMix_calm rfl rfl (fun K hK => ?_); go_big_quiet_op; refine hK _ ?_; clear hK K))
  refine wpMix_nil ?_
  go_wp2_with fail
  go_ret
  exact ⟨rfl, by first | exact ((Fr.refl _ _).alloc _).drew | exact ((Fr.refl _ _).drew).alloc _⟩
theorem dir_set_nil (w : World) (p : PrefixM) (v : Int) : Calls Try.prog 41 #[.pointer none, .agg p.cells.toArray, .int .i64 v] w fun e w' => e = .returned (.int .i64 1) ∧ Fr noB w w' := by
  go_enter Try.func41, Try.ntmps41
  go_wp2_with fail
  go_ret
  exact ⟨rfl, ((Fr.refl _ _).alloc _).alloc _⟩
theorem plok_some {x : PlM} {e : EntM} (h : PlOk x (some e)) (hl : 0 ≤ e.p.len) : ((x.deep : Nat) : Int) ≠ 0 ∧ x.v = e.v := by
  simp only [PlOk] at h
  exact ⟨by omega, h.2⟩
set_option maxRecDepth 100000 in
set_option maxHeartbeats 4000000 in
theorem dir_look (w : World) (D : Nat → Prop) (g : Nat) (most : Int) (l : List EntM) (m nb : Nat) (h : DirRep w D g most l m nb) (a : Nat) (ha : a < 4294967296) :
    Calls Try.prog 42 #[.pointer (some ⟨g, 0, none⟩), .int .u32 (a : Nat)] w fun e w' => e = .returned (getV (longE l a)) ∧ Fr noB w w' := by
  obtain ⟨⟨Ft, C, gt, hT, hC, _⟩, _⟩ := h
  cases hC with
  | bare gm hb hm hc hlt hl hnb =>
    subst hl
    have d4 : w.cell? ⟨g, 4, none⟩ = some (.slice none 0 0) := hb.cell 4
    rw [show longE [] a = none from by simp [longE, pathX]]
    clear hb hm hc hT
    go_enter Try.func42, Try.ntmps42
    go_wp2_with fail
    go_ret2
    exact ⟨rfl, Fr.refl _ _⟩
  | made st sb sf gm X h i =>
    obtain ⟨lab, hw⟩ := i.wf
    have hok := i.lk a ha
    rw [lk_eq] at hok
    have hlen : ∀ x, longE l a = some x → 0 ≤ x.p.len := fun x hx => by
      obtain ⟨h1, _⟩ := long_mem hT.sorted hT.ok ha hx
      have := (hT.ok x h1).bd; omega
    obtain ⟨gT, hst, hsl, _⟩ := h.tabAt
    have hh : a / 65536 < 65536 := by omega
    obtain ⟨tb, toff, hta, htc, _⟩ := h.get (L := .t (a / 65536)) (show a / 65536 < X.S.tab.length by rw [h.len.1]; exact hh)
    obtain ⟨sa, sl, sc⟩ := st
    simp only at hst hsl
    subst hst; subst hsl
    simp only [adr, Option.map_some, Option.some.injEq, Addr.mk.injEq, and_true] at hta
    obtain ⟨rfl, rfl⟩ := hta
    have htc' : CellsAt w gT (a / 65536 * 3) (X.S.t (a / 65536)).cells := htc
    have d4 : w.cell? ⟨g, 4, none⟩ = some (.slice (some ⟨gT, 0, none⟩) 65536 sc) := h.blk.cell 4
    have H := hide h; have Hw := hide hw; have Hlen := hide hlen
    obtain ⟨hh', hhe⟩ : ∃ k, a / 65536 = k := ⟨_, rfl⟩
    have s1 := hide (show (a : Int) / 65536 = (hh' : Int) from by rw [← hhe, show (65536 : Int) = ((65536 : Nat) : Int) from rfl, ← Int.natCast_ediv])
    have Hhe := hide hhe
    rw [hhe] at hh hok htc'
    by_cases h0 : (X.S.t hh').block = 0
    · rw [if_pos h0] at hok
      obtain ⟨x, hx⟩ : ∃ x, X.S.t hh' = x := ⟨_, rfl⟩
      rw [hx] at hok htc' h0
      have x2 : w.cell? ⟨gT, hh' * 3 + 2, none⟩ = some (.int .i32 0) := by have := htc' 2 _ rfl; rw [h0] at this; exact this
      have x1 : w.cell? ⟨gT, hh' * 3 + 1, none⟩ = some (.int .i16 (x.deep : Nat)) := htc' 1 _ rfl
      have x0 : w.cell? ⟨gT, hh' * 3, none⟩ = some (.int .i64 x.v) := by have := htc' 0 _ rfl; rwa [Nat.add_zero] at this
      have hmul : ((hh' : Int) * 3).toNat = hh' * 3 := by omega
      have hlt : (hh' : Int) < 65536 := by omega
      have Hok := hide hok
      clear h hw hok hlen hT htc htc' hhe hx i h0
      go_enter Try.func42, Try.ntmps42
      go_upto_region 3 with (fail)
      have e1 := s1.out
      go_upto_region 8 with (fail)
      clear e1 hlt hmul
      cases hlo : longE l a with
      | none =>
        have hd : x.deep = 0 := by have := Hok.out; rw [hlo] at this; exact this
        rw [hd] at x1
        go_wp2_with fail
        go_ret2
        exact ⟨by rw [hlo]; rfl, Fr.refl _ _⟩
      | some e =>
        obtain ⟨q1, q2⟩ := plok_some (by rw [← hlo]; exact Hok.out) (Hlen.out e hlo)
        have hd : (((x.deep : Nat) : Int) == 0) = false := by simpa using q1
        have Hq := hide q2
        clear q1 q2
        go_wp2_with fail
        go_ret2
        exact ⟨(show Ending.returned (.tuple #[.int .i64 x.v, .bool true]) = .returned (getV (longE l a)) from by rw [hlo, Hq.out]; rfl), Fr.refl _ _⟩
    · rw [if_neg h0] at hok
      have k0 := hw.w0 hh' hh h0
      obtain ⟨n, hn⟩ : ∃ n, (X.S.t hh').block = n + 1 := ⟨(X.S.t hh').block - 1, by omega⟩
      rw [hn, Nat.add_sub_cancel] at k0
      have hv1 : X.S.v1 (a / 256) = X.S.b n (a / 256 % 256) := by unfold DS.v1; rw [div256, hhe, hn, Nat.add_sub_cancel]
      obtain ⟨gB, hsb, _⟩ := h.blsAt k0.1
      have hbl : sb.len = X.S.blk.length := h.bls.1
      have hnb := h.len
      obtain ⟨ba, bl, bc⟩ := sb
      simp only at hsb hbl
      subst hsb
      obtain ⟨jj, hje⟩ : ∃ k, a / 256 % 256 = k := ⟨_, rfl⟩
      rw [hje] at hv1
      have hjl : jj < 256 := by omega
      have hnl : n < bl := by have := k0.1; omega
      have hn1 : n ≤ 1000000 := by have := k0.1; omega
      obtain ⟨b1, off1, ha1, hc1, _⟩ := h.get (L := .b n jj) ⟨k0.1, hjl⟩
      simp only [adr, Option.map_some, Option.some.injEq, Addr.mk.injEq, and_true] at ha1
      obtain ⟨rfl, rfl⟩ := ha1
      have hc1' : CellsAt w gB (n * 768 + jj * 3) (X.S.v1 (a / 256)).cells := by rw [hv1]; exact hc1
      have x2 : w.cell? ⟨gT, hh' * 3 + 2, none⟩ = some (.int .i32 ((n + 1 : Nat) : Int)) := by have := htc' 2 _ rfl; rw [hn] at this; exact this
      have X2 := hide (htc'.fr (Fr.refl noB w).drew (fun h => h))
      have Htc := hide htc'; have Hn := hide hn
      have s2 := hide (show bits BinOp.and IntKind.u32 ((a : Int) / 256) 255 = (jj : Int) from by
        rw [show (a : Int) / 256 = ((a / 256 : Nat) : Int) from by rw [show (256 : Int) = ((256 : Nat) : Int) from rfl, ← Int.natCast_ediv], and255 (by omega), hje])
      have hmul : ((hh' : Int) * 3).toNat = hh' * 3 := by omega
      have hlt : (hh' : Int) < 65536 := by omega
      have Hok := hide hok; have Hc1 := hide hc1'; have Hk0 := hide k0; have Hnb := hide hnb; have Hbl := hide hbl
      clear h hok hlen hT htc htc' hhe i h0 hn k0 hbl hnb hc1 hc1' hv1 hje hw
      go_enter Try.func42, Try.ntmps42
      go_upto_region 3 with (fail)
      have e1 := s1.out
      go_upto_region 5 with (fail)
      clear e1 hlt hmul x2 d4
      have d5 : ∀ z : Grow w, z.v.cell? ⟨g, 5, none⟩ = some (.slice (some ⟨gB, 0, none⟩) bl bc) := fun z => (H.out.blk.fr z.fr (fun h => h)).cell 5
      have t2 : ∀ z : Grow w, z.v.cell? ⟨gT, hh' * 3 + 2, none⟩ = some (.int .i32 ((n + 1 : Nat) : Int)) := fun z => by have := (Htc.out.fr z.fr (fun h => h)) 2 _ rfl; rw [Hn.out] at this; exact this
      have hmul2 : ((n : Int) * 768).toNat = n * 768 := by omega
      have hmul3 : ((jj : Int) * 3).toNat = jj * 3 := by omega
      have hjj : (jj : Int) < 256 := by omega
      have hnl2 : (n : Int) < (bl : Int) := by omega
      refine wp_region_mix (fun W => ∃ z : Grow w, W = z.v) (by kernel_rfl) (by kernel_rfl) (inGrow (Fr.refl _ _).drew) ?_
      iterate 12 (first | (refine wpMix_skip rfl ?_; simp only [Act.put, List.setIfInBounds_toArray, List.set_cons_succ, List.set_cons_zero]) | (refine wpMix_calm rfl rfl (fun K hK => ?_); go_big_quiet_op; refine hK _ ?_; clear hK K))
      rw [s2.out]
      repeat (first | (refine wpMix_skip rfl ?_; simp only [Act.put, List.setIfInBounds_toArray, List.set_cons_succ, List.set_cons_zero]) | (refine wpMix_calm rfl rfl (fun K hK => ?_); go_big_quiet_op; refine hK _ ?_; clear hK K))
      refine wpMix_nil ?_
      clear d5 t2
      by_cases h1 : (X.S.v1 (a / 256)).block = 0
      · have Hok := hide (show PlOk (X.S.v1 (a / 256)) (longE l a) from by have := Hok.out; rwa [if_pos h1] at this)
        obtain ⟨x, hx⟩ : ∃ x, X.S.v1 (a / 256) = x := ⟨_, rfl⟩
        rw [hx] at Hok Hc1 h1
        have hcd := Hc1.out.fr (Fr.refl noB w).drew (fun h => h)
        have x2 : w.drew.cell? ⟨gB, n * 768 + jj * 3 + 2, none⟩ = some (.int .i32 0) := by have := hcd 2 _ rfl; rw [h1] at this; exact this
        have x1 : w.drew.cell? ⟨gB, n * 768 + jj * 3 + 1, none⟩ = some (.int .i16 (x.deep : Nat)) := hcd 1 _ rfl
        have x0 : w.drew.cell? ⟨gB, n * 768 + jj * 3, none⟩ = some (.int .i64 x.v) := by have := hcd 0 _ rfl; rwa [Nat.add_zero] at this
        clear hcd hx h1 hmul2 hmul3 hjj hnl2
        go_upto_region 8 with (fail)
        cases hlo : longE l a with
        | none =>
          have hd : x.deep = 0 := by have := Hok.out; rw [hlo] at this; exact this
          rw [hd] at x1
          go_wp2_with fail
          go_ret2
          exact ⟨by rw [hlo]; rfl, (Fr.refl _ _).drew⟩
        | some e =>
          obtain ⟨q1, q2⟩ := plok_some (by rw [← hlo]; exact Hok.out) (Hlen.out e hlo)
          have hd : (((x.deep : Nat) : Int) == 0) = false := by simpa using q1
          have Hq := hide q2
          clear q1 q2
          go_wp2_with fail
          go_ret2
          exact ⟨(show Ending.returned (.tuple #[.int .i64 x.v, .bool true]) = .returned (getV (longE l a)) from by rw [hlo, Hq.out]; rfl), (Fr.refl _ _).drew⟩
      · have Hok := hide (show PlOk (X.S.v2 a) (longE l a) from by have := Hok.out; rwa [if_neg h1] at this)
        have kb := Hw.out.w1 (a / 256) (by omega) (by rw [div256, Hhe.out, Hn.out]; omega) h1
        obtain ⟨n2, hn2⟩ : ∃ n2, (X.S.v1 (a / 256)).block = n2 + 1 := ⟨(X.S.v1 (a / 256)).block - 1, by omega⟩
        rw [hn2, Nat.add_sub_cancel] at kb
        have hv2 : X.S.v2 a = X.S.b n2 (a % 256) := by unfold DS.v2; rw [hn2, Nat.add_sub_cancel]
        obtain ⟨j2, hj2⟩ : ∃ k, a % 256 = k := ⟨_, rfl⟩
        rw [hj2] at hv2
        have hj2l : j2 < 256 := by omega
        obtain ⟨b2, off2, ha2, hc2, _⟩ := H.out.get (L := .b n2 j2) ⟨kb.1, hj2l⟩
        simp only [adr, Option.map_some, Option.some.injEq, Addr.mk.injEq, and_true] at ha2
        obtain ⟨rfl, rfl⟩ := ha2
        obtain ⟨x, hx⟩ : ∃ x, X.S.v2 a = x := ⟨_, rfl⟩
        have hcx : CellsAt w gB (n2 * 768 + j2 * 3) x.cells := by rw [← hx, hv2]; exact hc2
        rw [hx] at Hok
        have hcd := hcx.fr (Fr.refl noB w).drew.drew (fun h => h)
        have x1 : w.drew.drew.cell? ⟨gB, n2 * 768 + j2 * 3 + 1, none⟩ = some (.int .i16 (x.deep : Nat)) := hcd 1 _ rfl
        have x0 : w.drew.drew.cell? ⟨gB, n2 * 768 + j2 * 3, none⟩ = some (.int .i64 x.v) := by have := hcd 0 _ rfl; rwa [Nat.add_zero] at this
        have X1 := hide x1; have X0 := hide x0
        have y2 : w.drew.cell? ⟨gB, n * 768 + jj * 3 + 2, none⟩ = some (.int .i32 ((n2 + 1 : Nat) : Int)) := by have := (Hc1.out.fr (Fr.refl noB w).drew (fun h => h)) 2 _ rfl; rw [hn2] at this; exact this
        have d5 : ∀ z : Grow w, z.v.cell? ⟨g, 5, none⟩ = some (.slice (some ⟨gB, 0, none⟩) bl bc) := fun z => (H.out.blk.fr z.fr (fun h => h)).cell 5
        have t2 : ∀ z : Grow w, z.v.cell? ⟨gB, n * 768 + jj * 3 + 2, none⟩ = some (.int .i32 ((n2 + 1 : Nat) : Int)) := fun z => by have := (Hc1.out.fr z.fr (fun h => h)) 2 _ rfl; rw [hn2] at this; exact this
        have s3 := hide (show bits BinOp.and IntKind.u32 (a : Int) 255 = (j2 : Int) from by rw [and255 ha, hj2])
        have hn2l : n2 < bl := by have := Hbl.out; have := kb.1; omega
        have hn2m : n2 ≤ 1000000 := by have := Hnb.out; have := kb.1; omega
        clear hmul2 hmul3 hjj hnl2 h1 kb hn2 hv2 hj2 hc2 hx hcx hcd x1 x0
        go_upto_region 7 with (fail)
        clear y2
        have hmul4 : ((n2 : Int) * 768).toNat = n2 * 768 := by omega
        have hmul5 : ((j2 : Int) * 3).toNat = j2 * 3 := by omega
        have hjj4 : (j2 : Int) < 256 := by omega
        have hnl4 : (n2 : Int) < (bl : Int) := by omega
        refine wp_region_mix (fun W => ∃ z : Grow w, W = z.v) (by kernel_rfl) (by kernel_rfl) (inGrow (Fr.refl _ _).drew.drew) ?_
        iterate 11 (first | (refine wpMix_skip rfl ?_; simp only [Act.put, List.setIfInBounds_toArray, List.set_cons_succ, List.set_cons_zero]) | (refine wpMix_calm rfl rfl (fun K hK => ?_); go_big_quiet_op; refine hK _ ?_; clear hK K))
        rw [s3.out]
        repeat (first | (refine wpMix_skip rfl ?_; simp only [Act.put, List.setIfInBounds_toArray, List.set_cons_succ, List.set_cons_zero]) | (refine wpMix_calm rfl rfl (fun K hK => ?_); go_big_quiet_op; refine hK _ ?_; clear hK K))
        refine wpMix_nil ?_
        have x1 := X1.out
        have x0 := X0.out
        clear d5 t2 hmul4 hmul5 hjj4 hnl4
        cases hlo : longE l a with
        | none =>
          have hd : x.deep = 0 := by have := Hok.out; rw [hlo] at this; exact this
          rw [hd] at x1
          go_wp2_with fail
          go_ret2
          exact ⟨by rw [hlo]; rfl, (Fr.refl _ _).drew.drew⟩
        | some e =>
          obtain ⟨q1, q2⟩ := plok_some (by rw [← hlo]; exact Hok.out) (Hlen.out e hlo)
          have hd : (((x.deep : Nat) : Int) == 0) = false := by simpa using q1
          have Hq := hide q2
          clear q1 q2
          go_wp2_with fail
          go_ret2
          exact ⟨(show Ending.returned (.tuple #[.int .i64 x.v, .bool true]) = .returned (getV (longE l a)) from by rw [hlo, Hq.out]; rfl), (Fr.refl _ _).drew.drew⟩
end Go.Proofs.Ytgjabgneapdbiaa

namespace Go.Proofs.Ytgjabgneapdbiaa
open Go.ChangeShapes Go.WideShapes Go.Deep Go.RowKit
set_option linter.unusedSimpArgs false
set_option linter.unusedVariables false

abbrev DActs (w : World) (s : SlV) (xs : List DActM) : Prop := SlOf w 4 DActM.cells DActM.wf s xs
section
variable {H : Type} {enc : TypeId × Value → H} {W : World} {v : Value} {d : DataW H} {p : List MemPlace} {base : Nat}
set_option maxRecDepth 100000 in
theorem open_dacts (hv : Value.okWide Try.prog W .any base 60 v) (h : DataW.Trod enc Try.prog W 0 (fun _ => true) true 60 v d p) :
    ∃ (s : SlV) (rs : List DActM), v = .slice s.a s.len s.cap ∧ DActs W s rs := by
  obtain ⟨a, len, cap, rfl⟩ := okWide_slice Try.underlying60 hv
  obtain ⟨fuel, hf⟩ := h
  obtain ⟨s, xs, hcs, hs⟩ := open_slof 4 DActM.cells DActM.wf Try.underlying60 cellsOf_DAct (by decide) (fun _ _ _ h => open_DAct h) hf
  refine ⟨s, xs, ?_, hs⟩
  simpa [Value.cells] using hcs
end
end Go.Proofs.Ytgjabgneapdbiaa

namespace Go.Proofs.Ytgjabgneapdbiaa
open Go.RowKit Go.BigFrame
set_option linter.unusedSimpArgs false
set_option linter.unusedVariables false
attribute [local irreducible] wpMix wpAnyG
attribute [local irreducible] tabN

def kD1 : PrefixM := ⟨167772160, 25⟩
def kD2 : PrefixM := ⟨167772416, 24⟩
theorem kD_ok : okP kD1 ∧ okP kD2 := by
  refine ⟨⟨by decide, by decide, by unfold i64b; decide⟩, ⟨by decide, by decide, by unfold i64b; decide⟩⟩
theorem kD_1 : dirX 4 [] kD1 1 = ⟨0, [⟨kD1, 1⟩]⟩ := by kernel_rfl
theorem kD_2 : dirX 4 [⟨kD1, 1⟩] kD2 2 = ⟨0, [⟨kD1, 1⟩, ⟨kD2, 2⟩]⟩ := by kernel_rfl
theorem kD_3 : ownN [⟨kD1, 1⟩, ⟨kD2, 2⟩] = 2 := by decide
theorem kD_4 : longE [⟨kD1, 1⟩, ⟨kD2, 2⟩] 167772425 = some ⟨kD2, 2⟩ := by decide
set_option maxRecDepth 100000 in
set_option maxHeartbeats 2000000 in
theorem dir_known (w : World) : Calls Try.prog 44 #[] w fun e w' => e = .returned (.bool true) ∧ Fr noB w w' := by
  go_enter Try.func44, Try.ntmps44
  go_wp2_with fail
  refine (dir_new w 4 (by unfold i64b; decide)).mono ?_
  rintro e w1 ⟨g, rfl, h1, f1⟩
  rw [show max (4 : Int) 0 = 4 from rfl] at h1
  have H1 := hide h1; have F1 := hide f1
  clear h1 f1
  go_wp2_with (refine wpList_build_as rfl 28 _ rfl kD1.cells.toArray (by kernel_rfl) ?_)
  refine (dir_set_ok w1 (newF w w1) g 4 [] 1 0 H1.out (by decide) (by decide) ⟨by decide, by unfold i64b; decide⟩ kD1 kD_ok.1 1 (by decide) (by unfold i64b; decide)).mono ?_
  rintro e w2 ⟨rfl, h2, f2⟩
  rw [kD_1] at h2 ⊢
  have H2 := hide h2; have F2 := hide f2
  clear h2 f2
  go_wp2_with (refine wpList_build_as rfl 28 _ rfl kD2.cells.toArray (by kernel_rfl) ?_)
  refine (dir_set_ok w2 _ g 4 _ 3 2 H2.out (by decide) (by decide) ⟨by decide, by unfold i64b; decide⟩ kD2 kD_ok.2 2 (by decide) (by unfold i64b; decide)).mono ?_
  rintro e w3 ⟨rfl, h3, f3⟩
  rw [kD_2] at h3 ⊢
  have H3 := hide h3; have F3 := hide f3
  clear h3 f3
  go_wp2_with fail
  refine (dir_look w3 _ g 4 _ _ _ H3.out 167772425 (by decide)).mono ?_
  rintro e w4 ⟨rfl, f4⟩
  rw [kD_4]
  unfold getV
  have H4 := hide (H3.out.fr f4 (fun _ _ h => h)); have F4 := hide f4
  clear f4
  go_wp2_with fail
  refine (dir_blocks w4 _ g 4 _ _ _ H4.out).mono ?_
  rintro e w5 ⟨rfl, rfl⟩
  rw [kD_3]
  go_wp2_with fail
  go_ret
  have s1 := F1.out.size
  have fa : Fr noB w w2 := Fr.trans F1.out F2.out (fun _ _ h => h) (fun b hb h => by unfold newF at h; omega)
  have fb : Fr noB w w3 := Fr.trans fa F3.out (fun _ _ h => h) (fun b hb h => by
    unfold newF gr at h
    omega)
  exact ⟨rfl, fb.tr F4.out⟩
end Go.Proofs.Ytgjabgneapdbiaa

/- flows.Put, New, Len, List. -/
import Derived.Test.YtjfjpibjjliagaaFlowAdd
namespace Go.Proofs.Ytjfjpibjjliagaa
open Go.RowKit Go.BigFrame
set_option linter.unusedSimpArgs false
set_option linter.unusedVariables false
attribute [local irreducible] wpMix

def newB (w w' : World) : Nat → Prop := fun b => w.heap.size ≤ b ∧ b < w'.heap.size
def capF (most : Int) : Int := min (max most 0) 64
theorem capF_bd (most : Int) : 0 ≤ capF most ∧ capF most ≤ 64 := by unfold capF; omega
def NewTo (w : World) (g : Nat) (most : Int) (e : Ending) (w' : World) : Prop := e = .returned (.pointer (some ⟨g, 0, none⟩)) ∧ Tab w' (newB w w') g [] most ∧ Fr noB w w'
set_option maxHeartbeats 400000 in
theorem flows_new (most : Int) (w : World) : Calls Try.prog 8 #[.int .i64 most] w (NewTo w (w.heap.size + 1) (capF most)) := by
  have hmx := run_max_int Try.prog
  have hmn := run_min_int Try.prog
  have hmm := @run_makeMap Try.prog
  go_enter Try.func8, Try.ntmps8
  go_wp2_with fail
  go_ret
  refine ⟨rfl, ⟨⟨⟨none, 0, 0⟩, w.heap.size, 0, ?_, OwnL.nil _ _ _ _, ?_, ?_, ?_⟩, ?_, ?_, ?_, ?_, ?_, ?_, ?_⟩, ((Fr.refl _ _).alloc _).alloc _⟩
  · have h := Blk.alloc_new (w.alloc (.map #[] 0)) #[.slice none 0 0, .map (some w.heap.size), .int .i64 (capF most)] 58
    rw [World.size_alloc] at h
    exact h
  · exact (KMap.new KeyM.cells w).fr ((Fr.refl noB _).alloc _) (fun h => h)
  · exact ⟨by omega, by simp; omega⟩
  · rintro b ⟨a, ha, _⟩; simp at ha
  · exact ⟨by omega, by simp⟩
  · intro b hb; exact hb.2
  · simp [Keys]
  · have := capF_bd most; simp; omega
  · exact (capF_bd most).1
  · exact (capF_bd most).2
  · simp

set_option maxHeartbeats 400000 in
theorem flows_len_nil (w : World) : Calls Try.prog 12 #[.pointer none] w fun e w' => e = .returned (.int .i64 0) ∧ w = w' := by
  go_enter Try.func12, Try.ntmps12
  go_wp2_with fail
  go_ret
  exact ⟨rfl, rfl⟩
set_option maxHeartbeats 400000 in
theorem flows_len (w : World) (F : Nat → Prop) (g : Nat) (fl : List FlowM) (most : Int) (h : Tab w F g fl most) :
    Calls Try.prog 12 #[.pointer (some ⟨g, 0, none⟩)] w fun e w' => e = .returned (.int .i64 fl.length) ∧ w = w' := by
  obtain ⟨⟨⟨sa, sl, sc⟩, mb, n, hblk, hown, _, _, _⟩, _⟩ := h
  have hsl : sl = fl.length := hown.1
  have c0 : w.cell? ⟨g, 0, none⟩ = some (.slice sa sl sc) := hblk.cell 0
  have Hsl := hide hsl
  clear hsl hown hblk
  go_enter Try.func12, Try.ntmps12
  go_wp2_with fail
  go_ret
  exact ⟨ret_int (by have := Hsl.out; omega), rfl⟩

/-- A slice that is handed out: a new block, or nil. -/
def SliceTo (w : World) (xs : List FlowM) (e : Ending) (w' : World) : Prop := ∃ s : SlV, e = .returned (.slice s.a s.len s.cap) ∧ NewL w w' 29 14 FlowM.cells s xs ∧ Fr noB w w'
set_option maxHeartbeats 400000 in
theorem clone_nil (w : World) : Calls Try.prog 21 #[.slice none 0 0] w (SliceTo w []) := by
  have hn := fun (w : World) (a : Option Addr) (n c n' c' : Nat) => Lib.run_eql_slice_nil (P := Try.prog) w 22 29 a n c n' c' Try.underlying22
  go_enter Try.func21, Try.ntmps21
  go_wp2_with fail
  go_ret
  exact ⟨⟨none, 0, 0⟩, rfl, NewL.nil _ _ _ _ _, Fr.refl _ _⟩
theorem clone_some (x : Addr) (l c : Nat) (fl : List FlowM) (w : World) (hq : SlOf w 14 FlowM.cells FlowM.wf ⟨some x, l, c⟩ fl) (hl : fl.length ≤ 1000) :
    Calls Try.prog 21 #[.slice (some x) l c] w (SliceTo w fl) := by
  have Hq := hide hq
  clear hq
  have hn := fun (w : World) (a : Option Addr) (n c n' c' : Nat) => Lib.run_eql_slice_nil (P := Try.prog) w 22 29 a n c n' c' Try.underlying22
  go_enter Try.func21, Try.ntmps21
  go_wp2_with (first | (refine wpList_build0 rfl 22 rfl Try.underlying22 (by kernel_rfl) ?_) | (refine wpList_append_new (w0 := w) (N := 14) (cells := FlowM.cells) (xs := []) (s := ⟨some ⟨w.heap.size, 0, none⟩, 0, 0⟩) (q := ⟨some x, l, c⟩) (ys := fl) (ok := FlowM.wf) rfl (.tmp 5) (.tmp 6) 22 rfl Try.underlying22 _ 120 flow_info (by kernel_rfl) (by decide) FlowM.length FlowM.mem rfl (NewL.zero _ _ (Fr.refl _ _) _ _ _) ((Fr.refl _ _).alloc _) rfl (SlOf.fr Hq.out ((Fr.refl noB _).alloc _) (fun _ _ h => h) (fun _ h => h)) (fun h => by simp at h) (by simp [maxLen]; omega) (by simp; omega) ?_; intro s1 v1 hn1 hf1 _; have HN1 := hide hn1; have HF1 := hide hf1; clear hn1 hf1))
  go_ret
  exact ⟨s1, rfl, by simpa using HN1.out, HF1.out⟩
theorem flows_list_nil (w : World) : Calls Try.prog 10 #[.pointer none] w (SliceTo w []) := by
  go_enter Try.func10, Try.ntmps10
  go_wp2_with fail
  go_ret
  exact ⟨⟨none, 0, 0⟩, rfl, NewL.nil _ _ _ _ _, Fr.refl _ _⟩
theorem flows_list (w : World) (F : Nat → Prop) (g : Nat) (fl : List FlowM) (most : Int) (h : Tab w F g fl most) : Calls Try.prog 10 #[.pointer (some ⟨g, 0, none⟩)] w (SliceTo w fl) := by
  have hlen : fl.length ≤ 64 := by have := h.len; have := h.most64; omega
  have hwf := h.wf
  obtain ⟨⟨⟨sa, sl, sc⟩, mb, n, hblk, hown, _, _, _⟩, _⟩ := h
  have c0 : w.cell? ⟨g, 0, none⟩ = some (.slice sa sl sc) := hblk.cell 0
  have hq := hown.slof FlowM.length hwf
  have hnc := hown.nilcap
  have h0 := hown.1
  have Hq := hide hq; have Hnc := hide hnc; have H0 := hide h0
  clear hq hnc hown hblk h0 hwf
  go_enter Try.func10, Try.ntmps10
  go_wp2_with fail
  cases sa with
  | none =>
    have e := Hnc.out rfl
    simp only [SlV.mk.injEq, true_and] at e
    obtain ⟨rfl, rfl⟩ := e
    have hf : fl = [] := List.eq_nil_of_length_eq_zero H0.out.symm
    subst hf
    refine (clone_nil _).mono ?_
    rintro e w2 ⟨s, rfl, h1, h2⟩
    have H1 := hide h1; have H2 := hide h2
    clear h1 h2
    go_wp2_with fail
    go_ret
    exact ⟨s, rfl, H1.out, H2.out⟩
  | some x =>
    refine (clone_some x sl sc fl _ Hq.out (by omega)).mono ?_
    rintro e w2 ⟨s, rfl, h1, h2⟩
    have H1 := hide h1; have H2 := hide h2
    clear h1 h2
    go_wp2_with fail
    go_ret
    exact ⟨s, rfl, H1.out, H2.out⟩

theorem flows_put_nil (f : FlowM) (w : World) : Calls Try.prog 11 #[.pointer none, .agg f.cells.toArray] w fun e w' => e = .returned (.bool false) ∧ Fr noB w w' := by
  go_enter Try.func11, Try.ntmps11
  go_wp2_with fail
  go_ret
  exact ⟨rfl, (Fr.refl _ _).alloc _⟩

theorem fidx_set {fl : List FlowM} {f : FlowM} {i : Nat} {x : FlowM} (h : fl[i]? = some x) (hk : x.key = f.key) : fidx (fl.set i f) = fidx fl := by
  funext k
  obtain ⟨hl, he⟩ := List.getElem?_eq_some_iff.1 h
  have : ∀ (l : List FlowM) (i : Nat) (hl : i < l.length), l[i].key = f.key → (l.set i f).findIdx? (fun x => decide (x.key = k)) = l.findIdx? (fun x => decide (x.key = k)) := by
    intro l
    induction l with
    | nil => intro i hl; simp at hl
    | cons y l ih =>
      intro i hl hk
      cases i with
      | zero => simp only [List.getElem_cons_zero] at hk; simp [List.findIdx?_cons, hk]
      | succ i =>
        simp only [List.getElem_cons_succ] at hk
        rw [List.set_cons_succ, List.findIdx?_cons, List.findIdx?_cons, ih i (by simpa using hl) hk]
  have e := this fl i hl (by rw [he]; exact hk)
  unfold fidx
  rw [e]
theorem keys_set {fl : List FlowM} {f : FlowM} {i : Nat} {x : FlowM} (h : fl[i]? = some x) (hk : x.key = f.key) : (fl.set i f).map (·.key) = fl.map (·.key) := by
  obtain ⟨hl, he⟩ := List.getElem?_eq_some_iff.1 h
  apply List.ext_getElem?
  intro j
  rw [List.getElem?_map, List.getElem?_map, List.getElem?_set]
  by_cases e : i = j
  · subst e; rw [if_pos rfl, if_pos hl, h]; simp [hk]
  · rw [if_neg e]

theorem Tab.same {w w' : World} {F : Nat → Prop} {g : Nat} {fl : List FlowM} {most : Int} (h : Tab w F g fl most) (hw : Fr noB w w') : Tab w' (gr F w w') g fl most ∧ Fr F w w' := by
  refine ⟨?_, hw.mono (fun _ _ h => h.elim)⟩
  obtain ⟨⟨s, mb, n, h1, h2, h3, h4, h5⟩, h6, h7, h8, h9, h10, h11, h12⟩ := h.frN hw
  exact ⟨⟨s, mb, n, h1, h2, h3, .inl h4, fun b hb => .inl (h5 b hb)⟩, .inl h6, fun b hb => by rcases hb with hb | hb; exact h7 b hb; exact hb.2, h8, h9, h10, h11, h12⟩

set_option maxHeartbeats 1000000 in
theorem flows_put (w : World) (F : Nat → Prop) (g : Nat) (fl : List FlowM) (most : Int) (h : Tab w F g fl most) (f : FlowM) (hwf : f.wf) :
    Calls Try.prog 11 #[.pointer (some ⟨g, 0, none⟩), .agg f.cells.toArray] w (TabTo w F g (putF fl f).l most (.bool (putF fl f).ok)) := by
  have H := hide h
  have hlen : fl.length ≤ 64 := by have := h.len; have := h.most64; omega
  clear h
  go_enter Try.func11, Try.ntmps11
  go_upto_region 3 with (fail)
  refine wp_gen (fun W => CellsAt W w.heap.size 0 f.cells ∧ Fr noB w W ∧ W.heap.size = w.heap.size + 1) ⟨by (repeat (first | assumption | exact cells_new _ _ _ (by simp) | refine CellsAt.alloc ?_ _ | refine CellsAt.drew ?_ | refine CellsAt.drewN ?_ _)), (Fr.refl _ _).alloc _, by simp⟩ ?_
  rintro w1 ⟨hcf, hf, hw1⟩
  have Hf := hide hf; have Hw1 := hide hw1
  obtain ⟨⟨⟨sa, sl, sc⟩, mb, n, hblk, hown, hkm, hF1, hF2⟩, hF0, hlt, hkeys, hle, hm0, hm64, hwfs⟩ := H.out.frN hf
  have hsl : sl = fl.length := hown.1
  have hg1 : ∀ z : Grow w1, z.v.cell? ⟨g, 1, none⟩ = some (.map (some mb)) := fun z => (hblk.fr z.fr (fun h => h)).cell 1
  have hg0 : ∀ z : Grow w1, z.v.cell? ⟨g, 0, none⟩ = some (.slice sa sl sc) := fun z => (hblk.fr z.fr (fun h => h)).cell 0
  have hmz : ∀ W, (∃ z : Grow w1, W = z.v) → KMap KeyM.cells W mb n (fidx fl) := fun W ⟨z, hz⟩ => by subst hz; exact hkm.fr z.fr (fun h => h)
  have HMZ := hide hmz
  have Hblk := hide hblk; have Hown := hide hown; have Hkm := hide hkm; have Hsl := hide hsl; have HF1 := hide hF1; have HF2 := hide hF2; have HF0 := hide hF0; have Hkeys := hide hkeys; have Hwfs := hide hwfs; have Hlt := hide hlt; have Hle := hide hle
  have hck := key_of_flow hcf
  clear hblk hown hkm hsl hF1 hF2 hF0 hkeys hwfs hlt hle hmz hf hw1
  refine wp_region_mix (fun W => ∃ z : Grow w1, W = z.v) (by kernel_rfl) (by kernel_rfl) (inGrow (Fr.refl _ _).drew) ?_
  iterate 5 (first | (refine wpMix_skip rfl ?_; simp only [Act.put, List.setIfInBounds_toArray, List.set_cons_succ, List.set_cons_zero]) | (refine wpMix_calm rfl rfl (fun K hK => ?_); go_big_quiet_op; refine hK _ ?_; clear hK K))
  (refine wpMix_load_atw rfl 25 (.tmp 14) rfl _ _ rfl (KeyM.cells _) (fun W hW => by obtain ⟨z, rfl⟩ := hW; exact CellsAt.fr (by (repeat (first | assumption | exact cells_new _ _ _ (by simp) | refine CellsAt.alloc ?_ _ | refine CellsAt.drew ?_ | refine CellsAt.drewN ?_ _))) z.fr (fun h => h)) _ Try.underlying25 rfl (by kernel_rfl) ?_; simp only [Act.put, List.setIfInBounds_toArray, List.set_cons_succ, List.set_cons_zero])
  cases hi : fl.findIdx? (fun x => decide (x.key = f.key)) with
  | none =>
    have E1 := hide (fidx_none hi)
    have HP := hide (show putF fl f = ⟨false, fl⟩ from by unfold putF; rw [hi])
    clear hi
    refine wpMix_klookup rfl (.tmp 13) (.tmp 15) true rfl key_fit Try.underlying56 (by kernel_rfl) f.key rfl rfl HMZ.out (.tuple #[.int .i64 0, .bool false]) (by rw [E1.out]; rfl) ?_
    simp only [Act.put, List.setIfInBounds_toArray, List.set_cons_succ, List.set_cons_zero]
    repeat (first | (refine wpMix_skip rfl ?_; simp only [Act.put, List.setIfInBounds_toArray, List.set_cons_succ, List.set_cons_zero]) | (refine wpMix_calm rfl rfl (fun K hK => ?_); go_big_quiet_op; refine hK _ ?_; clear hK K))
    refine wpMix_nil ?_
    go_wp2_with fail
    go_ret
    unfold TabTo
    rw [HP.out]
    exact ⟨rfl, H.out.same Hf.out.drew⟩
  | some i =>
    obtain ⟨e1, x, hx, e2, e3⟩ := fidx_some hi
    have HP := hide (show putF fl f = ⟨true, fl.set i f⟩ from by unfold putF; rw [hi])
    have E1 := hide e1; have Hx := hide hx; have E3 := hide e3
    clear e1 hi e2 hx e3
    refine wpMix_klookup rfl (.tmp 13) (.tmp 15) true rfl key_fit Try.underlying56 (by kernel_rfl) f.key rfl rfl HMZ.out (.tuple #[.int .i64 i, .bool true]) (by rw [E1.out]; rfl) ?_
    simp only [Act.put, List.setIfInBounds_toArray, List.set_cons_succ, List.set_cons_zero]
    repeat (first | (refine wpMix_skip rfl ?_; simp only [Act.put, List.setIfInBounds_toArray, List.set_cons_succ, List.set_cons_zero]) | (refine wpMix_calm rfl rfl (fun K hK => ?_); go_big_quiet_op; refine hK _ ?_; clear hK K))
    refine wpMix_nil ?_
    go_upto_region 5 with (fail)
    obtain ⟨gs, rfl, hil, hcx, junk, hbs⟩ := own_at Hown.out FlowM.length Hx.out
    have hil : i < sl := hil
    have hmul : ((i : Int) * 14).toNat = i * 14 := by omega
    have hmax : sl ≤ 64 := by rw [Hsl.out]; exact hlen
    clear hlen hcx hbs
    refine wp_region_mixT 7 (fun W => ∃ z : Grow w1, W = z.v) (by kernel_rfl) (by kernel_rfl) (inGrow (Fr.refl _ _).drew.drew) ?_
    simp only [List.take_succ_cons, List.take_zero, List.drop_succ_cons, List.drop_zero]
    iterate 5 (first | (refine wpMix_skip rfl ?_; simp only [Act.put, List.setIfInBounds_toArray, List.set_cons_succ, List.set_cons_zero]) | (refine wpMix_calm rfl rfl (fun K hK => ?_); go_big_quiet_op; refine hK _ ?_; clear hK K))
    (refine wpMix_load_atw rfl 29 (.tmp 3) rfl _ _ rfl (FlowM.cells _) (fun W hW => by obtain ⟨z, rfl⟩ := hW; exact CellsAt.fr (by (repeat (first | assumption | exact cells_new _ _ _ (by simp) | refine CellsAt.alloc ?_ _ | refine CellsAt.drew ?_ | refine CellsAt.drewN ?_ _))) z.fr (fun h => h)) _ Try.underlying29 rfl (by kernel_rfl) ?_; simp only [Act.put, List.setIfInBounds_toArray, List.set_cons_succ, List.set_cons_zero])
    repeat (first | (refine wpMix_skip rfl ?_; simp only [Act.put, List.setIfInBounds_toArray, List.set_cons_succ, List.set_cons_zero]) | (refine wpMix_calm rfl rfl (fun K hK => ?_); go_big_quiet_op; refine hK _ ?_; clear hK K))
    refine wpMix_nil ?_
    have hownd : OwnL w1.drew.drew 29 14 FlowM.cells ⟨some ⟨gs, 0, none⟩, sl, sc⟩ fl := Hown.out
    refine wpList_store_elem rfl 29 (.tmp 26) (.tmp 25) rfl hownd FlowM.length rfl i (by have := Hsl.out; omega) f (by go_simp) rfl (by kernel_rfl) (FlowM.mem f) ?_
    intro w2 hown2 hf2 hsz2
    simp only [Act.put, List.setIfInBounds_toArray, List.set_cons_succ, List.set_cons_zero]
    have Hown2 := hide hown2
    have Hf2 := hide (show Fr (oneB gs) w1 w2 from ((Fr.refl (oneB gs) w1).drew.drew).tr hf2)
    have Hsz2 := hide (show w2.heap.size = w1.heap.size from hsz2)
    clear hownd hown2 hf2 hsz2 hcf hck hg0 hg1
    go_wp2_with fail
    go_ret
    unfold TabTo
    rw [HP.out]
    have hgF : F gs := HF2.out gs ⟨_, rfl, rfl⟩
    have hFR : Fr F w w2 := Fr.trans Hf.out Hf2.out (fun _ _ h => h.elim) (fun b _ hb => by unfold oneB at hb; subst hb; exact hgF)
    have n1 : ¬ oneB gs g := fun e => blk_ne_own Hblk.out Hown.out (by decide) ⟨_, rfl, e.symm⟩
    have n2 : ¬ oneB gs mb := fun e => own_ne_map Hown.out Hkm.out ⟨_, rfl, e.symm⟩
    refine ⟨rfl, ⟨⟨⟨some ⟨gs, 0, none⟩, sl, sc⟩, mb, n, Hblk.out.fr Hf2.out n1, Hown2.out, ?_, .inl HF1.out, fun b hb => .inl (HF2.out b hb)⟩, .inl HF0.out, fun b hb => ?_, ?_, ?_, H.out.most0, H.out.most64, ?_⟩, hFR⟩
    · rw [fidx_set Hx.out E3.out]; exact Hkm.out.fr Hf2.out n2
    · rcases hb with hb | hb
      · have := H.out.lt b hb; have := hFR.size; omega
      · exact hb.2
    · unfold Keys; rw [keys_set Hx.out E3.out]; exact Hkeys.out
    · rw [List.length_set]; exact Hle.out
    · intro y hy
      rcases List.mem_or_eq_of_mem_set hy with h | rfl
      · exact Hwfs.out y h
      · exact hwf
end Go.Proofs.Ytjfjpibjjliagaa

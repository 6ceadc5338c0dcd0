/- The document's answer to chapter 9: Get, below; alike's list. -/
import Derived.Test.YtgjabgneapdbiaaTrieDocLong
namespace Go.Proofs.Ytgjabgneapdbiaa
open Go.RowKit Go.BigFrame
set_option linter.unusedSimpArgs false
set_option linter.unusedVariables false
attribute [local irreducible] wpMix wpAnyG

set_option maxRecDepth 100000 in
set_option maxHeartbeats 2000000 in
theorem doc_get (w : World) (F : Nat → Prop) (g : Nat) (ty : TypeId) (rest : List Value) (l : List EntM) (h : DocT w F g ty rest l) (hs : SortedE l) (p : PrefixM) :
    Calls Try.prog 37 #[.pointer (some ⟨g, 0, none⟩), .agg p.cells.toArray] w fun e w' => e = .returned (getV (getE l p)) ∧ Fr noB w w' := by
  have H := hide h; have HG := hide (getE_pos hs p)
  have hlen := h.len
  clear h hs
  go_enter Try.func37, Try.ntmps37
  go_upto_region 1 with (fail)
  refine wp_gen (fun W => CellsAt W w.heap.size 0 p.cells ∧ Fr noB w W) ⟨by (repeat (first | assumption | exact cells_new _ _ _ (by simp) | refine CellsAt.alloc ?_ _ | refine CellsAt.drew ?_ | refine CellsAt.drewN ?_ _)), (Fr.refl _ _).alloc _⟩ ?_
  rintro w1 ⟨hc1, hf1⟩
  have Hf1 := hide hf1
  clear hf1
  go_wp2_with (refine wpList_load_atw rfl 28 _ rfl _ _ rfl (PrefixM.cells _) (by (repeat (first | assumption | exact cells_new _ _ _ (by simp) | refine CellsAt.alloc ?_ _ | refine CellsAt.drew ?_ | refine CellsAt.drewN ?_ _))) _ Try.underlying28 rfl (by kernel_rfl) ?_)
  refine (doc_place w1 F g ty rest l (H.out.frN Hf1.out) p).mono ?_
  rintro e w2 ⟨rfl, hf2⟩
  unfold searchE
  have Hf2 := hide (Hf1.out.tr hf2)
  clear hf2 hc1
  cases hh : hasE l p with
  | false =>
    have HR := hide (show getE l p = none from by rw [HG.out, hh]; rfl)
    clear hh
    go_wp2_with fail
    go_ret2
    rw [HR.out]
    exact ⟨rfl, Hf2.out⟩
  | true =>
    obtain ⟨x, hx, hxp⟩ := hasE_some hh
    have HR := hide (show getE l p = some x from by rw [HG.out, hh, hx]; rfl)
    have hlt := hasE_lt hh
    obtain ⟨⟨⟨pa, pl, pc⟩, ⟨va, vl, vc⟩, hblk, hop, hov, _⟩, _⟩ := H.out.frN Hf2.out
    have hvl : vl = l.length := hov.1
    obtain ⟨gv, hgv, _, hcv, _⟩ := own_at hov vcE_length hx
    simp only at hgv
    subst hgv
    have c1 : w2.cell? ⟨g, 1, none⟩ = some (.slice (some ⟨gv, 0, none⟩) vl vc) := hblk.cell 1
    generalize posE l p = k at *
    have cv : w2.cell? ⟨gv, k, none⟩ = some (.int .i64 x.v) := by have := hcv 0 _ rfl; simpa using this
    have hkl : k < vl := by omega
    have hkm : k ≤ 1000 := by omega
    have hmul : ((k : Int) * 1).toNat = k := by omega
    have hmul2 : (k : Int).toNat = k := by omega
    clear hh hx hcv hov hop hblk hvl hlt
    go_wp2_with fail
    go_ret2
    rw [HR.out]
    exact ⟨rfl, Hf2.out⟩

def BlwAt (w0 : World) (l : List EntM) (p : PrefixM) (i : Value) (wr : World) : Prop := ∃ k : Nat, k ≤ l.length ∧ i = .int .i64 k ∧ (∀ j x, j < k → l[j]? = some x → covB p x.p = false) ∧ Fr noB w0 wr
set_option maxRecDepth 100000 in
set_option maxHeartbeats 2000000 in
theorem doc_below (w : World) (F : Nat → Prop) (g : Nat) (ty : TypeId) (rest : List Value) (l : List EntM) (h : DocT w F g ty rest l) (hok : ∀ x ∈ l, okP x.p) (p : PrefixM) (hp : p.wf) :
    Calls Try.prog 80 #[.pointer (some ⟨g, 0, none⟩), .agg p.cells.toArray] w fun e w' => e = .returned (.bool ((l.map (·.p)).any (fun x => covB p x))) ∧ Fr noB w w' := by
  have H := hide h; have Hok := hide hok; have Hp := hide hp
  have hlen := h.len
  clear h hok hp
  go_enter Try.func80, Try.ntmps80
  go_upto_region 1 with (fail)
  refine wp_gen (fun W => CellsAt W w.heap.size 0 p.cells ∧ Fr noB w W) ⟨by (repeat (first | assumption | exact cells_new _ _ _ (by simp) | refine CellsAt.alloc ?_ _ | refine CellsAt.drew ?_ | refine CellsAt.drewN ?_ _)), (Fr.refl _ _).alloc _⟩ ?_
  rintro w1 ⟨hc1, hf1⟩
  have Hc1 := hide hc1; have Hf1 := hide hf1
  clear hc1 hf1
  go_wp2_with fail
  go_loopw [5] (BlwAt w1 l p) (fun i _ => l.length - (intOf i).toNat)
  case atStart => exact ⟨0, Nat.zero_le _, rfl, fun j x hj => by omega, Fr.refl _ _⟩
  case round =>
    obtain ⟨k, hk, rfl, hno, hf2⟩ := hrel
    have Hno := hide hno; have Hf2 := hide hf2
    have Hc2 := hide (show CellsAt wr w.heap.size 0 p.cells from Hc1.out.fr hf2 (fun h => h))
    clear hno hf2
    obtain ⟨⟨⟨sa, sl, sc⟩, sv, hblk, hown, _⟩, _⟩ := H.out.frN (Hf1.out.tr Hf2.out)
    have hsl : sl = l.length := hown.1
    have hg0 : ∀ z : Grow wr, z.v.cell? ⟨g, 0, none⟩ = some (.slice sa sl sc) := fun z => by rw [(hblk.fr z.fr (fun h => h)).cell 0]; rfl
    have c0 : wr.cell? ⟨g, 0, none⟩ = some (.slice sa sl sc) := hblk.cell 0
    have hmax : sl ≤ 1000 := by rw [hsl]; exact hlen
    have Hsl := hide hsl; have Hown := hide hown
    clear hsl hblk hown
    by_cases hlt : k < sl
    · have hx : l[k]? = some (l[k]'(by have := Hsl.out; omega)) := List.getElem?_eq_getElem _
      generalize l[k] = x at hx
      obtain ⟨gs, rfl, _, hcx, _⟩ := own_at Hown.out pcE_length hx
      have Hx := hide hx; have Hcx := hide (show CellsAt wr gs (k * 2) x.p.cells from hcx)
      have Hxo := hide (Hok.out x (List.mem_of_getElem? hx))
      have hmul : ((k : Int) * 2).toNat = k * 2 := by omega
      clear hx hk hcx
      go_upto_region 4 with (fail)
      refine wp_region_mix (fun W => ∃ z : Grow wr, W = z.v) (by kernel_rfl) (by kernel_rfl) (inGrow (Fr.refl _ _).drew) ?_
      refine wpMix_load_atw rfl 28 (.tmp 3) rfl w.heap.size 0 rfl p.cells (fun W hW => by obtain ⟨z, rfl⟩ := hW; exact Hc2.out.fr z.fr (fun h => h)) _ Try.underlying28 rfl (by kernel_rfl) ?_
      simp only [Act.put, List.setIfInBounds_toArray, List.set_cons_succ, List.set_cons_zero]
      iterate 6 (first | (refine wpMix_skip rfl ?_; simp only [Act.put, List.setIfInBounds_toArray, List.set_cons_succ, List.set_cons_zero]) | (refine wpMix_calm rfl rfl (fun K hK => ?_); go_big_quiet_op; refine hK _ ?_; clear hK K))
      refine wpMix_load_atw rfl 28 (.tmp 21) rfl gs (k * 2) (by go_simp) x.p.cells (fun W hW => by obtain ⟨z, rfl⟩ := hW; exact Hcx.out.fr z.fr (fun h => h)) _ Try.underlying28 rfl (by kernel_rfl) ?_
      simp only [Act.put, List.setIfInBounds_toArray, List.set_cons_succ, List.set_cons_zero]
      refine wpMix_spine rfl rfl (fun K hK => ?_); go_wp2_with fail
      refine (ref3_Covers p x.p Hp.out Hxo.out.2 _).mono ?_
      rintro e w3 ⟨rfl, hf3⟩
      have Hf3 := hide ((Fr.refl noB wr).drew.tr hf3)
      refine hK _ _ rfl (inGrow Hf3.out) ?_
      clear hK K hf3
      refine wpMix_nil ?_
      clear hg0 c0
      cases hcv : covB p x.p with
      | true =>
        have HR := hide (show (l.map (·.p)).any (fun x => covB p x) = true from List.any_eq_true.2 ⟨x.p, List.mem_map.2 ⟨x, List.mem_of_getElem? Hx.out, rfl⟩, hcv⟩)
        clear hcv
        go_wp2_with fail
        go_ret
        rw [HR.out]
        exact ⟨rfl, Hf1.out.tr (Hf2.out.tr Hf3.out)⟩
      | false =>
        have Hcv := hide hcv
        clear hcv
        go_wp2_with fail
        go_roundw
        case rel =>
          refine ⟨k + 1, by have := Hsl.out; omega, by go_num, fun j y hj hy => ?_, Hf2.out.tr Hf3.out⟩
          by_cases e : j = k
          · subst e; rw [Hx.out] at hy; obtain rfl := Option.some.inj hy; exact Hcv.out
          · exact Hno.out j y (by omega) hy
        case measure => have := Hsl.out; simp [intOf]; omega
    · have HR := hide (show (l.map (·.p)).any (fun x => covB p x) = false from by
        rw [List.any_eq_false]
        intro y hy
        obtain ⟨x, hx, rfl⟩ := List.mem_map.1 hy
        obtain ⟨j, hj⟩ := List.getElem?_of_mem hx
        rw [Hno.out j x (by have := (List.getElem?_eq_some_iff.1 hj).1; have := Hsl.out; omega) hj]
        simp)
      clear hg0
      go_wp2_with fail
      go_ret
      rw [HR.out]
      exact ⟨rfl, Hf1.out.tr Hf2.out⟩

theorem slof_map {α β : Type} {w : World} {N : Nat} {cells : β → List Value} {f : α → β} {s : SlV} {xs : List α} (h : SlOf w N (fun x => cells (f x)) (fun _ => True) s xs) : SlOf w N cells (fun _ => True) s (xs.map f) := by
  obtain ⟨h1, h2, h3⟩ := h
  refine ⟨by rw [List.length_map]; exact h1, h2, ?_⟩
  rcases h3 with rfl | ⟨b, o, e, hb, hk⟩
  · exact .inl rfl
  · refine .inr ⟨b, o, e, hb, fun k y hy => ?_⟩
    rw [List.getElem?_map] at hy
    obtain ⟨x, hx, rfl⟩ := Option.map_eq_some_iff.1 hy
    exact ⟨(hk k x hx).1, trivial⟩
end Go.Proofs.Ytgjabgneapdbiaa

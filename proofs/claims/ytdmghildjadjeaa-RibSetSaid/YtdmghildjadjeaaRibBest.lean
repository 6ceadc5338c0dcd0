/- rib: Best. -/
import Derived.Test.YtdmghildjadjeaaRibAct
namespace Go.Proofs.Ytdmghildjadjeaa
open Go.RowKit Go.BigFrame
set_option linter.unusedSimpArgs false
set_option linter.unusedVariables false
attribute [local irreducible] wpMix wpAnyG

structure BestR where
  r : RouteM
  ok : Bool
def bestV (x : BestR) : Value := .tuple #[.agg x.r.cells.toArray, .bool x.ok]
def toBest (o : Option RouteM) : BestR := match o with | some r => ⟨r, true⟩ | none => ⟨zeroR, false⟩
def findP (al : List RouteM) (p : PrefixM) : Option RouteM := al.find? (fun r => decide (r.pfx = p))
theorem results_ft {P : Program} {fn : Func} {p u : Tmp} {ty : TypeId} (h : fn.results = #[.cell p ty, .tmp u]) (tmps : Array Value) (w : World) (b o : Nat) (cs : List Value) (d : TypeDesc)
    (hp : tmps.getD p undef = .pointer (some ⟨b, o, none⟩)) (hc : CellsAt w b o cs) (hu : P.underlying ty = some d) (hd : (match d with | .struct _ | .array _ _ => true | _ => false) = true) (hi : (P.info? ty).map (·.size) = some cs.length)
    (x : Value) (hx : tmps.getD u undef = x) : (results fn tmps).run P w = .ok (.tuple #[.agg cs.toArray, x]) w := by
  have hp' : tmps[p]?.getD undef = .pointer (some ⟨b, o, none⟩) := by simpa using hp
  have hl := run_loadVar_at (P := P) w ty b o cs hc d hu hd hi
  subst hx
  simp [results, h, hp', asAddr, Sem.run_bind, hl]
theorem findP_at {al : List RouteM} {p : PrefixM} {k : Nat} {r : RouteM} (hno : ∀ j x, j < k → al[j]? = some x → x.pfx ≠ p) (hr : al[k]? = some r) (hp : r.pfx = p) : findP al p = some r := by
  unfold findP
  rw [List.find?_eq_some_iff_getElem]
  obtain ⟨hl, rfl⟩ := List.getElem?_eq_some_iff.1 hr
  exact ⟨by simpa using hp, k, hl, rfl, fun j hj => by simpa using hno j _ hj (List.getElem?_eq_getElem _)⟩
theorem findP_none {al : List RouteM} {p : PrefixM} (hno : ∀ j x, j < al.length → al[j]? = some x → x.pfx ≠ p) : findP al p = none := by
  unfold findP
  rw [List.find?_eq_none]
  intro x hx
  obtain ⟨j, hj⟩ := List.getElem?_of_mem hx
  simpa using hno j x (List.getElem?_eq_some_iff.1 hj).1 hj
def BestAt (al : List RouteM) (p : PrefixM) (w0 : World) (i : Value) (wr : World) : Prop := ∃ k : Nat, k ≤ al.length ∧ i = .int .i64 k ∧ (∀ j x, j < k → al[j]? = some x → x.pfx ≠ p) ∧ Fr noB w0 wr

set_option maxRecDepth 100000 in
set_option maxHeartbeats 2000000 in
theorem best_from (rp : Option Addr) (w : World) (table : Int) (p : PrefixM) (su : SlV) (al : List RouteM) (hal : al.length ≤ 256)
    (hact : ∀ w1, Fr noB w w1 → Calls Try.prog 21 #[.pointer rp, .int .i64 table, .slice su.a su.len su.cap] w1 (AllTo w1 al)) :
    Calls Try.prog 18 #[.pointer rp, .int .i64 table, .agg p.cells.toArray, .slice su.a su.len su.cap] w fun e w' => e = .returned (bestV (toBest (findP al p))) ∧ Fr noB w w' := by
  go_enter Try.func18, Try.ntmps18
  go_upto_region 1 with (fail)
  refine wp_gen (fun W => CellsAt W w.heap.size 0 p.cells ∧ Blk W (w.heap.size + 1) zeroR.cells.toArray 26 ∧ Fr noB w W) ⟨by (repeat (first | assumption | exact cells_new _ _ _ (by simp) | refine CellsAt.alloc ?_ _ | refine CellsAt.drew ?_ | refine CellsAt.drewN ?_ _)), ?_, ((Fr.refl _ _).alloc _).alloc _⟩ ?_
  · have h := Blk.alloc_new (w.alloc (.cells p.cells.toArray 24)) zeroR.cells.toArray 26
    rw [World.size_alloc] at h
    exact h
  rintro w1 ⟨hcp, hb, hf⟩
  have Hcp := hide hcp; have HB := hide hb; have Hf := hide hf
  clear hcp hb
  go_wp2_with fail
  refine (hact w1 hf).mono ?_
  rintro e w2 ⟨s2, rfl, hn2, hf2⟩
  have Hn2 := hide hn2; have Hf2 := hide (Hf.out.tr hf2); have Hcp2 := hide (Hcp.out.fr hf2 (fun h => h)); have HB2 := hide (HB.out.fr hf2 (fun h => h))
  clear hn2 hf2 hf hact
  obtain ⟨s2a, s2l, s2c⟩ := s2
  have hs2 : s2l = al.length := Hn2.out.1.1
  have Hs2 := hide hs2
  have hs2m : s2l ≤ 256 := by omega
  clear hs2 hal
  simp only
  go_wp2_with fail
  go_loopw [17] (BestAt al p w2) (fun i _ => s2l - (intOf i).toNat)
  case atStart => exact ⟨0, Nat.zero_le _, rfl, fun j x hj => by omega, Fr.refl _ _⟩
  case round =>
    obtain ⟨k, hk, rfl, hno, hf3⟩ := hrel
    have Hno := hide hno; have Hf3 := hide hf3
    clear hno hf3
    by_cases hlt : k < s2l
    · have hk2 : k < al.length := by have := Hs2.out; omega
      have hx : al[k]? = some al[k] := List.getElem?_eq_getElem hk2
      generalize al[k] = r at hx
      have Hx := hide hx
      obtain ⟨gs, rfl, _, hcx, _⟩ := own_at (Hn2.out.1.fr Hf3.out (fun _ _ h => h)) RouteM.length hx
      have hmul : ((k : Int) * 6).toNat = k * 6 := by omega
      clear hx hk
      go_upto_region 4 with (first | (refine wpList_load_at rfl 26 _ rfl _ _ rfl (RouteM.cells _) (by (repeat (first | assumption | exact cells_new _ _ _ (by simp) | refine CellsAt.alloc ?_ _ | refine CellsAt.drew ?_ | refine CellsAt.drewN ?_ _))) _ Try.underlying26 rfl (by kernel_rfl) ?_) | (refine wpList_store_new rfl 26 _ _ rfl _ _ (RouteM.cells _) _ rfl rfl (by simp) (by kernel_rfl) rfl (by kernel_rfl) ?_))
      simp only [Act.put, List.setIfInBounds_toArray, List.set_cons_succ, List.set_cons_zero]
      refine wp_gen (fun W => CellsAt W wr.heap.size 0 r.cells ∧ Fr noB wr W) ⟨cells_new _ _ _ rfl, (Fr.refl _ _).alloc _⟩ ?_
      rintro w4 ⟨hc4, hf4⟩
      have Hc4 := hide hc4; have Hf4 := hide (Hf3.out.tr hf4)
      have hcrp : CellsAt w4 wr.heap.size 1 r.pfx.cells := cells_pre (ds := [.int .i64 r.iface, .int .u32 (r.gate : Nat), .int .i64 r.metric]) (by have h := cells_part hc4 1; exact h)
      have hcp4 : CellsAt w4 w.heap.size 0 p.cells := Hcp2.out.fr Hf4.out (fun h => h)
      have HB4 := hide (HB2.out.fr Hf4.out (fun h => h))
      clear hc4 hf4 hcx
      by_cases hpp : r.pfx = p
      · have HF := hide (findP_at Hno.out Hx.out hpp)
        have hd := decide_eq_true hpp
        clear hpp
        go_upto_if 24 with (first | (refine wpList_load_at rfl 24 (.tmp 21) rfl wr.heap.size 1 rfl r.pfx.cells hcrp _ Try.underlying24 rfl (by kernel_rfl) ?_) | (refine wpList_load_at rfl 24 (.tmp 6) rfl w.heap.size 0 rfl p.cells hcp4 _ Try.underlying24 rfl (by kernel_rfl) ?_) | (refine wpList_eqs rfl false 24 (.tmp 22) (.tmp 23) rfl r.pfx.cells.toArray p.cells.toArray rfl rfl true (by kernel_rfl) (by rw [prefix_equal, hd]) ?_))
        simp only [Act.put, List.setIfInBounds_toArray, List.set_cons_succ, List.set_cons_zero]
        rw [show (false ^^ true) = true from rfl]
        clear hcrp hcp4
        have hc4 := Hc4.out
        go_wp2_with (first | (refine wpList_load_at rfl 26 _ rfl _ _ rfl (RouteM.cells _) (by (repeat (first | assumption | exact cells_new _ _ _ (by simp) | refine CellsAt.alloc ?_ _ | refine CellsAt.drew ?_ | refine CellsAt.drewN ?_ _))) _ Try.underlying26 rfl (by kernel_rfl) ?_) | (refine wpList_store_row rfl 26 (.tmp 8) (.tmp 25) rfl _ r.cells.toArray rfl rfl _ _ HB4.out (by kernel_rfl) rfl (RouteM.onea _) ?_))
        rw [HF.out]
        exact bodyPost_ret (v := bestV ⟨r, true⟩) (results_ft Try.results18 _ _ _ 0 r.cells _ rfl (Blk.cells (HB4.out.setRow)) Try.underlying26 rfl (by kernel_rfl) _ rfl) rfl ⟨rfl, (Hf2.out.tr Hf4.out).setRow (.inl (by omega)) _⟩
      · have hd := decide_eq_false hpp
        have Hpp := hide hpp
        clear hpp
        go_upto_if 24 with (first | (refine wpList_load_at rfl 24 (.tmp 21) rfl wr.heap.size 1 rfl r.pfx.cells hcrp _ Try.underlying24 rfl (by kernel_rfl) ?_) | (refine wpList_load_at rfl 24 (.tmp 6) rfl w.heap.size 0 rfl p.cells hcp4 _ Try.underlying24 rfl (by kernel_rfl) ?_) | (refine wpList_eqs rfl false 24 (.tmp 22) (.tmp 23) rfl r.pfx.cells.toArray p.cells.toArray rfl rfl false (by kernel_rfl) (by rw [prefix_equal, hd]) ?_))
        simp only [Act.put, List.setIfInBounds_toArray, List.set_cons_succ, List.set_cons_zero]
        rw [show (false ^^ false) = false from rfl]
        clear hcrp hcp4
        go_wp2_with fail
        go_roundw
        case rel =>
          refine ⟨k + 1, by have := Hs2.out; omega, by go_num, fun j x hj hx => ?_, Hf4.out⟩
          by_cases e : j = k
          · subst e
            rw [Hx.out] at hx
            obtain rfl := Option.some.inj hx
            exact Hpp.out
          · exact Hno.out j x (by omega) hx
        case measure => simp [intOf]; omega
    · have HF := hide (findP_none (p := p) (al := al) (fun j x hj hx => Hno.out j x (by have := Hs2.out; omega) hx))
      have HB4 := hide (HB2.out.fr Hf3.out (fun h => h))
      go_wp2_with (refine wpList_store_row rfl 26 (.tmp 8) (.tmp 27) rfl _ zeroR.cells.toArray rfl rfl _ _ HB4.out (by kernel_rfl) rfl (RouteM.onea _) ?_)
      rw [HF.out]
      exact bodyPost_ret (v := bestV ⟨zeroR, false⟩) (results_ft Try.results18 _ _ _ 0 zeroR.cells _ rfl (Blk.cells (HB4.out.setRow)) Try.underlying26 rfl (by kernel_rfl) _ rfl) rfl ⟨rfl, (Hf2.out.tr Hf3.out).setRow (.inl (by omega)) _⟩
theorem rib_best (w : World) (F : Nat → Prop) (g : Nat) (l : List RouteM) (h : Rib w F g l) (table : Int) (p : PrefixM) (su : SlV) (up : List Bool) (hu : Ups w su up) :
    Calls Try.prog 18 #[.pointer (some ⟨g, 0, none⟩), .int .i64 table, .agg p.cells.toArray, .slice su.a su.len su.cap] w fun e w' => e = .returned (bestV (toBest (findP (activeL l table up) p))) ∧ Fr noB w w' :=
  best_from _ w table p su _ (Nat.le_trans (active_len' l table up) h.len) (fun w1 hf => rib_active w1 F g l (h.frN hf) table su up (SlOf.fr hu hf (fun _ _ h => h) (fun _ h => h)))
theorem rib_best_nil (w : World) (table : Int) (p : PrefixM) (su : SlV) :
    Calls Try.prog 18 #[.pointer none, .int .i64 table, .agg p.cells.toArray, .slice su.a su.len su.cap] w fun e w' => e = .returned (bestV ⟨zeroR, false⟩) ∧ Fr noB w w' :=
  best_from none w table p su [] (by simp) (fun w1 hf => (rib_active_nil table su w1).mono fun e w' ⟨he, hf⟩ => ⟨⟨none, 0, 0⟩, he, NewL.nil _ _ _ _ _, hf⟩)
end Go.Proofs.Ytdmghildjadjeaa

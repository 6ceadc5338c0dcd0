/- The law RibTold, walked: it returns true. -/
import Derived.Test.YtdmghildjadjeaaRibPlayed
namespace Go.Proofs.Ytdmghildjadjeaa
open Go.RowKit Go.BigFrame
set_option linter.unusedSimpArgs false
set_option linter.unusedVariables false
attribute [local irreducible] wpMix wpAnyG

/-- Of so many the chosen one is there. -/
def thereB (l : List RouteM) (table : Int) (p : PrefixM) (up : List Bool) (k : Nat) (r : RouteM) : Bool := decide (r ∈ l.take k ∧ fitsR table p up r)
def ToldAt (w0 : World) (l : List RouteM) (table : Int) (p : PrefixM) (up : List Bool) (x : RouteM) (i th : Value) (wr : World) : Prop :=
  ∃ k : Nat, k ≤ l.length ∧ i = .int .i64 k ∧ th = .bool (thereB l table p up k x) ∧ Fr noB w0 wr
theorem there_succ {l : List RouteM} {table : Int} {p : PrefixM} {up : List Bool} {k : Nat} {r x : RouteM} (hr : l[k]? = some r) :
    thereB l table p up (k + 1) x = (thereB l table p up k x || (decide (fitsR table p up r) && decide (r = x))) := by
  unfold thereB
  rw [take_snoc hr, Bool.eq_iff_iff]
  simp only [List.mem_append, List.mem_singleton, Bool.or_eq_true, Bool.and_eq_true, decide_eq_true_eq]
  constructor
  · rintro ⟨h | rfl, hf⟩
    · exact .inl ⟨h, hf⟩
    · exact .inr ⟨hf, rfl⟩
  · rintro (⟨h, hf⟩ | ⟨hf, rfl⟩)
    · exact ⟨.inl h, hf⟩
    · exact ⟨.inr rfl, hf⟩
theorem there_end {l : List RouteM} {table : Int} {p : PrefixM} {up : List Bool} : (toBest (bestO l table p up)).ok = thereB l table p up l.length (toBest (bestO l table p up)).r := by
  have hb := bestIs (table := table) (up := up) l p
  cases h : bestO l table p up with
  | none =>
    unfold toBest thereB
    simp only [List.take_length]
    symm
    apply decide_eq_false
    rintro ⟨h1, h2⟩
    exact hb.2 h _ h1 h2
  | some x =>
    obtain ⟨h1, h2, _⟩ := hb.1 x h
    unfold toBest thereB
    simp only [List.take_length]
    rw [decide_eq_true ⟨h1, h2⟩]
/-- What is told of a route that fits. -/
theorem told_fits {l : List RouteM} {table : Int} {p : PrefixM} {up : List Bool} {k : Nat} {r : RouteM} (hr : l[k]? = some r) (hf : fitsR table p up r) : (toBest (bestO l table p up)).ok = true ∧ ¬ betR r (toBest (bestO l table p up)).r := by
  have hb := bestIs (table := table) (up := up) l p
  have hm := List.mem_of_getElem? hr
  cases h : bestO l table p up with
  | none => exact absurd hf (hb.2 h r hm)
  | some x =>
    obtain ⟨_, _, h3⟩ := hb.1 x h
    exact ⟨rfl, h3 r hm hf⟩
theorem there_not {l : List RouteM} {table : Int} {p : PrefixM} {up : List Bool} {k : Nat} {r x : RouteM} (hr : l[k]? = some r) (h : ¬ fitsR table p up r) : thereB l table p up (k + 1) x = thereB l table p up k x := by rw [there_succ hr, decide_eq_false h]; simp
set_option maxRecDepth 100000 in
set_option maxHeartbeats 8000000 in
theorem law_told (s : SlV) (xs : List ActM) (table : Int) (p : PrefixM) (su : SlV) (up : List Bool) (w : World) (hs : Acts w s xs) (hu : Ups w su up) :
    Calls Try.prog 8 #[.slice s.a s.len s.cap, .int .i64 table, .agg p.cells.toArray, .slice su.a su.len su.cap] w fun e w' => e = .returned (.bool true) ∧ Fr noB w w' := by
  have Hs := hide hs; have Hu := hide hu
  have hul : su.len ≤ maxLen := hu.2.1
  unfold maxLen at hul
  clear hs hu
  obtain ⟨ua, ul, uc⟩ := su
  simp only at hul ⊢
  by_cases h20 : 20 < ul
  · go_enter Try.func8, Try.ntmps8
    go_wp2_with fail
    go_ret
    exact ⟨rfl, (Fr.refl _ _).alloc _⟩
  · go_enter Try.func8, Try.ntmps8
    go_upto_region 3 with (fail)
    refine wp_gen (fun W => CellsAt W w.heap.size 0 p.cells ∧ Fr noB w W) ⟨by (repeat (first | assumption | exact cells_new _ _ _ (by simp) | refine CellsAt.alloc ?_ _ | refine CellsAt.drew ?_ | refine CellsAt.drewN ?_ _)), (Fr.refl _ _).alloc _⟩ ?_
    rintro w1 ⟨hc, hf⟩
    have Hc := hide hc; have Hf := hide hf
    clear hc hf
    go_wp2_with fail
    refine (law_played s xs w1 (SlOf.fr Hs.out Hf.out (fun _ _ h => h) (fun _ h => h))).mono ?_
    rintro e w2 ⟨l, g, gx, rfl, hb⟩
    obtain ⟨hf2, F, G, hrib, hdoc, _⟩ := hb
    have Hf2 := hide (Hf.out.tr hf2); have Hrib := hide hrib
    have hcp : CellsAt w2 w.heap.size 0 p.cells := Hc.out.fr hf2 (fun h => h)
    have Hcp := hide hcp
    clear hf2 hrib hdoc
    go_wp2_with (refine wpList_load_at rfl 24 _ rfl _ _ rfl (PrefixM.cells _) (by (repeat (first | assumption | exact cells_new _ _ _ (by simp) | refine CellsAt.alloc ?_ _ | refine CellsAt.drew ?_ | refine CellsAt.drewN ?_ _))) _ Try.underlying24 rfl (by kernel_rfl) ?_)
    refine (rib_best w2 F g l Hrib.out table p ⟨ua, ul, uc⟩ up (SlOf.fr Hu.out Hf2.out (fun _ _ h => h) (fun _ h => h))).mono ?_
    rintro e w3 ⟨rfl, hf3⟩
    rw [findP_active Hrib.out.sorted]
    obtain ⟨xr, xok, hX⟩ : ∃ r ok, toBest (bestO l table p up) = ⟨r, ok⟩ := ⟨_, _, rfl⟩
    have Hend : Hid (xok = thereB l table p up l.length xr) := hide (by have := there_end (l := l) (table := table) (p := p) (up := up); rw [hX] at this; exact this)
    have Htold : Hid (∀ k r, l[k]? = some r → fitsR table p up r → xok = true ∧ ¬ betR r xr) := hide (fun k r hr hf => by have := told_fits hr hf; rw [hX] at this; exact this)
    rw [hX]
    clear hX
    simp only [bestV]
    clear hcp
    go_upto_region 7 with (refine wpList_store_new rfl 26 _ _ rfl _ _ (RouteM.cells _) _ rfl rfl (by simp) (by kernel_rfl) rfl (by kernel_rfl) ?_)
    refine wp_gen (fun W => CellsAt W w3.heap.size 0 xr.cells ∧ Fr noB w2 W) ⟨cells_new _ _ _ rfl, hf3.alloc _⟩ ?_
    rintro w4 ⟨hc4, hf4⟩
    have Hc4 := hide hc4; have Hf4 := hide hf4
    clear hc4 hf4 hf3
    go_wp2_with fail
    refine (rib_all w4 F g l (Hrib.out.frN Hf4.out)).mono ?_
    rintro e w5 ⟨⟨s5a, s5l, s5c⟩, rfl, hn5, hf5⟩
    have Hn5 := hide hn5; have Hf5 := hide (Hf4.out.tr hf5)
    have Hs5 := hide (show s5l = l.length from hn5.1.1)
    have hs5m : s5l ≤ 256 := by have := Hs5.out; have := Hrib.out.len; omega
    have Hc5 := hide (Hc4.out.fr hf5 (fun h => h))
    have Hcp5 := hide (Hcp.out.fr Hf5.out (fun h => h))
    clear hn5 hf5
    go_wp2_with fail
    cases xok with
    | true =>
      go_loopw [16, 15] (ToldAt w5 l table p up xr) (fun i _ _ => s5l - (intOf i).toNat)
      case atStart => exact ⟨0, Nat.zero_le _, rfl, by unfold thereB; simp, Fr.refl _ _⟩
      case round =>
        obtain ⟨k, hk, rfl, hth, hf6⟩ := hrel
        have Hf6 := hide hf6
        generalize hT : thereB l table p up k xr = T at hth
        subst hth
        have HT0 := hide hT
        clear hf6 hk hT
        by_cases hlt : k < s5l
        · have hk2 : k < l.length := by have := Hs5.out; omega
          have hx : l[k]? = some l[k] := List.getElem?_eq_getElem hk2
          generalize l[k] = r at hx
          obtain ⟨gs, rfl, _, hcx, _⟩ := own_at (Hn5.out.1.fr Hf6.out (fun _ _ h => h)) RouteM.length hx
          have Hx := hide hx
          have hmul : ((k : Int) * 6).toNat = k * 6 := by omega
          clear hx hk2
          go_upto_region 13 with (first | (refine wpList_load_at rfl 26 _ rfl _ _ rfl (RouteM.cells _) (by (repeat (first | assumption | exact cells_new _ _ _ (by simp) | refine CellsAt.alloc ?_ _ | refine CellsAt.drew ?_ | refine CellsAt.drewN ?_ _))) _ Try.underlying26 rfl (by kernel_rfl) ?_) | (refine wpList_store_new rfl 26 _ _ rfl _ _ (RouteM.cells _) _ rfl rfl (by simp) (by kernel_rfl) rfl (by kernel_rfl) ?_))
          simp only [Act.put, List.setIfInBounds_toArray, List.set_cons_succ, List.set_cons_zero]
          refine wp_gen (fun W => CellsAt W wr.heap.size 0 r.cells ∧ Fr noB wr W) ⟨cells_new _ _ _ rfl, (Fr.refl _ _).alloc _⟩ ?_
          rintro w7 ⟨hc7, hf7⟩
          have Hc7 := hide hc7; have Hf7 := hide (Hf6.out.tr hf7)
          have Hc57 := hide (Hc5.out.fr Hf7.out (fun h => h))
          have hcp7 : CellsAt w7 w.heap.size 0 p.cells := Hcp5.out.fr Hf7.out (fun h => h)
          have hcrp := pfx_cells hc7
          have c0 := (route_now hc7).1
          have c3 := (route_now hc7).2.2.2.1
          rw [Nat.zero_add] at c3
          clear hcx hc7 hf7
          by_cases h1 : r.table = table
          · by_cases h2 : r.pfx = p
            · have t1 : (r.table != table) = false := by simp [h1]
              have hd := decide_eq_true h2
              have H1 := hide h1; have H2 := hide h2
              clear h1 h2
              go_wp2_with (first | (refine wpList_load_atw rfl 24 (.tmp 54) rfl wr.heap.size 1 rfl r.pfx.cells hcrp _ Try.underlying24 rfl (by kernel_rfl) ?_) | (refine wpList_load_atw rfl 24 (.tmp 6) rfl w.heap.size 0 rfl p.cells hcp7 _ Try.underlying24 rfl (by kernel_rfl) ?_) | (refine wpList_eqs rfl true 24 (.tmp 55) (.tmp 56) rfl r.pfx.cells.toArray p.cells.toArray rfl rfl true (by kernel_rfl) (by rw [prefix_equal, hd]) ?_; rw [show (true ^^ true) = false from rfl]))
              refine (ref_on ⟨ua, ul, uc⟩ up w7 (SlOf.fr Hu.out (Hf2.out.tr (Hf5.out.tr Hf7.out)) (fun _ _ h => h) (fun _ h => h)) r.iface).mono ?_
              rintro e w8 ⟨rfl, hf8⟩
              have HF9 := hide (Hf7.out.tr hf8)
              have hc8 : CellsAt w8 wr.heap.size 0 r.cells := Hc7.out.fr hf8 (fun h => h)
              have hx8 : CellsAt w8 w3.heap.size 0 xr.cells := Hc57.out.fr hf8 (fun h => h)
              have Hc8 := hide hc8; have Hx8 := hide hx8
              clear hcrp hcp7 c0 c3 t1 hd hf8
              cases hup : upB up r.iface with
              | false =>
                have HT := hide (show thereB l table p up (k + 1) xr = T from by
                  rw [there_not Hx.out (fun h => by have := h.2.2; rw [hup] at this; cases this)]; exact HT0.out)
                clear hup hc8 hx8
                go_wp2_with fail
                go_roundw
                case rel => exact ⟨k + 1, by have := Hs5.out; omega, by go_num, by rw [HT.out], HF9.out⟩
                case measure => simp [intOf]; omega
              | true =>
                have hfit : fitsR table p up r := ⟨H1.out, H2.out, hup⟩
                obtain ⟨hok, hnb⟩ := Htold.out k r Hx.out hfit
                have hthere : thereB l table p up (k + 1) xr = (T || decide (r = xr)) := by rw [there_succ Hx.out, decide_eq_true hfit, HT0.out, Bool.true_and]
                have HT := hide hthere; have Hnb := hide (decide_eq_false hnb)
                clear hup hfit hok hnb hthere
                cases T with
                | true =>
                  go_wp2_with (refine wpList_load_atw rfl 26 _ rfl _ _ rfl (RouteM.cells _) (by (repeat (first | assumption | exact cells_new _ _ _ (by simp) | refine CellsAt.alloc ?_ _ | refine CellsAt.drew ?_ | refine CellsAt.drewN ?_ _))) _ Try.underlying26 rfl (by kernel_rfl) ?_)
                  refine (ref_better r xr _).mono ?_
                  rintro e w9 ⟨rfl, hf9⟩
                  rw [Hnb.out]
                  have HFA := hide (HF9.out.tr hf9)
                  clear hf9 hc8 hx8
                  go_wp2_with fail
                  go_roundw
                  case rel => exact ⟨k + 1, by have := Hs5.out; omega, by go_num, by rw [HT.out]; rfl, HFA.out⟩
                  case measure => simp [intOf]; omega
                | false =>
                  cases hq : decide (r = xr) with
                  | true =>
                    go_wp2_with (first | (refine wpList_load_atw rfl 26 (.tmp 17) rfl wr.heap.size 0 rfl r.cells hc8 _ Try.underlying26 rfl (by kernel_rfl) ?_) | (refine wpList_load_atw rfl 26 (.tmp 12) rfl w3.heap.size 0 rfl xr.cells hx8 _ Try.underlying26 rfl (by kernel_rfl) ?_) | (refine wpList_eqs rfl false 26 (.tmp 68) (.tmp 69) rfl r.cells.toArray xr.cells.toArray rfl rfl true (by kernel_rfl) (by rw [route_equal, hq]) ?_; rw [show (false ^^ true) = true from rfl]))
                    refine (ref_better r xr _).mono ?_
                    rintro e w9 ⟨rfl, hf9⟩
                    rw [Hnb.out]
                    have HFA := hide (HF9.out.tr hf9)
                    have HQ := hide hq
                    clear hf9 hc8 hx8 hq
                    go_wp2_with fail
                    go_roundw
                    case rel => exact ⟨k + 1, by have := Hs5.out; omega, by go_num, by rw [HT.out, HQ.out]; rfl, HFA.out⟩
                    case measure => simp [intOf]; omega
                  | false =>
                    go_wp2_with (first | (refine wpList_load_atw rfl 26 (.tmp 17) rfl wr.heap.size 0 rfl r.cells hc8 _ Try.underlying26 rfl (by kernel_rfl) ?_) | (refine wpList_load_atw rfl 26 (.tmp 12) rfl w3.heap.size 0 rfl xr.cells hx8 _ Try.underlying26 rfl (by kernel_rfl) ?_) | (refine wpList_eqs rfl false 26 (.tmp 68) (.tmp 69) rfl r.cells.toArray xr.cells.toArray rfl rfl false (by kernel_rfl) (by rw [route_equal, hq]) ?_; rw [show (false ^^ false) = false from rfl]))
                    refine (ref_better r xr _).mono ?_
                    rintro e w9 ⟨rfl, hf9⟩
                    rw [Hnb.out]
                    have HFA := hide (HF9.out.tr hf9)
                    have HQ := hide hq
                    clear hf9 hc8 hx8 hq
                    go_wp2_with fail
                    go_roundw
                    case rel => exact ⟨k + 1, by have := Hs5.out; omega, by go_num, by rw [HT.out, HQ.out]; rfl, HFA.out⟩
                    case measure => simp [intOf]; omega
            · have t1 : (r.table != table) = false := by simp [h1]
              have hd := decide_eq_false h2
              have HT := hide (show thereB l table p up (k + 1) xr = T from by rw [there_not Hx.out (fun h => h2 h.2.1)]; exact HT0.out)
              clear h1 h2
              go_wp2_with (first | (refine wpList_load_atw rfl 24 (.tmp 54) rfl wr.heap.size 1 rfl r.pfx.cells hcrp _ Try.underlying24 rfl (by kernel_rfl) ?_) | (refine wpList_load_atw rfl 24 (.tmp 6) rfl w.heap.size 0 rfl p.cells hcp7 _ Try.underlying24 rfl (by kernel_rfl) ?_) | (refine wpList_eqs rfl true 24 (.tmp 55) (.tmp 56) rfl r.pfx.cells.toArray p.cells.toArray rfl rfl false (by kernel_rfl) (by rw [prefix_equal, hd]) ?_; rw [show (true ^^ false) = true from rfl]))
              go_roundw
              case rel => exact ⟨k + 1, by have := Hs5.out; omega, by go_num, by rw [HT.out], Hf7.out⟩
              case measure => simp [intOf]; omega
          · have t1 : (r.table != table) = true := by simp [h1]
            have HT := hide (show thereB l table p up (k + 1) xr = T from by rw [there_not Hx.out (fun h => h1 h.1)]; exact HT0.out)
            clear h1 hcrp hcp7
            go_wp2_with fail
            go_roundw
            case rel => exact ⟨k + 1, by have := Hs5.out; omega, by go_num, by rw [HT.out], Hf7.out⟩
            case measure => simp [intOf]; omega
        · have hE : T = true := by
            rw [Hend.out, ← HT0.out]
            unfold thereB
            rw [List.take_of_length_le (Nat.le_refl _), List.take_of_length_le (by have := Hs5.out; omega)]
          have HE := hide hE
          clear hE
          rw [HE.out]
          go_wp2_with fail
          refine (law_known _).mono ?_
          rintro e w9 ⟨rfl, hf9⟩
          have HF9 := hide (Hf2.out.tr (Hf5.out.tr (Hf6.out.tr hf9)))
          clear hf9
          go_wp2_with fail
          go_ret
          exact ⟨rfl, HF9.out⟩
    | false =>
      go_loopw [16, 15] (ToldAt w5 l table p up xr) (fun i _ _ => s5l - (intOf i).toNat)
      case atStart => exact ⟨0, Nat.zero_le _, rfl, by unfold thereB; simp, Fr.refl _ _⟩
      case round =>
        obtain ⟨k, hk, rfl, hth, hf6⟩ := hrel
        have Hf6 := hide hf6
        generalize hT : thereB l table p up k xr = T at hth
        subst hth
        have HT0 := hide hT
        clear hf6 hk hT
        by_cases hlt : k < s5l
        · have hk2 : k < l.length := by have := Hs5.out; omega
          have hx : l[k]? = some l[k] := List.getElem?_eq_getElem hk2
          generalize l[k] = r at hx
          obtain ⟨gs, rfl, _, hcx, _⟩ := own_at (Hn5.out.1.fr Hf6.out (fun _ _ h => h)) RouteM.length hx
          have Hx := hide hx
          have hmul : ((k : Int) * 6).toNat = k * 6 := by omega
          clear hx hk2
          go_upto_region 13 with (first | (refine wpList_load_at rfl 26 _ rfl _ _ rfl (RouteM.cells _) (by (repeat (first | assumption | exact cells_new _ _ _ (by simp) | refine CellsAt.alloc ?_ _ | refine CellsAt.drew ?_ | refine CellsAt.drewN ?_ _))) _ Try.underlying26 rfl (by kernel_rfl) ?_) | (refine wpList_store_new rfl 26 _ _ rfl _ _ (RouteM.cells _) _ rfl rfl (by simp) (by kernel_rfl) rfl (by kernel_rfl) ?_))
          simp only [Act.put, List.setIfInBounds_toArray, List.set_cons_succ, List.set_cons_zero]
          refine wp_gen (fun W => CellsAt W wr.heap.size 0 r.cells ∧ Fr noB wr W) ⟨cells_new _ _ _ rfl, (Fr.refl _ _).alloc _⟩ ?_
          rintro w7 ⟨hc7, hf7⟩
          have Hc7 := hide hc7; have Hf7 := hide (Hf6.out.tr hf7)
          have Hc57 := hide (Hc5.out.fr Hf7.out (fun h => h))
          have hcp7 : CellsAt w7 w.heap.size 0 p.cells := Hcp5.out.fr Hf7.out (fun h => h)
          have hcrp := pfx_cells hc7
          have c0 := (route_now hc7).1
          have c3 := (route_now hc7).2.2.2.1
          rw [Nat.zero_add] at c3
          clear hcx hc7 hf7
          by_cases h1 : r.table = table
          · by_cases h2 : r.pfx = p
            · have t1 : (r.table != table) = false := by simp [h1]
              have hd := decide_eq_true h2
              have H1 := hide h1; have H2 := hide h2
              clear h1 h2
              go_wp2_with (first | (refine wpList_load_atw rfl 24 (.tmp 54) rfl wr.heap.size 1 rfl r.pfx.cells hcrp _ Try.underlying24 rfl (by kernel_rfl) ?_) | (refine wpList_load_atw rfl 24 (.tmp 6) rfl w.heap.size 0 rfl p.cells hcp7 _ Try.underlying24 rfl (by kernel_rfl) ?_) | (refine wpList_eqs rfl true 24 (.tmp 55) (.tmp 56) rfl r.pfx.cells.toArray p.cells.toArray rfl rfl true (by kernel_rfl) (by rw [prefix_equal, hd]) ?_; rw [show (true ^^ true) = false from rfl]))
              refine (ref_on ⟨ua, ul, uc⟩ up w7 (SlOf.fr Hu.out (Hf2.out.tr (Hf5.out.tr Hf7.out)) (fun _ _ h => h) (fun _ h => h)) r.iface).mono ?_
              rintro e w8 ⟨rfl, hf8⟩
              have HF9 := hide (Hf7.out.tr hf8)
              have hc8 : CellsAt w8 wr.heap.size 0 r.cells := Hc7.out.fr hf8 (fun h => h)
              have hx8 : CellsAt w8 w3.heap.size 0 xr.cells := Hc57.out.fr hf8 (fun h => h)
              have Hc8 := hide hc8; have Hx8 := hide hx8
              clear hcrp hcp7 c0 c3 t1 hd hf8
              cases hup : upB up r.iface with
              | false =>
                have HT := hide (show thereB l table p up (k + 1) xr = T from by
                  rw [there_not Hx.out (fun h => by have := h.2.2; rw [hup] at this; cases this)]; exact HT0.out)
                clear hup hc8 hx8
                go_wp2_with fail
                go_roundw
                case rel => exact ⟨k + 1, by have := Hs5.out; omega, by go_num, by rw [HT.out], HF9.out⟩
                case measure => simp [intOf]; omega
              | true =>
                exact absurd (Htold.out k r Hx.out ⟨H1.out, H2.out, hup⟩).1 (by simp)
            · have t1 : (r.table != table) = false := by simp [h1]
              have hd := decide_eq_false h2
              have HT := hide (show thereB l table p up (k + 1) xr = T from by rw [there_not Hx.out (fun h => h2 h.2.1)]; exact HT0.out)
              clear h1 h2
              go_wp2_with (first | (refine wpList_load_atw rfl 24 (.tmp 54) rfl wr.heap.size 1 rfl r.pfx.cells hcrp _ Try.underlying24 rfl (by kernel_rfl) ?_) | (refine wpList_load_atw rfl 24 (.tmp 6) rfl w.heap.size 0 rfl p.cells hcp7 _ Try.underlying24 rfl (by kernel_rfl) ?_) | (refine wpList_eqs rfl true 24 (.tmp 55) (.tmp 56) rfl r.pfx.cells.toArray p.cells.toArray rfl rfl false (by kernel_rfl) (by rw [prefix_equal, hd]) ?_; rw [show (true ^^ false) = true from rfl]))
              go_roundw
              case rel => exact ⟨k + 1, by have := Hs5.out; omega, by go_num, by rw [HT.out], Hf7.out⟩
              case measure => simp [intOf]; omega
          · have t1 : (r.table != table) = true := by simp [h1]
            have HT := hide (show thereB l table p up (k + 1) xr = T from by rw [there_not Hx.out (fun h => h1 h.1)]; exact HT0.out)
            clear h1 hcrp hcp7
            go_wp2_with fail
            go_roundw
            case rel => exact ⟨k + 1, by have := Hs5.out; omega, by go_num, by rw [HT.out], Hf7.out⟩
            case measure => simp [intOf]; omega
        · have hE : T = false := by
            rw [Hend.out, ← HT0.out]
            unfold thereB
            rw [List.take_of_length_le (Nat.le_refl _), List.take_of_length_le (by have := Hs5.out; omega)]
          have HE := hide hE
          clear hE
          rw [HE.out]
          go_wp2_with fail
          refine (law_known _).mono ?_
          rintro e w9 ⟨rfl, hf9⟩
          have HF9 := hide (Hf2.out.tr (Hf5.out.tr (Hf6.out.tr hf9)))
          clear hf9
          go_wp2_with fail
          go_ret
          exact ⟨rfl, HF9.out⟩
end Go.Proofs.Ytdmghildjadjeaa

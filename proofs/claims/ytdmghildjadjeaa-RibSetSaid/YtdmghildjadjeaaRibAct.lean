/- rib: isUp, Active; the document's On. -/
import Derived.Test.YtdmghildjadjeaaRibAdd
namespace Go.Proofs.Ytdmghildjadjeaa
open Go.RowKit Go.BigFrame
set_option linter.unusedSimpArgs false
set_option linter.unusedVariables false
attribute [local irreducible] wpMix wpAnyG

def bcells (b : Bool) : List Value := [.bool b]
abbrev Ups (w : World) (s : SlV) (up : List Bool) : Prop := SlOf w 1 bcells (fun _ => True) s up
def upB (up : List Bool) (i : Int) : Bool := decide (0 ≤ i) && up.getD i.toNat false
theorem rib_up (s : SlV) (up : List Bool) (w : World) (hs : Ups w s up) (i : Int) (hi : 0 ≤ i) :
    Calls Try.prog 37 #[.slice s.a s.len s.cap, .int .i64 i] w fun e w' => e = .returned (.bool (upB up i)) ∧ Fr noB w w' := by
  obtain ⟨k, rfl⟩ : ∃ k : Nat, i = k := ⟨i.toNat, by omega⟩
  obtain ⟨a, len, cap⟩ := s
  have hl : len = up.length := hs.1
  have hm : len ≤ maxLen := hs.2.1
  unfold maxLen at hm
  have Hs := hide hs; have Hl := hide hl
  clear hs hl
  by_cases hlt : k < len
  · have hk2 : k < up.length := by have := Hl.out; omega
    have hx : up[k]? = some up[k] := List.getElem?_eq_getElem hk2
    generalize up[k] = x at hx
    obtain ⟨b, o, rfl, hbw, hc, _⟩ := SlOf.at Hs.out hx
    have c0 : w.cell? ⟨b, o + k, none⟩ = some (.bool x) := by have := hc 0 _ rfl; simpa using this
    have HR := hide (show upB up k = x from by unfold upB; simp [List.getD, hx])
    clear hx hc
    go_enter Try.func37, Try.ntmps37
    go_wp2_with fail
    go_ret
    exact ⟨ret_bool HR.out.symm, Fr.refl _ _⟩
  · have HR := hide (show upB up k = false from by unfold upB; simp [List.getD, List.getElem?_eq_none (show up.length ≤ k from by have := Hl.out; omega)])
    go_enter Try.func37, Try.ntmps37
    go_wp2_with fail
    go_ret
    exact ⟨ret_bool (by rw [HR.out]; try simp), Fr.refl _ _⟩
theorem ref_on (s : SlV) (up : List Bool) (w : World) (hs : Ups w s up) (i : Int) :
    Calls Try.prog 25 #[.slice s.a s.len s.cap, .int .i64 i] w fun e w' => e = .returned (.bool (upB up i)) ∧ Fr noB w w' := by
  by_cases hi : 0 ≤ i
  · obtain ⟨k, rfl⟩ : ∃ k : Nat, i = k := ⟨i.toNat, by omega⟩
    obtain ⟨a, len, cap⟩ := s
    have hl : len = up.length := hs.1
    have hm : len ≤ maxLen := hs.2.1
    unfold maxLen at hm
    have Hs := hide hs; have Hl := hide hl
    clear hs hl
    by_cases hlt : k < len
    · have hk2 : k < up.length := by have := Hl.out; omega
      have hx : up[k]? = some up[k] := List.getElem?_eq_getElem hk2
      generalize up[k] = x at hx
      obtain ⟨b, o, rfl, hbw, hc, _⟩ := SlOf.at Hs.out hx
      have c0 : w.cell? ⟨b, o + k, none⟩ = some (.bool x) := by have := hc 0 _ rfl; simpa using this
      have HR := hide (show upB up k = x from by unfold upB; simp [List.getD, hx])
      clear hx hc
      go_enter Try.func25, Try.ntmps25
      go_wp2_with fail
      go_ret
      exact ⟨ret_bool HR.out.symm, Fr.refl _ _⟩
    · have HR := hide (show upB up k = false from by unfold upB; simp [List.getD, List.getElem?_eq_none (show up.length ≤ k from by have := Hl.out; omega)])
      go_enter Try.func25, Try.ntmps25
      go_wp2_with fail
      go_ret
      exact ⟨ret_bool (by rw [HR.out]; try simp), Fr.refl _ _⟩
  · have HR := hide (show upB up i = false from by unfold upB; simp [hi])
    go_enter Try.func25, Try.ntmps25
    go_wp2_with fail
    go_ret
    exact ⟨ret_bool (by rw [HR.out]; try simp), Fr.refl _ _⟩

def stepA (table : Int) (up : List Bool) (acc : List RouteM) (r : RouteM) : List RouteM :=
  if r.table = table ∧ upB up r.iface = true then
    match acc[acc.length - 1]? with
    | none => [r]
    | some y => if y.pfx = r.pfx then (if betR r y then acc.set (acc.length - 1) r else acc) else acc ++ [r]
  else acc
def activeL (l : List RouteM) (table : Int) (up : List Bool) : List RouteM := l.foldl (stepA table up) []
theorem active_snoc (l : List RouteM) (table : Int) (up : List Bool) (k : Nat) (r : RouteM) (h : l[k]? = some r) : activeL (l.take (k + 1)) table up = stepA table up (activeL (l.take k) table up) r := by
  unfold activeL
  rw [List.take_add_one, h]
  simp
theorem stepA_len (table : Int) (up : List Bool) (acc : List RouteM) (r : RouteM) : (stepA table up acc r).length ≤ acc.length + 1 := by
  unfold stepA
  split
  · split
    · simp
    · split
      · split
        · simp
        · omega
      · simp
  · omega
theorem active_len (l : List RouteM) (table : Int) (up : List Bool) (k : Nat) : (activeL (l.take k) table up).length ≤ k := by
  induction k with
  | zero => simp [activeL]
  | succ k ih =>
    by_cases hk : k < l.length
    · rw [active_snoc l table up k _ (List.getElem?_eq_getElem hk)]
      have := stepA_len table up (activeL (l.take k) table up) l[k]
      omega
    · rw [List.take_of_length_le (by omega)]
      rw [List.take_of_length_le (by omega)] at ih
      omega
theorem active_len' (l : List RouteM) (table : Int) (up : List Bool) : (activeL l table up).length ≤ l.length := by
  have := active_len l table up l.length
  rwa [List.take_length] at this

def ActAt (l : List RouteM) (table : Int) (up : List Bool) (w0 : World) (v i : Value) (wr : World) : Prop := ∃ (k : Nat) (s : SlV), k ≤ l.length ∧ v = .slice s.a s.len s.cap ∧ i = .int .i64 k ∧ NewL w0 wr 26 6 RouteM.cells s (activeL (l.take k) table up) ∧ Fr noB w0 wr

theorem rib_active_nil (table : Int) (s : SlV) (w : World) :
    Calls Try.prog 21 #[.pointer none, .int .i64 table, .slice s.a s.len s.cap] w fun e w' => e = .returned (.slice none 0 0) ∧ Fr noB w w' := by
  go_enter Try.func21, Try.ntmps21
  go_wp2_with fail
  go_ret
  exact ⟨rfl, Fr.refl _ _⟩

set_option maxRecDepth 100000 in
set_option maxHeartbeats 4000000 in
theorem rib_active (w : World) (F : Nat → Prop) (g : Nat) (l : List RouteM) (h : Rib w F g l) (table : Int) (su : SlV) (up : List Bool) (hu : Ups w su up) :
    Calls Try.prog 21 #[.pointer (some ⟨g, 0, none⟩), .int .i64 table, .slice su.a su.len su.cap] w (AllTo w (activeL l table up)) := by
  have H := hide h; have Hu := hide hu
  have hlen := h.len
  obtain ⟨⟨⟨sa, sl, sc⟩, hblk, hown, _, _⟩, _⟩ := h
  obtain ⟨ua, ul, uc⟩ := su
  have hsl : sl = l.length := hown.1
  have hmax : sl ≤ 256 := by omega
  have c0 : w.cell? ⟨g, 0, none⟩ = some (.slice sa sl sc) := hblk.cell 0
  have Hown := hide hown; have Hsl := hide hsl
  clear hblk hown hsl hu
  simp only
  go_enter Try.func21, Try.ntmps21
  go_wp2_with fail
  clear c0
  go_loopw [7, 18] (ActAt l table up w) (fun _ i _ => sl - (intOf i).toNat)
  case atStart => exact ⟨0, ⟨none, 0, 0⟩, Nat.zero_le _, rfl, rfl, by simpa [activeL] using NewL.nil w w _ _ _, Fr.refl _ _⟩
  case round =>
    obtain ⟨k, s7, hk, rfl, rfl, hn, hf⟩ := hrel
    have Hn := hide hn; have Hf := hide hf
    clear hn hf
    by_cases hlt : k < sl
    · have hk2 : k < l.length := by have := Hsl.out; omega
      have hx : l[k]? = some l[k] := List.getElem?_eq_getElem hk2
      have hmem : l[k] ∈ l := List.getElem_mem hk2
      generalize l[k] = r at hx hmem
      have hif : 0 ≤ r.iface := by
        have := of_decide_eq_true (H.out.is r hmem)
        exact this.2.2.2.1
      have Hx := hide hx
      have hstep := active_snoc l table up k r hx
      have hal := active_len l table up k
      generalize activeL (l.take k) table up = acc at *
      have Hstep := hide hstep; have Hal := hide hal
      obtain ⟨gs, rfl, _, hcx, _⟩ := own_at (Hown.out.fr Hf.out (fun _ _ h => h)) RouteM.length hx
      have hmul : ((k : Int) * 6).toNat = k * 6 := by omega
      obtain ⟨s7a, s7l, s7c⟩ := s7
      have hs7 : s7l = acc.length := Hn.out.1.1
      have hs7m : s7l ≤ 256 := by omega
      have Hs7 := hide hs7
      clear hx hmem hstep hal hs7 hk
      simp only
      go_upto_region 7 with (first | (refine wpList_load_at rfl 26 _ rfl _ _ rfl (RouteM.cells _) (by (repeat (first | assumption | exact cells_new _ _ _ (by simp) | refine CellsAt.alloc ?_ _ | refine CellsAt.drew ?_ | refine CellsAt.drewN ?_ _))) _ Try.underlying26 rfl (by kernel_rfl) ?_) | (refine wpList_store_new rfl 26 _ _ rfl _ _ (RouteM.cells _) _ rfl rfl (by simp) (by kernel_rfl) rfl (by kernel_rfl) ?_))
      simp only [Act.put, List.setIfInBounds_toArray, List.set_cons_succ, List.set_cons_zero]
      refine wp_gen (fun W => CellsAt W wr.heap.size 0 r.cells ∧ Fr noB wr W) ⟨cells_new _ _ _ rfl, (Fr.refl _ _).alloc _⟩ ?_
      rintro w1 ⟨hc1, hf1⟩
      have Hc1 := hide hc1; have Hf1 := hide hf1
      obtain ⟨a0, _, _, a3, _, _⟩ := route_now hc1
      simp only [Nat.zero_add] at a3
      clear hc1 hf1 hcx
      by_cases ht : r.table = table
      · go_wp2_with fail
        refine (rib_up ⟨ua, ul, uc⟩ up w1 (SlOf.fr Hu.out (Hf.out.tr Hf1.out) (fun _ _ h => h) (fun _ h => h)) r.iface hif).mono ?_
        rintro e w2 ⟨rfl, hf2⟩
        have Hf2 := hide (Hf1.out.tr hf2); have Hc2 := hide (Hc1.out.fr hf2 (fun h => h))
        clear hf2 a0 a3
        cases hup : upB up r.iface with
        | false =>
          have HS := hide (show stepA table up acc r = acc from by unfold stepA; rw [if_neg]; rintro ⟨_, h⟩; rw [hup] at h; cases h)
          clear hup
          go_wp2_with fail
          go_roundw
          case rel => exact ⟨k + 1, ⟨s7a, s7l, s7c⟩, by have := Hsl.out; omega, rfl, by go_num, by rw [Hstep.out, HS.out]; exact Hn.out.fr Hf2.out, Hf.out.tr Hf2.out⟩
          case measure => simp [intOf]; omega
        | true =>
          have Hn2 := hide (Hn.out.fr Hf2.out)
          cases hlast : acc[acc.length - 1]? with
          | none =>
            have hnil : acc = [] := by
              rw [List.getElem?_eq_none_iff] at hlast
              exact List.eq_nil_of_length_eq_zero (by omega)
            subst hnil
            have HS := hide (show stepA table up [] r = [r] from by unfold stepA; rw [if_pos ⟨ht, hup⟩]; rfl)
            have h0 : s7l = 0 := Hs7.out
            subst h0
            clear hup hlast
            go_upto_region 9 with (fail)
            refine wp_region_mix (fun W => ∃ z : Grow w2, W = z.v) (by kernel_rfl) (by kernel_rfl) (inGrow (Fr.refl _ _).drew) ?_
            repeat (first | (refine wpMix_skip rfl ?_; simp only [Act.put, List.setIfInBounds_toArray, List.set_cons_succ, List.set_cons_zero]) | (refine wpMix_calm rfl rfl (fun K hK => ?_); go_big_quiet_op; refine hK _ ?_; clear hK K))
            refine wpMix_nil ?_
            have hf3 : Fr noB w2 w2.drew := (Fr.refl _ _).drew
            generalize w2.drew = w3 at hf3 ⊢
            have Hf3 := hide (Hf.out.tr (Hf2.out.tr hf3)); have Hn3 := hide (Hn2.out.fr hf3)
            have hc3 : CellsAt w3 wr.heap.size 0 r.cells := Hc2.out.fr hf3 (fun h => h)
            clear hf3
            go_wp2_with (first | (refine wpList_load_at rfl 26 _ rfl _ _ rfl (RouteM.cells _) (by (repeat (first | assumption | exact cells_new _ _ _ (by simp) | refine CellsAt.alloc ?_ _ | refine CellsAt.drew ?_ | refine CellsAt.drewN ?_ _))) _ Try.underlying26 rfl (by kernel_rfl) ?_) | (refine wpList_buildSlice rfl 35 1 _ rfl #[(0, .agg r.cells.toArray)] (by kernel_rfl) Try.underlying35 (.agg zeroR.cells.toArray) 6 (by kernel_rfl) r.cells.toArray (by decide) (by decide) (by kernel_rfl) ?_) | (refine wpList_append_newD (w0 := w) (N := 6) (cells := RouteM.cells) (xs := []) (s := ⟨s7a, 0, s7c⟩) (q := ⟨some ⟨w3.heap.size, 0, none⟩, 1, 1⟩) (ys := [r]) (ok := fun _ => True) rfl (.tmp 49) (.tmp 51) 35 rfl Try.underlying35 _ 48 route_info (by kernel_rfl) (by decide) RouteM.length RouteM.mem rfl (Hn3.out.fr ((Fr.refl noB w3).alloc _)) (Hf3.out.alloc _) rfl (slof_one RouteM.length _ trivial) (fun h => by cases h) (by simp [maxLen] <;> omega) (by simp <;> omega) ?_; intro s4 w4 hn4 hf4 hf4' hd4; have Hn4 := hide hn4; have Hf4 := hide hf4; clear hn4 hf4 hf4' hd4))
            go_roundw
            case rel => exact ⟨k + 1, s4, by have := Hsl.out; omega, rfl, by go_num, by rw [Hstep.out, HS.out]; exact Hn4.out, Hf4.out⟩
            case measure => simp [intOf]; omega
          | some y =>
            have hpos : 0 < acc.length := by have := (List.getElem?_eq_some_iff.1 hlast).1; omega
            obtain ⟨m, hm⟩ : ∃ m, s7l = m + 1 := ⟨s7l - 1, by have := Hs7.out; omega⟩
            subst hm
            have hml : acc.length - 1 = m := by have := Hs7.out; omega
            have HSE := hide (show stepA table up acc r = (if y.pfx = r.pfx then (if betR r y then acc.set (acc.length - 1) r else acc) else acc ++ [r]) from by unfold stepA; rw [if_pos ⟨ht, hup⟩, hlast])
            rw [hml] at HSE hlast
            obtain ⟨g7, rfl, _, hcy, _⟩ := own_at Hn2.out.1 RouteM.length hlast
            have Hlast := hide hlast; have Hcy := hide hcy
            have hmul7 : ((m : Int) * 6).toNat = m * 6 := by omega
            have hcyp : CellsAt w2 g7 (m * 6 + 1) y.pfx.cells := cells_pre (ds := [.int .i64 y.iface, .int .u32 (y.gate : Nat), .int .i64 y.metric]) (by have h := cells_part hcy 1; exact h)
            have hcrp : CellsAt w2 wr.heap.size 1 r.pfx.cells := cells_pre (ds := [.int .i64 r.iface, .int .u32 (r.gate : Nat), .int .i64 r.metric]) (by have h := cells_part Hc2.out 1; exact h)
            clear hup hlast hcy hml
            go_upto_region 9 with (fail)
            refine wp_region_mix (fun W => ∃ z : Grow w2, W = z.v) (by kernel_rfl) (by kernel_rfl) (inGrow (Fr.refl _ _).drew) ?_
            iterate 7 (first | (refine wpMix_skip rfl ?_; simp only [Act.put, List.setIfInBounds_toArray, List.set_cons_succ, List.set_cons_zero]) | (refine wpMix_calm rfl rfl (fun K hK => ?_); go_big_quiet_op; refine hK _ ?_; clear hK K))
            refine wpMix_load_atw rfl 24 (.tmp 43) rfl g7 (m * 6 + 1) rfl y.pfx.cells (fun W hW => by obtain ⟨z, rfl⟩ := hW; exact hcyp.fr z.fr (fun h => h)) _ Try.underlying24 rfl (by kernel_rfl) ?_
            simp only [Act.put, List.setIfInBounds_toArray, List.set_cons_succ, List.set_cons_zero]
            iterate 1 (first | (refine wpMix_skip rfl ?_; simp only [Act.put, List.setIfInBounds_toArray, List.set_cons_succ, List.set_cons_zero]) | (refine wpMix_calm rfl rfl (fun K hK => ?_); go_big_quiet_op; refine hK _ ?_; clear hK K))
            refine wpMix_load_atw rfl 24 (.tmp 45) rfl wr.heap.size 1 rfl r.pfx.cells (fun W hW => by obtain ⟨z, rfl⟩ := hW; exact hcrp.fr z.fr (fun h => h)) _ Try.underlying24 rfl (by kernel_rfl) ?_
            simp only [Act.put, List.setIfInBounds_toArray, List.set_cons_succ, List.set_cons_zero]
            by_cases hpp : y.pfx = r.pfx
            · rw [if_pos hpp] at HSE
              refine wpMix_eqs rfl true 24 (.tmp 44) (.tmp 46) rfl y.pfx.cells.toArray r.pfx.cells.toArray rfl rfl true (by kernel_rfl) (fun w => by rw [prefix_equal, decide_eq_true hpp]) ?_
              simp only [Act.put, List.setIfInBounds_toArray, List.set_cons_succ, List.set_cons_zero]
              repeat (first | (refine wpMix_skip rfl ?_; simp only [Act.put, List.setIfInBounds_toArray, List.set_cons_succ, List.set_cons_zero]) | (refine wpMix_calm rfl rfl (fun K hK => ?_); go_big_quiet_op; refine hK _ ?_; clear hK K))
              refine wpMix_nil ?_
              have hf3 : Fr noB w2 w2.drew := (Fr.refl _ _).drew
              have hcy3 : CellsAt w2.drew g7 (m * 6) y.cells := Hcy.out
              have hc3 : CellsAt w2.drew wr.heap.size 0 r.cells := Hc2.out
              generalize w2.drew = w3 at hf3 hcy3 hc3 ⊢
              have Hf3 := hide (Hf.out.tr (Hf2.out.tr hf3)); have Hn3 := hide (Hn2.out.fr hf3)
              have Hc3 := hide hc3
              clear hf3 hpp hcyp hcrp
              go_upto_region 11 with (fail)
              refine wp_region_mix (fun W => ∃ z : Grow w3, W = z.v) (by kernel_rfl) (by kernel_rfl) (inGrow (Fr.refl _ _).drew) ?_
              (refine wpMix_load_atw rfl 26 (.tmp 9) rfl _ _ rfl (RouteM.cells _) (fun W hW => by obtain ⟨z, rfl⟩ := hW; exact CellsAt.fr (by (repeat (first | assumption | exact cells_new _ _ _ (by simp) | refine CellsAt.alloc ?_ _ | refine CellsAt.drew ?_ | refine CellsAt.drewN ?_ _))) z.fr (fun h => h)) _ Try.underlying26 rfl (by kernel_rfl) ?_; simp only [Act.put, List.setIfInBounds_toArray, List.set_cons_succ, List.set_cons_zero])
              iterate 3 (first | (refine wpMix_skip rfl ?_; simp only [Act.put, List.setIfInBounds_toArray, List.set_cons_succ, List.set_cons_zero]) | (refine wpMix_calm rfl rfl (fun K hK => ?_); go_big_quiet_op; refine hK _ ?_; clear hK K))
              refine wpMix_load_atw rfl 26 (.tmp 57) rfl g7 (m * 6) rfl y.cells (fun W hW => by obtain ⟨z, rfl⟩ := hW; exact hcy3.fr z.fr (fun h => h)) _ Try.underlying26 rfl (by kernel_rfl) ?_
              simp only [Act.put, List.setIfInBounds_toArray, List.set_cons_succ, List.set_cons_zero]
              refine wpMix_spine rfl rfl (fun K hK => ?_); go_wp2_with fail
              refine (rib_better r y _).mono ?_
              rintro e w4 ⟨rfl, hf4⟩
              have Hf4 := hide ((Fr.refl noB w3).drew.tr hf4)
              refine hK _ _ rfl (inGrow Hf4.out) ?_
              clear hK K hf4 hcy3 hc3
              rw [betterB_eq]
              by_cases hbet : betR r y
              · rw [decide_eq_true hbet]
                rw [if_pos hbet] at HSE
                repeat (first | (refine wpMix_skip rfl ?_; simp only [Act.put, List.setIfInBounds_toArray, List.set_cons_succ, List.set_cons_zero]) | (refine wpMix_calm rfl rfl (fun K hK => ?_); go_big_quiet_op; refine hK _ ?_; clear hK K))
                refine wpMix_nil ?_
                have hc4 : CellsAt w4 wr.heap.size 0 r.cells := Hc3.out.fr Hf4.out (fun h => h)
                have hown4 := (Hn3.out.fr Hf4.out).1
                have Hown4 := hide hown4; have Hnew := hide Hn3.out.2
                have hg7 : g7 < w4.heap.size := hown4.lt g7 ⟨_, rfl, rfl⟩
                have hwg : w.heap.size ≤ g7 := Hnew.out g7 ⟨_, rfl, rfl⟩
                clear hown4 hbet
                go_wp2_with (first | (refine wpList_load_at rfl 26 _ rfl _ _ rfl (RouteM.cells _) (by (repeat (first | assumption | exact cells_new _ _ _ (by simp) | refine CellsAt.alloc ?_ _ | refine CellsAt.drew ?_ | refine CellsAt.drewN ?_ _))) _ Try.underlying26 rfl (by kernel_rfl) ?_) | (refine wpList_store_elem rfl 26 (.tmp 63) (.tmp 62) rfl Hown4.out RouteM.length rfl m (by have := Hs7.out; omega) r (by go_simp) rfl (by kernel_rfl) (RouteM.mem r) ?_; intro w5 hown5 hf5 hsz5; have Hown5 := hide hown5; have Hf5 := hide hf5; clear hown5 hf5 hsz5))
                go_roundw
                case rel =>
                  refine ⟨k + 1, ⟨some ⟨g7, 0, none⟩, m + 1, s7c⟩, by have := Hsl.out; omega, rfl, by go_num, ⟨?_, Hnew.out⟩, Fr.trans (Hf3.out.tr Hf4.out) Hf5.out (fun _ _ h => h) (fun b hb e => by unfold oneB at e; omega)⟩
                  rw [Hstep.out, HSE.out]
                  exact Hown5.out
                case measure => simp [intOf]; omega
              · rw [decide_eq_false hbet]
                rw [if_neg hbet] at HSE
                repeat (first | (refine wpMix_skip rfl ?_; simp only [Act.put, List.setIfInBounds_toArray, List.set_cons_succ, List.set_cons_zero]) | (refine wpMix_calm rfl rfl (fun K hK => ?_); go_big_quiet_op; refine hK _ ?_; clear hK K))
                refine wpMix_nil ?_
                clear hbet
                go_wp2_with fail
                go_roundw
                case rel => exact ⟨k + 1, ⟨some ⟨g7, 0, none⟩, m + 1, s7c⟩, by have := Hsl.out; omega, rfl, by go_num, by rw [Hstep.out, HSE.out]; exact Hn3.out.fr Hf4.out, Hf3.out.tr Hf4.out⟩
                case measure => simp [intOf]; omega
            · rw [if_neg hpp] at HSE
              refine wpMix_eqs rfl true 24 (.tmp 44) (.tmp 46) rfl y.pfx.cells.toArray r.pfx.cells.toArray rfl rfl false (by kernel_rfl) (fun w => by rw [prefix_equal, decide_eq_false hpp]) ?_
              simp only [Act.put, List.setIfInBounds_toArray, List.set_cons_succ, List.set_cons_zero]
              repeat (first | (refine wpMix_skip rfl ?_; simp only [Act.put, List.setIfInBounds_toArray, List.set_cons_succ, List.set_cons_zero]) | (refine wpMix_calm rfl rfl (fun K hK => ?_); go_big_quiet_op; refine hK _ ?_; clear hK K))
              refine wpMix_nil ?_
              have hf3 : Fr noB w2 w2.drew := (Fr.refl _ _).drew
              have hc3 : CellsAt w2.drew wr.heap.size 0 r.cells := Hc2.out
              generalize w2.drew = w3 at hf3 hc3 ⊢
              have Hf3 := hide (Hf.out.tr (Hf2.out.tr hf3)); have Hn3 := hide (Hn2.out.fr hf3)
              have hacc : acc.length ≤ 256 := by have := Hs7.out; omega
              clear hf3 hpp hcyp hcrp
              go_wp2_with (first | (refine wpList_load_at rfl 26 _ rfl _ _ rfl (RouteM.cells _) (by (repeat (first | assumption | exact cells_new _ _ _ (by simp) | refine CellsAt.alloc ?_ _ | refine CellsAt.drew ?_ | refine CellsAt.drewN ?_ _))) _ Try.underlying26 rfl (by kernel_rfl) ?_) | (refine wpList_buildSlice rfl 35 1 _ rfl #[(0, .agg r.cells.toArray)] (by kernel_rfl) Try.underlying35 (.agg zeroR.cells.toArray) 6 (by kernel_rfl) r.cells.toArray (by decide) (by decide) (by kernel_rfl) ?_) | (refine wpList_append_newD (w0 := w) (N := 6) (cells := RouteM.cells) (xs := acc) (s := ⟨some ⟨g7, 0, none⟩, m + 1, s7c⟩) (q := ⟨some ⟨w3.heap.size, 0, none⟩, 1, 1⟩) (ys := [r]) (ok := fun _ => True) rfl (.tmp 49) (.tmp 51) 35 rfl Try.underlying35 _ 48 route_info (by kernel_rfl) (by decide) RouteM.length RouteM.mem rfl (Hn3.out.fr ((Fr.refl noB w3).alloc _)) (Hf3.out.alloc _) rfl (slof_one RouteM.length _ trivial) (fun h => by cases h) (by simp [maxLen] <;> omega) (by simp <;> omega) ?_; intro s4 w4 hn4 hf4 hf4' hd4; have Hn4 := hide hn4; have Hf4 := hide hf4; clear hn4 hf4 hf4' hd4))
              go_roundw
              case rel => exact ⟨k + 1, s4, by have := Hsl.out; omega, rfl, by go_num, by rw [Hstep.out, HSE.out]; exact Hn4.out, Hf4.out⟩
              case measure => simp [intOf]; omega
      · have HS := hide (show stepA table up acc r = acc from by unfold stepA; rw [if_neg]; exact fun h => ht h.1)
        go_wp2_with fail
        go_roundw
        case rel => exact ⟨k + 1, ⟨s7a, s7l, s7c⟩, by have := Hsl.out; omega, rfl, by go_num, by rw [Hstep.out, HS.out]; exact Hn.out.fr Hf1.out, Hf.out.tr Hf1.out⟩
        case measure => simp [intOf]; omega
    · have hk' : k = l.length := by have := Hsl.out; omega
      have Hk := hide hk'
      clear hk'
      go_wp2_with fail
      go_ret
      exact ⟨s7, rfl, by have := Hn.out; rwa [Hk.out, List.take_length] at this, Hf.out⟩
end Go.Proofs.Ytdmghildjadjeaa

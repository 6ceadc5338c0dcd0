/- The document's Owned: is a number in a row? The document's Owned: how many blocks prefixes own. -/
import Derived.Test.YtgjabgneapdbiaaDirEnd
namespace Go.Proofs.Ytgjabgneapdbiaa
open Go.RowKit Go.BigFrame
set_option linter.unusedSimpArgs false
set_option linter.unusedVariables false
attribute [local irreducible] wpMix wpAnyG

def u32C (n : Nat) : List Value := [.int .u32 (n : Nat)]
theorem u32C_length (n : Nat) : (u32C n).length = 1 := rfl
theorem u32C_mem (n : Nat) : ∀ u ∈ u32C n, u.oneCell' = true := by
  intro u hu
  simp only [u32C, List.mem_singleton] at hu
  subst hu; rfl
def HasAt (w0 : World) (xs : List Nat) (n : Nat) (iv : Value) (wr : World) : Prop := ∃ k : Nat, k ≤ xs.length ∧ iv = .int .i64 k ∧ n ∉ xs.take k ∧ w0 = wr
set_option maxRecDepth 100000 in
set_option maxHeartbeats 2000000 in
theorem ref_has (w : World) (s : SlV) (xs : List Nat) (n : Nat) (h : OwnL w 22 1 u32C s xs) (hb : xs.length ≤ 1000000) :
    Calls Try.prog 72 #[.slice s.a s.len s.cap, .int .u32 (n : Nat)] w fun e w' => e = .returned (.bool (decide (n ∈ xs))) ∧ w' = w := by
  obtain ⟨sa, sl, sc⟩ := s
  have hl : sl = xs.length := h.1
  have hsl : sl ≤ 1000000 := by omega
  have H := hide h; have Hl := hide hl
  clear h hl hb
  go_enter Try.func72, Try.ntmps72
  go_wp2_with fail
  go_loopw [5] (HasAt w xs n) (fun i _ => sl - (intOf i).toNat)
  case atStart => exact ⟨0, Nat.zero_le _, rfl, by simp, rfl⟩
  case round =>
    obtain ⟨k, hk, rfl, hno, rfl⟩ := hrel
    by_cases hlt : k < sl
    · have hx : xs[k]? = some (xs[k]'(by have := Hl.out; omega)) := List.getElem?_eq_getElem _
      generalize xs[k] = x at hx
      obtain ⟨b, hb, _, hcx, _⟩ := own_at H.out u32C_length hx
      simp only at hb
      subst hb
      have x0 : w.cell? ⟨b, k, none⟩ = some (.int .u32 (x : Nat)) := by have := hcx 0 _ rfl; simpa using this
      have Hx := hide hx; have Hno := hide hno; have Hlt := hide hlt
      clear hx hno hcx
      by_cases e : x = n
      · subst e
        have hin := hide (decide_eq_true (List.mem_of_getElem? Hx.out : x ∈ xs))
        go_wp2_with fail
        go_ret
        exact ⟨by rw [hin.out]; rfl, rfl⟩
      · have hne : ((x : Int) == (n : Int)) = false := by simp; omega
        have Hne := hide e
        clear e
        go_wp2_with fail
        go_roundw
        case rel =>
          refine ⟨k + 1, by have := Hl.out; have := Hlt.out; omega, by go_num, ?_, rfl⟩
          rw [List.take_add_one, Hx.out]
          simp only [List.mem_append, Option.toList_some, List.mem_singleton, not_or]
          exact ⟨Hno.out, fun e => Hne.out e.symm⟩
        case measure => simp [intOf]; omega
    · obtain rfl : k = sl := by have := Hl.out; omega
      have hno2 := hide (decide_eq_false (show n ∉ xs from by rw [Hl.out, List.take_length] at hno; exact hno))
      clear hno
      go_wp2_with fail
      go_ret
      exact ⟨by rw [hno2.out]; rfl, rfl⟩
end Go.Proofs.Ytgjabgneapdbiaa

namespace Go.Proofs.Ytgjabgneapdbiaa
open Go.RowKit Go.BigFrame
set_option linter.unusedSimpArgs false
set_option linter.unusedVariables false
attribute [local irreducible] wpMix wpAnyG

theorem hsL_len (l : List EntM) : (hsL l).length ≤ l.length ∧ (bsL l).length ≤ l.length := by
  have a : ∀ (l : List EntM) (hs : List Nat), (l.foldl hsF hs).length ≤ hs.length + l.length := fun l => by
    induction l with
    | nil => intro hs; simp
    | cons x l ih =>
      intro hs
      rw [List.foldl_cons, List.length_cons]
      have := ih (hsF hs x)
      have h2 : (hsF hs x).length ≤ hs.length + 1 := by
        unfold hsF addD
        split
        · split
          · omega
          · simp
        · omega
      omega
  have b : ∀ (l : List EntM) (hs : List Nat), (l.foldl bsF hs).length ≤ hs.length + l.length := fun l => by
    induction l with
    | nil => intro hs; simp
    | cons x l ih =>
      intro hs
      rw [List.foldl_cons, List.length_cons]
      have := ih (bsF hs x)
      have h2 : (bsF hs x).length ≤ hs.length + 1 := by
        unfold bsF addD
        split
        · split
          · omega
          · simp
        · omega
      omega
  have h1 := a l []
  have h2 := b l []
  unfold hsL bsL
  simp only [List.length_nil] at h1 h2
  omega
def OwdLp (w0 : World) (l : List EntM) (iv nv hv bv : Value) (wr : World) : Prop := ∃ (k : Nat) (s4 s5 : SlV), k ≤ l.length ∧ iv = .int .i64 k ∧ nv = .int .i64 (ownN (l.take k) : Nat) ∧ hv = .slice s4.a s4.len s4.cap ∧ bv = .slice s5.a s5.len s5.cap ∧
  NewL w0 wr 22 1 u32C s4 (hsL (l.take k)) ∧ NewL w0 wr 22 1 u32C s5 (bsL (l.take k)) ∧ Fr noB w0 wr ∧ ∀ b, ownB s4 b → ¬ ownB s5 b
theorem hsL_succ {l : List EntM} {k : Nat} {x : EntM} (h : l[k]? = some x) : hsL (l.take (k + 1)) = hsF (hsL (l.take k)) x ∧ bsL (l.take (k + 1)) = bsF (bsL (l.take k)) x := by
  unfold hsL bsL
  rw [List.take_add_one, h]
  simp [List.foldl_append]
theorem uint32_info : (Try.prog.info? 22).map (fun i => (i.zero, i.size, i.bytes)) = some (some (.int .u32 0), 1, 4) := by kernel_rfl
set_option maxRecDepth 100000 in
set_option maxHeartbeats 16000000 in
theorem ref_owned (w : World) (s : SlV) (l : List EntM) (h : OwnL w 28 2 pcE s l) (hb : l.length ≤ 1000) (hok : ∀ x ∈ l, x.p.wf) :
    Calls Try.prog 50 #[.slice s.a s.len s.cap] w fun e w' => e = .returned (.int .i64 (ownN l : Nat)) ∧ Fr noB w w' := by
  obtain ⟨sa, sl, sc⟩ := s
  have hl : sl = l.length := h.1
  have hsl : sl ≤ 1000 := by omega
  have H := hide h; have Hl := hide hl; have Hok := hide hok
  clear h hl hb hok
  go_enter Try.func50, Try.ntmps50
  go_wp2_with fail
  go_loopw [6, 3, 4, 5] (OwdLp w l) (fun i _ _ _ _ => sl - (intOf i).toNat)
  case atStart => exact ⟨0, ⟨none, 0, 0⟩, ⟨none, 0, 0⟩, Nat.zero_le _, rfl, rfl, rfl, rfl, NewL.nil _ _ _ _ _, NewL.nil _ _ _ _ _, Fr.refl _ _, fun b ⟨a, ha, _⟩ => by simp at ha⟩
  case round =>
    obtain ⟨k, ⟨ha, hn, hc⟩, ⟨ba, bn, bc⟩, hk, rfl, rfl, rfl, rfl, h4, h5, hf, hd⟩ := hrel
    have H4 := hide h4; have H5 := hide h5; have Hf := hide hf; have Hd := hide hd
    clear h4 h5 hf hd
    by_cases hlt : k < sl
    · have hx : l[k]? = some (l[k]'(by have := Hl.out; omega)) := List.getElem?_eq_getElem _
      generalize l[k] = x at hx
      obtain ⟨b, hb, _, hcx, _⟩ := own_at H.out pcE_length hx
      simp only at hb
      subst hb
      have Hcx := hide (show CellsAt w b (k * 2) (pcE x) from hcx)
      have Hxw := hide (Hok.out x (List.mem_of_getElem? hx))
      have hsx := hsL_succ hx
      have HS1 := hide hsx.1; have HS2 := hide hsx.2
      have hL1 : (hsL (l.take k)).length ≤ 1000 := by have := (hsL_len (l.take k)).1; have := List.length_take_le k l; have := Hl.out; omega
      have hL2 : (bsL (l.take k)).length ≤ 1000 := by have := (hsL_len (l.take k)).2; have := List.length_take_le k l; have := Hl.out; omega
      have Hn0 := hide (show ownN (l.take k) = (hsL (l.take k)).length + (bsL (l.take k)).length from rfl)
      obtain ⟨n0, hn0⟩ : ∃ n, ownN (l.take k) = n := ⟨_, rfl⟩
      rw [hn0] at Hn0
      have hn1 : n0 ≤ 2000 := by have := Hn0.out; omega
      rw [hn0]
      have hmul : ((k : Int) * 2).toNat = k * 2 := by omega
      have hkl : (k : Int) < (sl : Int) := by omega
      obtain ⟨q4, hq4⟩ : ∃ q, x.p.addr / 65536 = q := ⟨_, rfl⟩
      obtain ⟨q8, hq8⟩ : ∃ q, x.p.addr / 256 = q := ⟨_, rfl⟩
      have Hq4 := hide hq4; have Hq8 := hide hq8
      have hs4 : ((x.p.addr : Nat) : Int) / 65536 = (q4 : Int) := by omega
      have hs8 : ((x.p.addr : Nat) : Int) / 256 = (q8 : Int) := by omega
      have Hs4 := hide hs4; have Hs8 := hide hs8
      have HL1 := hide hL1; have HL2 := hide hL2
      have hxa : x.p.addr < 4294967296 := Hxw.out.1
      have hcr : CellsAt wr b (k * 2) (pcE x) := Hcx.out.fr Hf.out (fun h => h)
      have p0 : wr.cell? ⟨b, k * 2, none⟩ = some (.int .u32 (x.p.addr : Nat)) := by have := hcr 0 _ rfl; rwa [Nat.add_zero] at this
      have p1 : wr.cell? ⟨b, k * 2 + 1, none⟩ = some (.int .i64 x.p.len) := hcr 1 _ rfl
      clear hx hn0 hcx hsx hL1 hL2 hs4 hs8 hk hcr hq4 hq8
      have h3 : (16 < x.p.len ∧ q4 ∈ hsL (l.take k)) ∨ (16 < x.p.len ∧ ¬ q4 ∈ hsL (l.take k)) ∨ ¬ 16 < x.p.len := by
        by_cases a : 16 < x.p.len
        · by_cases m : q4 ∈ hsL (l.take k)
          · exact .inl ⟨a, m⟩
          · exact .inr (.inl ⟨a, m⟩)
        · exact .inr (.inr a)
      rcases h3 with ⟨h16, m⟩ | ⟨h16, m⟩ | h16
      case' inl =>
        have h16b : decide (16 < x.p.len) = true := by simp [h16]
        have HA := hide (show hsL (l.take (k + 1)) = hsL (l.take k) from by rw [HS1.out]; unfold hsF addD; rw [Hq4.out, if_pos h16, if_pos m])
        have M := hide m
        have e4 := Hs4.out
        clear h16 m
        go_wp2_with fail
        refine (ref_has wr ⟨ha, hn, hc⟩ (hsL (l.take k)) (q4) H4.out.1 (by have := HL1.out; omega)).mono ?_
        rintro e w3 ⟨rfl, rfl⟩
        rw [decide_eq_true M.out]
        clear e4
        go_upto_region 9 with (fail)
        have HA4 := hide (show NewL w w3 22 1 u32C ⟨ha, hn, hc⟩ (hsL (l.take (k + 1))) from by rw [HA.out]; exact H4.out)
        have HA5 := hide H5.out; have HfA := hide Hf.out; have HdA := hide Hd.out
        obtain ⟨wA, rfl⟩ : ∃ x, x = w3 := ⟨_, rfl⟩
        obtain ⟨nA, hnA⟩ : ∃ n : Int, n = (n0 : Int) := ⟨_, rfl⟩
        rw [← hnA]
        have HnA := hide (show nA = (((hsL (l.take (k + 1))).length + (bsL (l.take k)).length : Nat) : Int) from by rw [hnA, Hn0.out, HA.out])
        have hnA2 : 0 ≤ nA ∧ nA ≤ 2001 := by omega
        clear p0 p1 H4 H5 Hf Hd HA M h16b hnA hn1
      case' inr.inl =>
        have h16b : decide (16 < x.p.len) = true := by simp [h16]
        have HA := hide (show hsL (l.take (k + 1)) = hsL (l.take k) ++ [q4] from by rw [HS1.out]; unfold hsF addD; rw [Hq4.out, if_pos h16, if_neg m])
        have M := hide m
        have e4 := Hs4.out
        clear h16 m
        go_wp2_with fail
        refine (ref_has wr ⟨ha, hn, hc⟩ (hsL (l.take k)) (q4) H4.out.1 (by have := HL1.out; omega)).mono ?_
        rintro e w3 ⟨rfl, rfl⟩
        rw [decide_eq_false M.out]
        go_upto_region 9 with (first
          | (refine wpList_buildSlice rfl 69 1 _ rfl #[(0, .int .u32 (q4 : Int))] (by first | kernel_rfl | rw [← e4]; kernel_rfl) Try.underlying69 (.int .u32 0) 1 (by kernel_rfl) #[.int .u32 (q4 : Int)] (by decide) (by decide) (by kernel_rfl) ?_)
          | (refine wpList_append_newD (w0 := w) (N := 1) (cells := u32C) (xs := hsL (l.take k)) (s := ⟨ha, hn, hc⟩) (q := ⟨some ⟨w3.heap.size, 0, none⟩, 1, 1⟩) (ys := [q4]) (ok := fun _ => True) rfl (.tmp 30) (.tmp 37) 69 rfl Try.underlying69 _ 4 uint32_info (by kernel_rfl) (by decide) u32C_length u32C_mem rfl (H4.out.fr ((Fr.refl noB w3).alloc _)) (Hf.out.alloc _) rfl (slof_one (w := w3) (ok := fun _ => True) (x := q4) u32C_length 22 trivial) (fun h => by simp at h) (by have := HL1.out; simp [maxLen]; omega) (by have := HL1.out; simp; omega) ?_
             intro s6 w6 hn6 hf6 hf6' hd6
             have Hn6 := hide hn6; have Hf6 := hide hf6; have Hf6' := hide hf6'; have Hd6 := hide hd6
             clear hn6 hf6 hf6' hd6
             obtain ⟨ta, tl, tc⟩ := s6))
        have hlt5 : ∀ b, ownB ⟨ba, bn, bc⟩ b → b < w3.heap.size := fun b hb => H5.out.1.lt b hb
        have HA4 := hide (show NewL w w6 22 1 u32C ⟨ta, tl, tc⟩ (hsL (l.take (k + 1))) from by rw [HA.out]; exact Hn6.out)
        have HA5 := hide ((H5.out.fr ((Fr.refl noB w3).alloc _)).frS Hf6'.out (fun b hb h => Hd.out b h hb))
        have HfA := hide Hf6.out
        have HdA := hide (show ∀ b, ownB ⟨ta, tl, tc⟩ b → ¬ ownB ⟨ba, bn, bc⟩ b from fun b hb h => by
          rcases Hd6.out b hb with k | k
          · exact Hd.out b k h
          · have := hlt5 b h; simp at k; omega)
        obtain ⟨wA, rfl⟩ : ∃ x, x = w6 := ⟨_, rfl⟩
        obtain ⟨nA, hnA⟩ : ∃ n : Int, n = (n0 : Int) + 1 := ⟨_, rfl⟩
        rw [← hnA]
        have HnA := hide (show nA = (((hsL (l.take (k + 1))).length + (bsL (l.take k)).length : Nat) : Int) from by rw [hnA, Hn0.out, HA.out]; simp; omega)
        have hnA2 : 0 ≤ nA ∧ nA ≤ 2001 := by omega
        clear p0 p1 H4 H5 Hf Hd HA M h16b hnA hn1 hlt5 Hn6 Hf6 Hf6' Hd6 e4
        obtain ⟨ha, rfl⟩ : ∃ x, x = ta := ⟨_, rfl⟩
        obtain ⟨hn, rfl⟩ : ∃ x, x = tl := ⟨_, rfl⟩
        obtain ⟨hc, rfl⟩ : ∃ x, x = tc := ⟨_, rfl⟩
      case' inr.inr =>
        have h16b : decide (16 < x.p.len) = false := by simp [h16]
        have HA := hide (show hsL (l.take (k + 1)) = hsL (l.take k) from by rw [HS1.out]; unfold hsF; rw [if_neg h16])
        clear h16
        go_upto_region 9 with (fail)
        have HA4 := hide (show NewL w wr 22 1 u32C ⟨ha, hn, hc⟩ (hsL (l.take (k + 1))) from by rw [HA.out]; exact H4.out)
        have HA5 := hide H5.out; have HfA := hide Hf.out; have HdA := hide Hd.out
        obtain ⟨wA, rfl⟩ : ∃ x, x = wr := ⟨_, rfl⟩
        obtain ⟨nA, hnA⟩ : ∃ n : Int, n = (n0 : Int) := ⟨_, rfl⟩
        rw [← hnA]
        have HnA := hide (show nA = (((hsL (l.take (k + 1))).length + (bsL (l.take k)).length : Nat) : Int) from by rw [hnA, Hn0.out, HA.out])
        have hnA2 : 0 ≤ nA ∧ nA ≤ 2001 := by omega
        clear p0 p1 H4 H5 Hf Hd HA h16b hnA hn1
      all_goals
        have hcr : CellsAt wA b (k * 2) (pcE x) := Hcx.out.fr HfA.out (fun h => h)
        have p0 : wA.cell? ⟨b, k * 2, none⟩ = some (.int .u32 (x.p.addr : Nat)) := by have := hcr 0 _ rfl; rwa [Nat.add_zero] at this
        have p1 : wA.cell? ⟨b, k * 2 + 1, none⟩ = some (.int .i64 x.p.len) := hcr 1 _ rfl
        clear hcr
        by_cases h24 : 24 < x.p.len
        · have h24b : decide (24 < x.p.len) = true := by simp [h24]
          have e8 := Hs8.out
          by_cases m : q8 ∈ bsL (l.take k)
          · have HB := hide (show bsL (l.take (k + 1)) = bsL (l.take k) from by rw [HS2.out]; unfold bsF addD; rw [Hq8.out, if_pos h24, if_pos m])
            have M := hide m
            clear h24 m
            go_wp2_with fail
            refine (ref_has wA ⟨ba, bn, bc⟩ (bsL (l.take k)) (q8) HA5.out.1 (by have := HL2.out; omega)).mono ?_
            rintro e w3 ⟨rfl, rfl⟩
            rw [decide_eq_true M.out]
            clear e8
            go_wp2_with fail
            go_roundw
            case rel =>
              refine ⟨k + 1, ⟨ha, hn, hc⟩, ⟨ba, bn, bc⟩, by have := Hl.out; omega, by go_num, ?_, rfl, rfl, HA4.out, by rw [HB.out]; exact HA5.out, HfA.out, HdA.out⟩
              rw [HnA.out]; unfold ownN; rw [HB.out]
            case measure => simp [intOf]; omega
          · have HB := hide (show bsL (l.take (k + 1)) = bsL (l.take k) ++ [q8] from by rw [HS2.out]; unfold bsF addD; rw [Hq8.out, if_pos h24, if_neg m])
            have M := hide m
            clear h24 m
            go_wp2_with fail
            refine (ref_has wA ⟨ba, bn, bc⟩ (bsL (l.take k)) (q8) HA5.out.1 (by have := HL2.out; omega)).mono ?_
            rintro e w3 ⟨rfl, rfl⟩
            rw [decide_eq_false M.out]
            go_upto_region 11 with (first
              | (refine wpList_buildSlice rfl 69 1 _ rfl #[(0, .int .u32 (q8 : Int))] (by first | kernel_rfl | rw [← e8]; kernel_rfl) Try.underlying69 (.int .u32 0) 1 (by kernel_rfl) #[.int .u32 (q8 : Int)] (by decide) (by decide) (by kernel_rfl) ?_)
              | (refine wpList_append_newD (w0 := w) (N := 1) (cells := u32C) (xs := bsL (l.take k)) (s := ⟨ba, bn, bc⟩) (q := ⟨some ⟨w3.heap.size, 0, none⟩, 1, 1⟩) (ys := [q8]) (ok := fun _ => True) rfl (.tmp 58) (.tmp 65) 69 rfl Try.underlying69 _ 4 uint32_info (by kernel_rfl) (by decide) u32C_length u32C_mem rfl (HA5.out.fr ((Fr.refl noB w3).alloc _)) (HfA.out.alloc _) rfl (slof_one (w := w3) (ok := fun _ => True) (x := q8) u32C_length 22 trivial) (fun h => by simp at h) (by have := HL2.out; simp [maxLen]; omega) (by have := HL2.out; simp; omega) ?_
                 intro s6 w6 hn6 hf6 hf6' hd6
                 have Hn6 := hide hn6; have Hf6 := hide hf6; have Hf6' := hide hf6'; have Hd6 := hide hd6
                 clear hn6 hf6 hf6' hd6
                 obtain ⟨ta, tl, tc⟩ := s6))
            have hlt5 : ∀ b, ownB ⟨ha, hn, hc⟩ b → b < w3.heap.size := fun b hb => HA4.out.1.lt b hb
            have HE5 := hide (show NewL w w6 22 1 u32C ⟨ta, tl, tc⟩ (bsL (l.take (k + 1))) from by rw [HB.out]; exact Hn6.out)
            have HE4 := hide ((HA4.out.fr ((Fr.refl noB w3).alloc _)).frS Hf6'.out (fun b hb h => HdA.out b hb h))
            have HdE := hide (show ∀ b, ownB ⟨ha, hn, hc⟩ b → ¬ ownB ⟨ta, tl, tc⟩ b from fun b hb h => by
              rcases Hd6.out b h with k | k
              · exact HdA.out b hb k
              · have := hlt5 b hb; simp at k; omega)
            clear hlt5 e8
            go_wp2_with fail
            go_roundw
            case rel =>
              refine ⟨k + 1, ⟨ha, hn, hc⟩, ⟨ta, tl, tc⟩, by have := Hl.out; omega, by go_num, ?_, rfl, rfl, HE4.out, HE5.out, Hf6.out, HdE.out⟩
              rw [HnA.out]; unfold ownN; rw [HB.out]; simp; omega
            case measure => simp [intOf]; omega
        · have h24b : decide (24 < x.p.len) = false := by simp [h24]
          have HB := hide (show bsL (l.take (k + 1)) = bsL (l.take k) from by rw [HS2.out]; unfold bsF; rw [if_neg h24])
          clear h24
          go_wp2_with fail
          go_roundw
          case rel =>
            refine ⟨k + 1, ⟨ha, hn, hc⟩, ⟨ba, bn, bc⟩, by have := Hl.out; omega, by go_num, ?_, rfl, rfl, HA4.out, by rw [HB.out]; exact HA5.out, HfA.out, HdA.out⟩
            rw [HnA.out]; unfold ownN; rw [HB.out]
          case measure => simp [intOf]; omega
    · obtain rfl : k = sl := by have := Hl.out; omega
      rw [show l.take k = l from by rw [Hl.out, List.take_length]]
      go_wp2_with fail
      go_ret
      exact ⟨rfl, Hf.out⟩
end Go.Proofs.Ytgjabgneapdbiaa

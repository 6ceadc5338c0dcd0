/- The law DirBack, walked: it returns true. -/
import Derived.Test.YtgjabgneapdbiaaDirFull
import Derived.Test.YtgjabgneapdbiaaDirLooks
namespace Go.Proofs.Ytgjabgneapdbiaa
open Go.RowKit Go.BigFrame
set_option linter.unusedSimpArgs false
set_option linter.unusedVariables false
attribute [local irreducible] wpMix wpAnyG

def iC (v : Int) : List Value := [.int .i64 v]
theorem iC_length (v : Int) : (iC v).length = 1 := rfl
theorem iC_mem (v : Int) : ∀ u ∈ iC v, u.oneCell' = true := by
  intro u hu
  simp only [iC, List.mem_singleton] at hu
  subst hu; rfl
/-- What the law notes of an address. -/
def seenV (l : List EntM) (a : Nat) : Int := match longE l a with | some x => x.v | none => -1
def NoP (l : List EntM) (p : PrefixM) : Prop := ∀ x ∈ l, x.p ≠ p
theorem NoP.set {l : List EntM} {p q : PrefixM} (h : NoP l p) (hs : SortedE l) (hq : q ≠ p) (most v : Int) : NoP (dirX most l q v).l p := by
  intro x hx
  rcases dirX_mem hs hx with rfl | hx
  · exact hq
  · exact h x hx
theorem NoP.has {l : List EntM} {p : PrefixM} (h : NoP l p) (hs : SortedE l) : hasE l p = false := by
  cases hh : hasE l p with
  | false => rfl
  | true =>
    obtain ⟨x, hx, he⟩ := (hasE_iff hs p).1 hh
    exact absurd he (h x hx)
/-- Set and Del of a prefix that was not there. -/
theorem back_ok {most : Int} {l : List EntM} {p : PrefixM} {v : Int} (hs : SortedE l) (h : hasE l p = false) :
    ((dirX most l p v).e = 0 ∧ hasE (dirX most l p v).l p = true ∧ delE (dirX most l p v).l p = l) ∨ (((dirX most l p v).e = 6 ∨ (dirX most l p v).e = 1) ∧ hasE (dirX most l p v).l p = false ∧ delE (dirX most l p v).l p = l) := by
  unfold dirX
  have hb : delE l p = l := by unfold delE; rw [h]; rfl
  split
  · split
    · exact .inl ⟨rfl, has_put hs p v, del_put hs h v⟩
    · exact .inr ⟨.inl rfl, h, hb⟩
  · exact .inr ⟨.inr rfl, h, hb⟩
def BackAt (w0 : World) (n : Nat) (p : PrefixM) (g : Nat) (iv : Value) (wr : World) : Prop := ∃ (k : Nat) (l : List EntM), k ≤ n ∧ k ≤ 60 ∧ iv = .int .i64 k ∧ l.length ≤ k ∧ NoP l p ∧ MyDir w0 wr g 64 l (1 + 2 * k) (2 * k)
def WasAt (w0 : World) (l : List EntM) (q : List Nat) (iv av : Value) (wr : World) : Prop := ∃ (j : Nat) (s : SlV), j ≤ q.length ∧ iv = .int .i64 j ∧ av = .slice s.a s.len s.cap ∧ NewL w0 wr 3 1 iC s ((q.take j).map (seenV l)) ∧ Fr noB w0 wr

set_option maxRecDepth 100000 in
set_option maxHeartbeats 16000000 in
theorem law_dback (s : SlV) (xs : List DActM) (p : PrefixM) (hp : p.wf) (a : Nat) (ha : a < 4294967296) (w : World) (hs : DActs w s xs) :
    Calls Try.prog 15 #[.slice s.a s.len s.cap, .agg p.cells.toArray, .int .u32 (a : Nat)] w fun e w' => e = .returned (.bool true) ∧ Fr noB w w' := by
  obtain ⟨sa, len, cap⟩ := s
  have hl : len = xs.length := hs.1
  have hm : len ≤ maxLen := hs.2.1
  unfold maxLen at hm
  have Hs := hide hs; have Hl := hide hl; have Hp := hide hp
  clear hs hl
  simp only
  go_enter Try.func15, Try.ntmps15
  go_upto_region 1 with (fail)
  refine wp_gen (fun W => CellsAt W w.heap.size 0 p.cells ∧ Fr noB w W) ⟨by (repeat (first | assumption | exact cells_new _ _ _ (by simp) | refine CellsAt.alloc ?_ _ | refine CellsAt.drew ?_ | refine CellsAt.drewN ?_ _)), (Fr.refl _ _).alloc _⟩ ?_
  rintro w0 ⟨hc0, hf0⟩
  have Hc0 := hide hc0; have Hf0 := hide hf0
  have Hbp := hide (block_of_cell (show w0.cell? ⟨w.heap.size, 0, none⟩ = some (.int .u32 (p.addr : Nat)) from by have := hc0 0 _ rfl; rwa [Nat.zero_add] at this))
  clear hc0
  obtain ⟨bp, hbp⟩ : ∃ b, w.heap.size = b := ⟨_, rfl⟩
  rw [hbp] at Hc0 Hbp ⊢
  clear hbp
  have Hs0 := hide (SlOf.fr Hs.out hf0 (fun _ _ h => h) (fun _ h => h))
  clear hf0
  go_wp2_with fail
  refine (dir_new w0 64 (by unfold i64b; decide)).mono ?_
  rintro e w1 ⟨g, rfl, hr, hf1⟩
  rw [show max (64 : Int) 0 = 64 from rfl] at hr
  have HD := hide (MyDir.new (Fr.refl noB w0) hr hf1)
  clear hr hf1
  go_wp2_with fail
  go_loopw [8] (BackAt w0 xs.length p g) (fun i _ => len - (intOf i).toNat)
  case atStart => exact ⟨0, [], Nat.zero_le _, by omega, rfl, Nat.le_refl _, (fun x hx => by simp at hx), HD.out⟩
  case round =>
    obtain ⟨k, l, hk, hk60, rfl, hlen, hno, hd⟩ := hrel
    have Hd := hide hd; have Hno := hide hno
    clear hd HD hno
    by_cases hgo : k < len ∧ k < 60
    · obtain ⟨hlt, h60⟩ := hgo
      have hk2 : k < xs.length := by have := Hl.out; omega
      have hx : xs[k]? = some xs[k] := List.getElem?_eq_getElem hk2
      obtain ⟨b, o, rfl, hbw, hc, hwf⟩ := SlOf.at Hs0.out hx
      generalize xs[k] = x at *
      have hmul : ((k : Int) * 4).toNat = k * 4 := by omega
      have Hc := hide (show CellsAt w0 b (o + k * 4) x.cells from hc); have Hwf := hide hwf
      have hcv : ∀ z : Grow w0, z.v.cell? ⟨b, o + k * 4 + 3, none⟩ = some (.int .i64 x.v) := fun z => by have := (Hc.out.fr z.fr (fun h => h)) 3 _ rfl; exact this
      have Hcp := hide (show CellsAt w0 b (o + k * 4 + 1) x.p.cells from cells_pre (ds := [.int .i64 x.v]) (by have h := cells_part Hc.out 1; exact h))
      clear hx hc hwf
      go_upto_region 7 with (fail)
      refine wp_region_mix (fun W => ∃ z : Grow w0, W = z.v) (by kernel_rfl) (by kernel_rfl) (inGrow Hd.out.1.drew) ?_
      iterate 4 (first | (refine wpMix_skip rfl ?_; simp only [Act.put, List.setIfInBounds_toArray, List.set_cons_succ, List.set_cons_zero]) | (refine wpMix_calm rfl rfl (fun K hK => ?_); go_big_quiet_op; refine hK _ ?_; clear hK K))
      refine wpMix_load_atw rfl 28 (.tmp 36) rfl b (o + k * 4 + 1) (by go_simp) x.p.cells (fun W hW => by obtain ⟨z, rfl⟩ := hW; exact Hcp.out.fr z.fr (fun h => h)) _ Try.underlying28 rfl (by kernel_rfl) ?_
      simp only [Act.put, List.setIfInBounds_toArray, List.set_cons_succ, List.set_cons_zero]
      refine wpMix_load_atw rfl 28 (.tmp 4) rfl bp 0 rfl p.cells (fun W hW => by obtain ⟨z, rfl⟩ := hW; exact Hc0.out.fr z.fr (fun h => h)) _ Try.underlying28 rfl (by kernel_rfl) ?_
      simp only [Act.put, List.setIfInBounds_toArray, List.set_cons_succ, List.set_cons_zero]
      refine wpMix_eqs rfl true 28 (.tmp 37) (.tmp 38) rfl x.p.cells.toArray p.cells.toArray rfl rfl (decide (x.p = p)) (by kernel_rfl) (fun w => by rw [prefix_equal]) ?_
      simp only [Act.put, List.setIfInBounds_toArray, List.set_cons_succ, List.set_cons_zero]
      refine wpMix_nil ?_
      by_cases he : x.p = p
      · rw [decide_eq_true he, show (true ^^ true) = false from rfl]
        clear hcv he
        go_wp2_with fail
        go_roundw
        case rel => exact ⟨k + 1, l, by omega, by omega, by go_num, by omega, Hno.out, (Hd.out.fr (Fr.refl noB wr).drew).up (by omega) (by omega) (by omega)⟩
        case measure => simp [intOf]; omega
      · have He := hide he
        rw [decide_eq_false he, show (true ^^ false) = true from rfl]
        clear he
        go_upto_region 8 with (fail)
        refine wp_region_mix (fun W => ∃ z : Grow w0, W = z.v) (by kernel_rfl) (by kernel_rfl) (inGrow Hd.out.1.drew.drew) ?_
        iterate 5 (first | (refine wpMix_skip rfl ?_; simp only [Act.put, List.setIfInBounds_toArray, List.set_cons_succ, List.set_cons_zero]) | (refine wpMix_calm rfl rfl (fun K hK => ?_); go_big_quiet_op; refine hK _ ?_; clear hK K))
        refine wpMix_load_atw rfl 28 (.tmp 44) rfl b (o + k * 4 + 1) (by go_simp) x.p.cells (fun W hW => by obtain ⟨z, rfl⟩ := hW; exact Hcp.out.fr z.fr (fun h => h)) _ Try.underlying28 rfl (by kernel_rfl) ?_
        simp only [Act.put, List.setIfInBounds_toArray, List.set_cons_succ, List.set_cons_zero]
        iterate 5 (first | (refine wpMix_skip rfl ?_; simp only [Act.put, List.setIfInBounds_toArray, List.set_cons_succ, List.set_cons_zero]) | (refine wpMix_calm rfl rfl (fun K hK => ?_); go_big_quiet_op; refine hK _ ?_; clear hK K))
        refine wpMix_spine rfl rfl (fun K hK => ?_); go_wp2_with fail
        refine (my_set (Hd.out.fr ((Fr.refl noB wr).drew.drew)) (by omega) (by omega) ⟨by decide, by unfold i64b; decide⟩ x.p Hwf.out.1 x.v Hwf.out.2).mono ?_
        rintro e w5 ⟨rfl, hd5⟩
        refine hK _ _ rfl (inGrow hd5.1) ?_
        clear hK K
        have Hno5 := hide (Hno.out.set Hd.out.trie.1 He.out 64 x.v)
        have Hlen5 := hide (Nat.le_trans (dirX_len 64 l x.p x.v) (show l.length + 1 ≤ k + 1 by omega))
        have Hd5 := hide hd5
        generalize (dirX 64 l x.p x.v).l = l' at *
        generalize (dirX 64 l x.p x.v).e = ee at *
        clear hd5
        repeat (first | (refine wpMix_skip rfl ?_; simp only [Act.put, List.setIfInBounds_toArray, List.set_cons_succ, List.set_cons_zero]) | (refine wpMix_calm rfl rfl (fun K hK => ?_); go_big_quiet_op; refine hK _ ?_; clear hK K))
        refine wpMix_nil ?_
        clear hcv
        go_wp2_with fail
        go_roundw
        case rel => exact ⟨k + 1, l', by omega, by omega, by go_num, Hlen5.out, Hno5.out, Hd5.out.up (by omega) (by omega) (by omega)⟩
        case measure => simp [intOf]; omega
    · have hstop : (k < len ∧ ¬ k < 60) ∨ ¬ k < len := by omega
      clear hgo
      have Hno2 := hide (Hno.out.has Hd.out.trie.1)
      obtain ⟨nn, hnn⟩ : ∃ nn, ownN l = nn := ⟨_, rfl⟩
      have hnn1 : nn ≤ 120 := by have := ownN_le l; omega
      have Hnn := hide hnn
      clear hnn
      rcases hstop with ⟨h1, h2⟩ | h1
      all_goals
        go_wp2_with fail
        refine (my_blocks Hd.out).mono ?_
        rintro e w2 ⟨rfl, rfl⟩
        rw [Hnn.out]
        have hbc : ∀ z : Grow w2, z.v.cell? ⟨bp, 0, none⟩ = some (.int .u32 (p.addr : Nat)) := fun z => by have := (Hc0.out.fr (Hd.out.1.tr z.fr) (fun h => h)) 0 _ rfl; rwa [Nat.zero_add] at this
        go_upto_region 10 with (fail)
        refine wp_region_mix (fun W => ∃ z : Grow w2, W = z.v) (by kernel_rfl) (by kernel_rfl) (inGrow (Fr.refl _ _).drew) ?_
        iterate 3 (first | (refine wpMix_skip rfl ?_; simp only [Act.put, List.setIfInBounds_toArray, List.set_cons_succ, List.set_cons_zero]) | (refine wpMix_calm rfl rfl (fun K hK => ?_); go_big_quiet_op; refine hK _ ?_; clear hK K))
        refine wpMix_load_atw rfl 28 (.tmp 4) rfl bp 0 rfl p.cells (fun W hW => by obtain ⟨z, rfl⟩ := hW; exact Hc0.out.fr (Hd.out.1.tr z.fr) (fun h => h)) _ Try.underlying28 rfl (by kernel_rfl) ?_
        simp only [Act.put, List.setIfInBounds_toArray, List.set_cons_succ, List.set_cons_zero]
        refine wpMix_spine rfl rfl (fun K hK => ?_); go_wp2_with fail
        refine (ref3_Wide p Hp.out w2.drew).mono ?_
        rintro e w3 ⟨q1, hq1, rfl, hf3⟩
        have Hf3 := hide ((Fr.refl noB w2).drew.tr hf3)
        refine hK _ _ rfl (inGrow Hf3.out) ?_
        clear hK K hf3
        refine wpMix_load_atw rfl 28 (.tmp 4) rfl bp 0 rfl p.cells (fun W hW => by obtain ⟨z, rfl⟩ := hW; exact Hc0.out.fr (Hd.out.1.tr z.fr) (fun h => h)) _ Try.underlying28 rfl (by kernel_rfl) ?_
        simp only [Act.put, List.setIfInBounds_toArray, List.set_cons_succ, List.set_cons_zero]
        refine wpMix_spine rfl rfl (fun K hK => ?_); go_wp2_with fail
        refine (ref3_Wide p Hp.out w3).mono ?_
        rintro e w4 ⟨q2, hq2, rfl, hf4⟩
        have Hf4 := hide (Hf3.out.tr hf4)
        refine hK _ _ rfl (inGrow Hf4.out) ?_
        clear hK K hf4
        iterate 1 (first | (refine wpMix_skip rfl ?_; simp only [Act.put, List.setIfInBounds_toArray, List.set_cons_succ, List.set_cons_zero]) | (refine wpMix_calm rfl rfl (fun K hK => ?_); go_big_quiet_op; refine hK _ ?_; clear hK K))
        obtain ⟨q3, hq3, he3⟩ := u32_mod ((q2 : Int) + 1)
        rw [he3]
        clear he3
        refine wpMix_buildSlice rfl 69 4 _ rfl #[(0, .int .u32 (a : Nat)), (1, .int .u32 (p.addr : Nat)), (2, .int .u32 (q1 : Nat)), (3, .int .u32 (q3 : Nat))] (by kernel_rfl) Try.underlying69 (.int .u32 0) 1 (by kernel_rfl) #[.int .u32 (a : Nat), .int .u32 (p.addr : Nat), .int .u32 (q1 : Nat), .int .u32 (q3 : Nat)] (by decide) (by decide) (by kernel_rfl) (inGrow (Hf4.out.alloc _)) ?_
        simp only [Act.put, List.setIfInBounds_toArray, List.set_cons_succ, List.set_cons_zero]
        repeat (first | (refine wpMix_skip rfl ?_; simp only [Act.put, List.setIfInBounds_toArray, List.set_cons_succ, List.set_cons_zero]) | (refine wpMix_calm rfl rfl (fun K hK => ?_); go_big_quiet_op; refine hK _ ?_; clear hK K))
        refine wpMix_nil ?_
        clear hbc
        obtain ⟨q, hq⟩ : ∃ q, [a, p.addr, q1, q3] = q := ⟨_, rfl⟩
        have hql : q.length = 4 := by subst hq; rfl
        have Hqb := hide (show ∀ c ∈ q, c < 4294967296 from fun c hc => by
          subst hq
          simp only [List.mem_cons, List.not_mem_nil, or_false] at hc
          rcases hc with rfl | rfl | rfl | rfl
          · exact ha
          · exact Hp.out.1
          · exact hq1
          · exact hq3)
        have HQ := hide (show OwnL (w4.alloc (.cells #[.int .u32 (a : Nat), .int .u32 (p.addr : Nat), .int .u32 (q1 : Nat), .int .u32 (q3 : Nat)] 22)) 22 1 u32C ⟨some ⟨w4.heap.size, 0, none⟩, 4, 4⟩ q from ⟨by rw [hql], .inr ⟨w4.heap.size, [], rfl, by subst hq; exact Blk.alloc_new w4 _ _, by subst hq; simp [u32C], Nat.le_refl _, by simp [maxLen]⟩⟩)
        obtain ⟨hw0, D, hdr, hDb⟩ := Hd.out
        have Hf5 := hide (show Fr noB w2 (w4.alloc (.cells #[.int .u32 (a : Nat), .int .u32 (p.addr : Nat), .int .u32 (q1 : Nat), .int .u32 (q3 : Nat)] 22)) from Hf4.out.alloc _)
        have Hdr := hide (hdr.fr Hf5.out (fun _ _ h => h))
        have HDb := hide hDb
        have HDl := hide (show ∀ b, D b → b < w4.heap.size from fun b hb => by have := hdr.lt b hb; have := Hf4.out.size; omega)
        have Hga := hide (show w4.heap.size < (w4.alloc (.cells #[.int .u32 (a : Nat), .int .u32 (p.addr : Nat), .int .u32 (q1 : Nat), .int .u32 (q3 : Nat)] 22)).heap.size by simp)
        have Hw0 := hide hw0
        have Hql := hide hql
        clear hdr hDb hw0 hq
        generalize w4.alloc (.cells #[.int .u32 (a : Nat), .int .u32 (p.addr : Nat), .int .u32 (q1 : Nat), .int .u32 (q3 : Nat)] 22) = w5 at *
        generalize w4.heap.size = ga at *
        clear Hf4 Hf3 hq1 hq2 hq3 hql
        go_wp2_with fail
        go_loopw [12, 11] (WasAt w5 l q) (fun i _ _ => 4 - (intOf i).toNat)
        case atStart => exact ⟨0, ⟨none, 0, 0⟩, Nat.zero_le _, rfl, rfl, NewL.nil _ _ _ _ _, Fr.refl _ _⟩
        case round =>
          obtain ⟨j, ⟨ta, tl, tc⟩, hj, rfl, rfl, hnew, hfj⟩ := hrel
          have Hfj := hide hfj; have Hnew := hide hnew
          have htl : tl = j := by have h := hnew.len; simp only [List.length_map, List.length_take] at h; have := Hql.out; omega
          have hj4 : j ≤ 4 := by have := Hql.out; omega
          have Htl := hide htl
          clear hfj hnew hj htl
          by_cases hgo : j < 4
          · obtain ⟨c, hx⟩ : ∃ c, q[j]? = some c := ⟨_, List.getElem?_eq_getElem (show j < q.length by have := Hql.out; omega)⟩
            have Hcb := hide (Hqb.out c (List.mem_of_getElem? hx))
            have Hx := hide hx
            obtain ⟨b, hb, _, hcx, _⟩ := own_at (HQ.out.fr Hfj.out (fun _ _ h => h)) u32C_length hx
            simp only [Option.some.injEq, Addr.mk.injEq, and_true] at hb
            subst hb
            have x0 : wr.cell? ⟨ga, j, none⟩ = some (.int .u32 (c : Nat)) := by have := hcx 0 _ rfl; simpa using this
            have hj1 : ((j : Int) * 1).toNat = j := by omega
            have hj2 : (j : Int).toNat = j := by omega
            have htl2 : tl ≤ 4 := by have := Htl.out; omega
            clear hx hcx
            go_wp2_with fail
            refine (dir_look wr D g 64 l _ _ (Hdr.out.fr Hfj.out (fun _ _ h => h)) c Hcb.out).mono ?_
            rintro e w6 ⟨rfl, hf6⟩
            have Hf6 := hide (Hfj.out.tr hf6)
            have Hnew6 := hide (Hnew.out.fr hf6)
            clear hf6 x0 Hnew
            obtain ⟨V, hV⟩ : ∃ V, seenV l c = V := ⟨_, rfl⟩
            have HV := hide hV
            have hpre : ((q.take j).map (seenV l)).length ≤ 4 := by rw [List.length_map, List.length_take]; omega
            have Hpre := hide hpre
            have hcase : (longE l c = none ∧ V = -1) ∨ ∃ y, longE l c = some y ∧ V = y.v := by
              unfold seenV at hV
              cases hlo : longE l c with
              | none => rw [hlo] at hV; exact .inl ⟨rfl, hV.symm⟩
              | some y => rw [hlo] at hV; exact .inr ⟨y, rfl, hV.symm⟩
            clear hV hpre
            rcases hcase with ⟨hlo, hv⟩ | ⟨y, hlo, hv⟩
            case' inl =>
              rw [hlo, show getV none = .tuple #[.int .i64 0, .bool false] from rfl]
              have Hvv := hide hv
              clear hlo hv
              go_upto_region 18 with (fail)
              rw [← Hvv.out]
            case' inr =>
              rw [hlo, show getV (some y) = .tuple #[.int .i64 y.v, .bool true] from rfl, ← hv]
              clear hlo hv
              go_upto_region 18 with (fail)
            all_goals
              go_wp2_with (first
                | (refine wpList_buildSlice rfl 48 1 _ rfl #[(0, .int .i64 V)] (by kernel_rfl) Try.underlying48 (.int .i64 0) 1 (by kernel_rfl) #[.int .i64 V] (by decide) (by decide) (by kernel_rfl) ?_)
                | (refine wpList_append_newD (w0 := w5) (N := 1) (cells := iC) (xs := (q.take j).map (seenV l)) (s := ⟨ta, tl, tc⟩) (q := ⟨some ⟨w6.heap.size, 0, none⟩, 1, 1⟩) (ys := [V]) (ok := fun _ => True) rfl (.tmp 80) (.tmp 82) 48 rfl Try.underlying48 _ 8 int_info (by kernel_rfl) (by decide) iC_length iC_mem rfl (Hnew6.out.fr ((Fr.refl noB w6).alloc _)) (Hf6.out.alloc _) rfl (slof_one (w := w6) (ok := fun _ => True) (x := V) iC_length 3 trivial) (fun h => by simp at h) (by have := Hpre.out; simp only [List.length_singleton, maxLen]; omega) (by have := Hpre.out; simp only [List.length_singleton]; omega) ?_
                   intro s7 w7 hn7 hf7 hf7' hd7
                   have Hn7 := hide hn7; have Hf7 := hide hf7
                   clear hn7 hf7 hf7' hd7
                   obtain ⟨ua, ul, uc⟩ := s7))
              go_roundw
              case rel =>
                refine ⟨j + 1, ⟨ua, ul, uc⟩, by have := Hql.out; omega, by go_num, rfl, ?_, Hf7.out⟩
                rw [List.take_add_one, Hx.out, List.map_append]
                have := Hn7.out
                rw [← HV.out] at this
                exact this
              case measure => simp [intOf]; omega
          · obtain rfl : j = 4 := by omega
            have Hnq := hide (show NewL w5 wr 3 1 iC ⟨ta, tl, tc⟩ (q.map (seenV l)) from by have h := Hnew.out; rwa [List.take_of_length_le (by have := Hql.out; omega)] at h)
            have hc2 : CellsAt wr bp 0 p.cells := Hc0.out.fr (Hw0.out.tr (Hf5.out.tr Hfj.out)) (fun h => h)
            have Hdrj := hide (Hdr.out.fr Hfj.out (fun _ _ h => h))
            have HnD := hide (show ¬ D bp from fun h => by have := HDb.out bp h; have := Hbp.out; omega)
            have hback := back_ok (most := 64) (v := 1048576) Hdrj.out.trie.1 Hno2.out
            have htl4 := Htl.out
            clear Hnew hgo
            go_wp2_with (refine wpList_load_atw rfl 28 (.tmp 4) rfl bp 0 rfl p.cells hc2 _ Try.underlying28 rfl (by kernel_rfl) ?_)
            refine (dir_setX wr D g 64 l _ _ Hdrj.out (by omega) (by omega) ⟨by decide, by unfold i64b; decide⟩ p Hp.out 1048576 (by unfold i64b; decide)).mono ?_
            rintro e w7 ⟨rfl, hr7, hf7⟩
            have Hr7 := hide hr7; have Hf7 := hide hf7
            have hc7 : CellsAt w7 bp 0 p.cells := hc2.fr hf7 HnD.out
            clear hr7 hf7 hc2
            rcases hback with ⟨e1, e2, e3⟩ | ⟨e1, e2, e3⟩
            case' inl =>
              rw [e1]
              have E2 := hide e2; have E3 := hide e3
              clear e1 e2 e3
              go_wp2_with (refine wpList_load_atw rfl 28 (.tmp 4) rfl bp 0 rfl p.cells hc7 _ Try.underlying28 rfl (by kernel_rfl) ?_)
              refine (dir_del w7 _ g 64 _ _ _ Hr7.out (by omega) p Hp.out).mono ?_
              rw [E2.out, E3.out]
              rintro e w8 ⟨rfl, hr8, hf8⟩
            case' inr =>
              have hne : (((dirX 64 l p 1048576).e : Int) == 0) = false := by rcases e1 with h | h <;> rw [h] <;> rfl
              generalize (dirX 64 l p 1048576).e = ee at *
              have E2 := hide e2; have E3 := hide e3
              clear e1 e2 e3
              go_wp2_with (refine wpList_load_atw rfl 28 (.tmp 4) rfl bp 0 rfl p.cells hc7 _ Try.underlying28 rfl (by kernel_rfl) ?_)
              refine (dir_del w7 _ g 64 _ _ _ Hr7.out (by omega) p Hp.out).mono ?_
              rw [E2.out, E3.out]
              rintro e w8 ⟨rfl, hr8, hf8⟩
            all_goals
              have Hr8 := hide hr8
              have HF8 := hide (show Fr D wr w8 from Hf7.out.trans hf8 (fun _ _ h => h) (fun b hb h => h.elim id (fun k => by omega)))
              have HQ8 := hide (show OwnL w8 22 1 u32C ⟨some ⟨ga, 0, none⟩, 4, 4⟩ q from (HQ.out.fr Hfj.out (fun _ _ h => h)).fr HF8.out (fun b ⟨x, hx, hb⟩ hD => by
                simp only [Option.some.injEq] at hx
                subst hx
                simp only at hb
                have := HDl.out b hD
                omega))
              have HW8 := hide (show OwnL w8 3 1 iC ⟨ta, tl, tc⟩ (q.map (seenV l)) from Hnq.out.1.fr HF8.out (fun b hb hD => by have := Hnq.out.2 b hb; have := HDl.out b hD; have := Hga.out; omega))
              have HZ8 := hide (show Fr noB w w8 from (Hf0.out.tr (Hw0.out.tr (Hf5.out.tr Hfj.out))).trans HF8.out (fun _ _ h => h) (fun b hb h => by have := HDb.out b h; have := Hf0.out.size; omega))
              clear hr8 hf8 hc7
              go_wp2_with fail
              refine (dir_blocks w8 _ g 64 l _ _ Hr8.out).mono ?_
              rintro e w9 ⟨rfl, rfl⟩
              rw [Hnn.out]
              obtain ⟨wB, hwB⟩ : ∃ x, x = w9 := ⟨_, rfl⟩
              go_wp2_with fail
              rw [← hwB]
              rw [← hwB] at Hr8 HQ8 HW8 HZ8
              try clear hne
              go_loopw [17] (AskAt wB 4) (fun i _ => 4 - (intOf i).toNat)
              case atStart => exact ⟨0, Nat.zero_le _, rfl, Fr.refl _ _⟩
              case round =>
                obtain ⟨j, hj, rfl, hfk⟩ := hrel
                have Hfk := hide hfk
                clear hfk
                by_cases hgo : j < 4
                · obtain ⟨c, hx⟩ : ∃ c, q[j]? = some c := ⟨_, List.getElem?_eq_getElem (show j < q.length by have := Hql.out; omega)⟩
                  have Hcb := hide (Hqb.out c (List.mem_of_getElem? hx))
                  have hx2 : (q.map (seenV l))[j]? = some (seenV l c) := by rw [List.getElem?_map, hx]; rfl
                  obtain ⟨b, hb, _, hcx, _⟩ := own_at (HQ8.out.fr Hfk.out (fun _ _ h => h)) u32C_length hx
                  simp only [Option.some.injEq, Addr.mk.injEq, and_true] at hb
                  subst hb
                  obtain ⟨b2, hb2, _, hcy, _⟩ := own_at (HW8.out.fr Hfk.out (fun _ _ h => h)) iC_length hx2
                  simp only at hb2
                  subst hb2
                  have Hcy := hide (show CellsAt wr b2 (j * 1) (iC (seenV l c)) from hcy)
                  have x0 : wr.cell? ⟨ga, j, none⟩ = some (.int .u32 (c : Nat)) := by have := hcx 0 _ rfl; simpa using this
                  have hj1 : ((j : Int) * 1).toNat = j := by omega
                  have hj2 : (j : Int).toNat = j := by omega
                  have hjt : j < tl := by have := Htl.out; omega
                  clear hx hx2 hcx hcy
                  go_wp2_with fail
                  refine (dir_look wr _ g 64 l _ _ (Hr8.out.fr Hfk.out (fun _ _ h => h)) c Hcb.out).mono ?_
                  rintro e w10 ⟨rfl, hf10⟩
                  have Hf10 := hide (Hfk.out.tr hf10)
                  have x1 : w10.cell? ⟨b2, j, none⟩ = some (.int .i64 (seenV l c)) := by have := (Hcy.out.fr hf10 (fun h => h)) 0 _ rfl; simpa using this
                  clear hf10 x0
                  obtain ⟨V, hV⟩ : ∃ V, seenV l c = V := ⟨_, rfl⟩
                  rw [hV] at x1
                  have hcase : (longE l c = none ∧ V = -1) ∨ ∃ y, longE l c = some y ∧ V = y.v := by
                    unfold seenV at hV
                    cases hlo : longE l c with
                    | none => rw [hlo] at hV; exact .inl ⟨rfl, hV.symm⟩
                    | some y => rw [hlo] at hV; exact .inr ⟨y, rfl, hV.symm⟩
                  clear hV
                  rcases hcase with ⟨hlo, hv⟩ | ⟨y, hlo, hv⟩
                  case' inl =>
                    rw [hlo, show getV none = .tuple #[.int .i64 0, .bool false] from rfl]
                    rw [hv] at x1
                    clear hlo hv
                  case' inr =>
                    rw [hlo, show getV (some y) = .tuple #[.int .i64 y.v, .bool true] from rfl]
                    rw [hv] at x1
                    clear hlo hv
                  all_goals
                    go_wp2_with fail
                    go_roundw
                    case rel => exact ⟨j + 1, by omega, by go_num, Hf10.out⟩
                    case measure => simp [intOf]; omega
                · obtain rfl : j = 4 := by omega
                  go_wp2_with fail
                  refine (dir_known wr).mono ?_
                  rintro e w11 ⟨rfl, hf11⟩
                  have Hf11 := hide (HZ8.out.tr (Hfk.out.tr hf11))
                  clear hf11
                  go_wp2_with fail
                  go_ret
                  exact ⟨rfl, Hf11.out⟩
end Go.Proofs.Ytgjabgneapdbiaa

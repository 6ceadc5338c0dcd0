/- The law DirLooks, walked: it returns true. -/
import Derived.Test.YtgjabgneapdbiaaDirPlays
namespace Go.Proofs.Ytgjabgneapdbiaa
open Go.RowKit Go.BigFrame
set_option linter.unusedSimpArgs false
set_option linter.unusedVariables false
attribute [local irreducible] wpMix wpAnyG

theorem u32_or_ex (x y : Int) : ∃ n : Nat, n < 4294967296 ∧ bits .or .u32 x y = (n : Int) := by
  refine ⟨(BitVec.ofInt 32 x ||| BitVec.ofInt 32 y).toNat, (BitVec.ofInt 32 x ||| BitVec.ofInt 32 y).isLt, ?_⟩
  have h := (BitVec.ofInt 32 x ||| BitVec.ofInt 32 y).isLt
  show IntKind.u32.wrap ((BitVec.ofInt 32 x ||| BitVec.ofInt 32 y).toNat : Int) = _
  generalize (BitVec.ofInt 32 x ||| BitVec.ofInt 32 y).toNat = n at *
  show (n : Int) % 4294967296 = n
  omega
set_option maxHeartbeats 1000000 in
theorem ref3_Wide (p : PrefixM) (hp : p.wf) (w : World) :
    Calls Try.prog 47 #[.agg p.cells.toArray] w fun e w' => ∃ n : Nat, n < 4294967296 ∧ e = .returned (.int .u32 (n : Nat)) ∧ Fr noB w w' := by
  show Calls Try.prog 47 #[.agg #[.int .u32 (p.addr : Nat), .int .i64 p.len]] w _
  go_enter Try.func47, Try.ntmps47
  go_wp2_with fail
  go_quiet ((go_at_call 54; exact Calls.quiet_of_same ((ref3_Mask _ _).mono fun _ _ ⟨h1, h2⟩ => ⟨h1, h2.symm⟩)))
  go_wp2
  go_ret
  exact (u32_or_ex _ _).elim fun n h => ⟨n, h.1, ret_int h.2, ((Fr.refl _ _).alloc _).drewN _⟩

theorem u32_mod (x : Int) : ∃ n : Nat, n < 4294967296 ∧ x % 4294967296 = (n : Int) := ⟨(x % 4294967296).toNat, by omega, by omega⟩
theorem wpMix_append_newD {α : Type} {P : Program} {ops : Array Oper} {w w0 : World} {e : TypeId} {N : Nat} {cells : α → List Value} {s : SlV} {xs : List α} {rest : List Oper} {o : Oper} {a : Act} {Q : Act → World → Prop} (hw : Region.wanted o (yielded ops a.tmps) = true) (sx xx : Operand) (t : TypeId)
    (ho : o.op = .call { callee := .builtin .append, args := #[sx, xx], argTypes := #[t, t] }) (ht : P.underlying t = some (.slice e)) (z : Value) (bytes : Nat)
    (hinfo : (P.info? e).map (fun i => (i.zero, i.size, i.bytes)) = some (some z, N, bytes)) (hzs : z.cells.size = N) (hNp : 0 < N) (hN : ∀ x, (cells x).length = N) (h1c : ∀ x, ∀ u ∈ cells x, u.oneCell' = true)
    (hs : a.eval sx = .slice s.a s.len s.cap) (hown : NewL w0 w e N cells s xs) (h0 : Fr noB w0 w) {ok : α → Prop} {q : SlV} {ys : List α} (hx : a.eval xx = .slice q.a q.len q.cap) (hq : SlOf w N cells ok q ys) (hnil : q.a = none → q.cap = 0)
    (hm : xs.length + ys.length ≤ maxLen) (hbytes : (xs.length + ys.length) * bytes ≤ 140737488355328)
    (h : ∀ s' w', NewL w0 w' e N cells s' (xs ++ ys) → Fr noB w0 w' → Fr (ownB s) w w' → (∀ b, ownB s' b → ownB s b ∨ w.heap.size ≤ b) → wpMix P ops (fun W => ∃ z : Grow w0, W = z.v) Q rest (a.put o.dst (.slice s'.a s'.len s'.cap)) w') :
    wpMix P ops (fun W => ∃ z : Grow w0, W = z.v) Q (o :: rest) a w :=
  wpMix_append_rows hw sx xx t ho ht z bytes hinfo hzs hNp hN h1c hs hown.1 hx hq hnil hm hbytes fun s' w' h1 h2 h3 => by
    obtain ⟨g1, g2⟩ := hown.step h0 h1 h2 h3
    refine ⟨⟨⟨w', g2⟩, rfl⟩, h s' w' g1 g2 h2 ?_⟩
    rintro b ⟨x, hx, rfl⟩
    rcases h3 with ⟨e1, _⟩ | ⟨g', e1, hg, _⟩
    · exact .inl ⟨x, by rw [← e1]; exact hx, rfl⟩
    · rw [e1] at hx
      simp only [Option.some.injEq] at hx
      subst hx
      exact .inr hg

def DLookAt (w0 : World) (n : Nat) (most : Int) (g gx : Nat) (iv av : Value) (wr : World) : Prop := ∃ (k : Nat) (l : List EntM) (s : SlV) (q : List Nat) (F : Nat → Prop), k ≤ n ∧ k ≤ 60 ∧ iv = .int .i64 k ∧ av = .slice s.a s.len s.cap ∧ l.length ≤ k ∧ q.length ≤ 1 + 4 * k ∧ (∀ a ∈ q, a < 4294967296) ∧
  BothG wr F most l g gx (1 + 2 * k) (2 * k) ∧ NewL w0 wr 22 1 u32C s q ∧ (∀ b, ownB s b → ¬ F b) ∧ (∀ b, F b → w0.heap.size ≤ b) ∧ Fr noB w0 wr
def AskAt (w0 : World) (n : Nat) (iv : Value) (wr : World) : Prop := ∃ j : Nat, j ≤ n ∧ iv = .int .i64 j ∧ Fr noB w0 wr

set_option maxRecDepth 100000 in
set_option maxHeartbeats 8000000 in
theorem law_dlooks (n : Int) (hn : i64b n) (s : SlV) (xs : List DActM) (a : Nat) (ha : a < 4294967296) (w : World) (hs : DActs w s xs) :
    Calls Try.prog 14 #[.int .i64 n, .slice s.a s.len s.cap, .int .u32 (a : Nat)] w fun e w' => e = .returned (.bool true) ∧ Fr noB w w' := by
  obtain ⟨sa, len, cap⟩ := s
  have hl : len = xs.length := hs.1
  have hm : len ≤ maxLen := hs.2.1
  unfold maxLen at hm
  have Hs := hide hs; have Hl := hide hl
  clear hs hl
  simp only
  go_enter Try.func14, Try.ntmps14
  go_wp2_with fail
  refine (dir_new w n hn).mono ?_
  rintro e w1 ⟨g, rfl, hr, hf1⟩
  have Hr := hide hr; have Hf1 := hide hf1
  clear hr hf1
  go_wp2_with fail
  refine (doc10_new w1 n hn).mono ?_
  rintro e w2 ⟨gx, rfl, hd, hf2⟩
  have HB := hide (bothD_new (max_i64 hn).1 Hr.out Hf1.out hd hf2)
  have Hmost := hide (max_i64 hn)
  generalize max n 0 = most at *
  clear Hr Hf1 hd hf2
  go_upto_region 5 with (refine wpList_buildSlice rfl 69 1 _ rfl #[(0, .int .u32 (a : Nat))] (by kernel_rfl) Try.underlying69 (.int .u32 0) 1 (by kernel_rfl) #[.int .u32 (a : Nat)] (by decide) (by decide) (by kernel_rfl) ?_)
  have HL : Hid (DLookAt w xs.length most g gx (.int .i64 (0 : Nat)) (.slice (some ⟨w2.heap.size, 0, none⟩) 1 1) (w2.alloc (.cells #[.int .u32 (a : Nat)] 22))) := by
    obtain ⟨h0, F, h1, h2⟩ := HB.out
    have hsz := h0.size
    refine hide ⟨0, [], ⟨some ⟨w2.heap.size, 0, none⟩, 1, 1⟩, [a], F, Nat.zero_le _, by omega, rfl, rfl, Nat.le_refl _, by simp, fun b hb => by simp only [List.mem_singleton] at hb; subst hb; exact ha, h1.fr ((Fr.refl noB _).alloc _) (fun _ _ h => h), ⟨⟨rfl, .inr ⟨w2.heap.size, [], rfl, ?_, by simp [u32C], Nat.le_refl _, by simp [maxLen]⟩⟩, fun b ⟨x, hx, hb⟩ => ?_⟩, fun b ⟨x, hx, hb⟩ hF => ?_, h2, h0.alloc _⟩
    · exact Blk.alloc_new w2 #[.int .u32 (a : Nat)] 22
    · simp only [Option.some.injEq] at hx; subst hx; simp only at hb; omega
    · simp only [Option.some.injEq] at hx; subst hx; simp only at hb
      have := h1.2.1 b hF; omega
  generalize w2.alloc (.cells #[.int .u32 (a : Nat)] 22) = w3 at *
  clear HB
  generalize w2.heap.size = g9 at *
  go_wp2_with fail
  go_loopw [10, 9] (DLookAt w xs.length most g gx) (fun i _ _ => len - (intOf i).toNat)
  case atStart => exact HL.out
  case round =>
    obtain ⟨k, l, ⟨ta, tl, tc⟩, q, F, hk, hk60, rfl, rfl, hlen, hql, hqb, hb, hnew, hno, hF, hfr⟩ := hrel
    have Hqb := hide hqb; have Hb := hide hb; have Hnew := hide hnew; have Hno := hide hno; have HF := hide hF; have Hfr := hide hfr; have Hql := hide hql
    have htl : tl = q.length := hnew.len
    have htl2 : tl ≤ 241 := by omega
    have Htl := hide htl
    clear hqb hb hnew hno hF hfr HL hql htl
    by_cases hgo : k < len ∧ k < 60
    · obtain ⟨hlt, h60⟩ := hgo
      have hk2 : k < xs.length := by have := Hl.out; omega
      have hx : xs[k]? = some xs[k] := List.getElem?_eq_getElem hk2
      obtain ⟨b, o, rfl, hbw, hc, hwf⟩ := SlOf.at Hs.out hx
      generalize xs[k] = x at *
      have hmul : ((k : Int) * 4).toNat = k * 4 := by omega
      have Hc := hide (show CellsAt w b (o + k * 4) x.cells from hc); have Hwf := hide hwf
      have hcr : CellsAt wr b (o + k * 4) x.cells := Hc.out.fr Hfr.out (fun h => h)
      clear hx hc hwf
      go_wp2_with (refine wpList_load_atw rfl 63 (.tmp 39) rfl b (o + k * 4) rfl x.cells hcr _ Try.underlying63 rfl (by kernel_rfl) ?_)
      refine (law_actG wr F most Hmost.out l g gx _ _ Hb.out (by omega) (by omega) (by omega) x Hwf.out).mono ?_
      rintro e w4 ⟨rfl, hb4, hf4⟩
      have hlen4 : (actL most l x).length ≤ k + 1 := Nat.le_trans (actL_len most l x) (by omega)
      generalize actL most l x = l' at *
      have Hb4 := hide hb4; have Hl4 := hide hlen4
      have HF4 := hide (show ∀ b, gr F wr w4 b → w.heap.size ≤ b from fun b hb => by
        rcases hb with hb | hb
        · exact HF.out b hb
        · have := Hfr.out.size; omega)
      have Hfr4 := hide (show Fr noB w w4 from Hfr.out.trans hf4 (fun _ _ h => h) (fun b hb h => by have := HF.out b h; omega))
      have Hnew4 := hide (Hnew.out.frS hf4 (fun b hb h => Hno.out b hb h))
      have Hno4 := hide (show ∀ b, ownB ⟨ta, tl, tc⟩ b → ¬ gr F wr w4 b from fun b hb h => by
        rcases h with h | h
        · exact Hno.out b hb h
        · have := Hnew.out.1.lt b hb; omega)
      have hcp : CellsAt w4 b (o + k * 4 + 1) x.p.cells := cells_pre (ds := [.int .i64 x.v]) (by have h := cells_part (Hc.out.fr Hfr4.out (fun h => h)) 1; exact h)
      clear hb4 hf4 hcr hlen4
      go_wp2_with (refine wpList_load_atw rfl 28 (.tmp 46) rfl b (o + k * 4 + 1) rfl x.p.cells hcp _ Try.underlying28 rfl (by kernel_rfl) ?_)
      refine (ref3_Wide x.p Hwf.out.1 w4).mono ?_
      rintro e w5 ⟨nw, hnw, rfl, hf5⟩
      have Hfr5 := hide (Hfr4.out.tr hf5); have Hnew5 := hide (Hnew4.out.fr hf5); have Hb5 := hide (Hb4.out.fr hf5 (fun _ _ h => h))
      have hc0 : ∀ z : Grow w, z.v.cell? ⟨b, o + k * 4 + 1, none⟩ = some (.int .u32 (x.p.addr : Nat)) := fun z => by have := (Hc.out.fr z.fr (fun h => h)) 1 _ rfl; exact this
      have hxa : x.p.addr < 4294967296 := Hwf.out.1.1
      clear hf5 hcp Hb4 Hnew4 Hfr4
      go_upto_region 11 with (fail)
      refine wp_region_mix (fun W => ∃ z : Grow w, W = z.v) (by kernel_rfl) (by kernel_rfl) (inGrow Hfr5.out.drew) ?_
      iterate 17 (first | (refine wpMix_skip rfl ?_; simp only [Act.put, List.setIfInBounds_toArray, List.set_cons_succ, List.set_cons_zero]) | (refine wpMix_calm rfl rfl (fun K hK => ?_); go_big_quiet_op; refine hK _ ?_; clear hK K))
      obtain ⟨n1, hn1, he1⟩ := u32_mod ((x.p.addr : Int) - 1)
      obtain ⟨n2, hn2, he2⟩ := u32_mod ((nw : Int) + 1)
      rw [he1, he2]
      clear he1 he2
      refine wpMix_buildSlice rfl 69 4 _ rfl #[(0, .int .u32 (x.p.addr : Nat)), (1, .int .u32 (n1 : Nat)), (2, .int .u32 (nw : Nat)), (3, .int .u32 (n2 : Nat))] (by kernel_rfl) Try.underlying69 (.int .u32 0) 1 (by kernel_rfl) #[.int .u32 (x.p.addr : Nat), .int .u32 (n1 : Nat), .int .u32 (nw : Nat), .int .u32 (n2 : Nat)] (by decide) (by decide) (by kernel_rfl) (inGrow (Hfr5.out.drew.alloc _)) ?_
      simp only [Act.put, List.setIfInBounds_toArray, List.set_cons_succ, List.set_cons_zero]
      have hs4 : SlOf (w5.drew.alloc (.cells #[.int .u32 (x.p.addr : Nat), .int .u32 (n1 : Nat), .int .u32 (nw : Nat), .int .u32 (n2 : Nat)] 22)) 1 u32C (fun _ => True) ⟨some ⟨w5.drew.heap.size, 0, none⟩, 4, 4⟩ [x.p.addr, n1, nw, n2] :=
        slof_blk (xs := [x.p.addr, n1, nw, n2]) (junk := []) u32C_length (show Blk _ _ ([x.p.addr, n1, nw, n2].flatMap u32C ++ []).toArray 22 from Blk.alloc_new _ _ _) (fun _ _ => trivial) 4 (by simp [maxLen])
      refine wpMix_append_newD (w0 := w) (N := 1) (cells := u32C) (xs := q) (s := ⟨ta, tl, tc⟩) (q := ⟨some ⟨w5.drew.heap.size, 0, none⟩, 4, 4⟩) (ys := [x.p.addr, n1, nw, n2]) (ok := fun _ => True) rfl (.tmp 49) (.tmp 66) 69 rfl Try.underlying69 _ 4 uint32_info (by kernel_rfl) (by decide) u32C_length u32C_mem rfl (Hnew5.out.fr ((Fr.refl noB w5).drew.alloc _)) (Hfr5.out.drew.alloc _) rfl hs4 (fun h => by simp at h) (by have := Hql.out; simp [maxLen]; omega) (by have := Hql.out; simp; omega) ?_
      intro s6 w6 hn6 hf6 hf6' hd6
      have Hn6 := hide hn6; have Hf6 := hide hf6
      have Hb6 := hide ((Hb5.out.fr ((Fr.refl noB w5).drew.alloc _) (fun _ _ h => h)).fr hf6' (fun b hb h => Hno4.out b h hb))
      have Hno6 := hide (show ∀ b, ownB s6 b → ¬ gr F wr w4 b from fun b hb h => by
        rcases hd6 b hb with k | k
        · exact Hno4.out b k h
        · have := Hb5.out.2.1 b h
          simp at k
          omega)
      have Hqb6 := hide (show ∀ c ∈ q ++ [x.p.addr, n1, nw, n2], c < 4294967296 from fun c hc => by
        simp only [List.mem_append, List.mem_cons, List.not_mem_nil, or_false] at hc
        rcases hc with hc | rfl | rfl | rfl | rfl
        · exact Hqb.out c hc
        · exact hxa
        · exact hn1
        · exact hnw
        · exact hn2)
      have Hql6 := hide (show (q ++ [x.p.addr, n1, nw, n2]).length ≤ 1 + 4 * (k + 1) from by have := Hql.out; simp; omega)
      obtain ⟨ua, ul, uc⟩ := s6
      clear hn6 hf6 hf6' hd6 hs4 hn1 hn2 hxa hnw
      simp only [Act.put, List.setIfInBounds_toArray, List.set_cons_succ, List.set_cons_zero]
      repeat (first | (refine wpMix_skip rfl ?_; simp only [Act.put, List.setIfInBounds_toArray, List.set_cons_succ, List.set_cons_zero]) | (refine wpMix_calm rfl rfl (fun K hK => ?_); go_big_quiet_op; refine hK _ ?_; clear hK K))
      refine wpMix_nil ?_
      clear hc0
      go_wp2_with fail
      go_roundw
      case rel => exact ⟨k + 1, l', ⟨ua, ul, uc⟩, q ++ [x.p.addr, n1, nw, n2], gr F wr w4, by omega, by omega, by go_num, rfl, Hl4.out, Hql6.out, Hqb6.out, Hb6.out, Hn6.out, Hno6.out, HF4.out, Hf6.out⟩
      case measure => simp [intOf]; omega
    · have hstop : (k < len ∧ ¬ k < 60) ∨ ¬ k < len := by omega
      clear hgo
      obtain ⟨hown, _, D, G, hdr, hdoc, _⟩ := Hb.out
      have Hdr := hide hdr; have Hdoc := hide hdoc
      clear hown hdr hdoc
      obtain ⟨wB, hwB⟩ : ∃ x, x = wr := ⟨_, rfl⟩
      rcases hstop with ⟨h1, h2⟩ | h1
      all_goals
        go_wp2_with fail
        rw [← hwB]
        rw [← hwB] at Hdr Hdoc Hnew Hfr
        go_loopw [12] (AskAt wB q.length) (fun i _ => tl - (intOf i).toNat)
        case atStart => exact ⟨0, Nat.zero_le _, rfl, Fr.refl _ _⟩
        case round =>
          obtain ⟨j, hj, rfl, hfj⟩ := hrel
          have Hfj := hide hfj
          clear hfj
          by_cases hgo : j < tl
          · have hx : q[j]? = some (q[j]'(by have := Htl.out; omega)) := List.getElem?_eq_getElem _
            generalize q[j] = c at hx
            have Hcb := hide (Hqb.out c (List.mem_of_getElem? hx))
            obtain ⟨b, hb, _, hcx, _⟩ := own_at (Hnew.out.1.fr Hfj.out (fun _ _ h => h)) u32C_length hx
            simp only at hb
            subst hb
            obtain ⟨vv, bb, hvb⟩ := getV_pair (longE l c)
            have Hvb := hide hvb
            have hbb : (bb != bb) = false := by cases bb <;> rfl
            have x0 : wr.cell? ⟨b, j, none⟩ = some (.int .u32 (c : Nat)) := by have := hcx 0 _ rfl; simpa using this
            have Hcx := hide (show CellsAt wr b (j * 1) (u32C c) from hcx)
            have hj1 : ((j : Int) * 1).toNat = j := by omega
            have hj2 : (j : Int).toNat = j := by omega
            clear hx hcx hvb hj
            go_wp2_with fail
            refine (dir_look wr D g most l _ _ (Hdr.out.fr Hfj.out (fun _ _ h => h)) c Hcb.out).mono ?_
            rintro e w2 ⟨rfl, hf2⟩
            rw [Hvb.out]
            have Hf2 := hide (Hfj.out.tr hf2)
            have x2 : w2.cell? ⟨b, j, none⟩ = some (.int .u32 (c : Nat)) := by have := (Hcx.out.fr hf2 (fun h => h)) 0 _ rfl; simpa using this
            clear hf2 x0
            go_wp2_with fail
            refine (doc10_look w2 G gx most l (Hdoc.out.frN Hf2.out) Hdr.out.trie.1 Hdr.out.trie.2 c Hcb.out).mono ?_
            rintro e w3 ⟨rfl, hf3⟩
            rw [Hvb.out]
            have Hf3 := hide (Hf2.out.tr hf3)
            clear hf3 x2
            go_wp2_with fail
            go_roundw
            case rel => exact ⟨j + 1, by have := Htl.out; omega, by go_num, Hf3.out⟩
            case measure => simp [intOf]; omega
          · go_wp2_with fail
            refine (dir_known wr).mono ?_
            rintro e w8 ⟨rfl, hf8⟩
            have Hf8 := hide (Hfr.out.tr (Hfj.out.tr hf8))
            clear hf8
            go_wp2_with fail
            go_ret
            exact ⟨rfl, Hf8.out⟩
end Go.Proofs.Ytgjabgneapdbiaa

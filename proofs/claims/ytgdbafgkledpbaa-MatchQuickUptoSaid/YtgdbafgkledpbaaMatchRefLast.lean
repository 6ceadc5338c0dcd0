/- The document's answer: which rule counts. -/
import Derived.Test.YtgdbafgkledpbaaMatchLast
import Derived.Test.YtgdbafgkledpbaaMatchRef
namespace Go.Proofs.Ytgdbafgkledpbaa
open Go.RowKit Go.BigFrame
set_option linter.unusedSimpArgs false
set_option linter.unusedVariables false

theorem ref_one_v {r : RuleM} {p : PacketM} {iface : ByteArray} {s : SlV} {ts : List TableM} {b : Bool} (h : ruleB r ts iface p = b) (hr : r.wf) (hp : p.wf) (w : World) (hs : Tabs w s ts) :
    Calls Try.prog 11 #[.agg r.cells.toArray, .slice s.a s.len s.cap, .string iface, .agg p.cells.toArray] w fun e w' => e = .returned (.bool b) ∧ Fr noB w w' := by
  rw [← h]; exact ref_one r hr p hp iface s ts w hs

set_option maxRecDepth 100000 in
set_option maxHeartbeats 4000000 in
theorem ref_last (q : SlV) (rs : List RuleM) (p : PacketM) (hp : p.wf) (iface : ByteArray) (s : SlV) (ts : List TableM) (w : World) (hq : Rules w q rs) (hs : Tabs w s ts) :
    Calls Try.prog 13 #[.slice q.a q.len q.cap, .slice s.a s.len s.cap, .string iface, p.val] w fun e w' => e = .returned (.int .i64 (lastI rs ts iface p)) ∧ Fr noB w w' := by
  obtain ⟨a, len, cap⟩ := q
  have hlen : len = rs.length := hq.1
  have hmax : len ≤ maxLen := hq.2.1
  unfold maxLen at hmax
  have Hs := hide hs; have Hlen := hide hlen; have Hq := hide hq
  clear hs hlen hq
  show Calls Try.prog 13 #[.slice a len cap, .slice s.a s.len s.cap, .string iface, .agg p.cells.toArray] w _
  go_enter Try.func13, Try.ntmps13
  go_wp2_with fail
  have hb : Blk (w.alloc (.cells p.cells.toArray 30)) w.heap.size p.cells.toArray 30 := Blk.alloc_new _ _ _
  have hf : Fr noB w (w.alloc (.cells p.cells.toArray 30)) := (Fr.refl _ _).alloc _
  generalize w.alloc _ = w1 at *
  have HB := hide hb; have Hf := hide hf
  have hgs : w.heap.size < w1.heap.size := hb.lt
  clear hb hf
  go_loopw [9, 10] (LastAt (fun r => ruleB r ts iface p) rs w1) (fun _ i _ => len - (intOf i).toNat)
  case atStart => exact ⟨0, -1, Nat.zero_le _, rfl, rfl, rfl, Fr.refl _ _⟩
  case round =>
    obtain ⟨k, l, hk, rfl, rfl, hgo, hf⟩ := hrel
    have Hgo := hide hgo; have Hf2 := hide hf
    clear hgo hf
    by_cases hlt : k < len
    · have hk2 : k < rs.length := by have := Hlen.out; omega
      have hx : rs[k]? = some rs[k] := List.getElem?_eq_getElem hk2
      obtain ⟨b, o, rfl, hbw, hc, hok⟩ := SlOf.at (SlOf.fr Hq.out (Hf.out.tr Hf2.out) (fun _ _ h => h) (fun _ h => h)) hx
      have Hx := hide hx; have Hok := hide hok; have Hc := hide hc
      clear hx hk hok hc
      generalize rs[k] = r at *
      have hmul : ((k : Int) * 28).toNat = k * 28 := by omega
      have hP := (HB.out.fr Hf2.out (fun h => h)).cells
      have hgr : w.heap.size < wr.heap.size := Hf2.out.lt hgs
      have HP := hide hP
      clear hP
      go_upto_region 5 with (fail)
      have hCR : ∀ W, (∃ z : Grow wr, W = z.v) → CellsAt W b (o + k * 28) r.cells := by rintro _ ⟨z, rfl⟩; exact Hc.out.fr z.fr (fun h => h)
      have hCP : ∀ W, (∃ z : Grow wr, W = z.v) → CellsAt W w.heap.size 0 p.cells := by rintro _ ⟨z, rfl⟩; exact HP.out.fr z.fr (fun h => h)
      have HCR := hide hCR; have HCP := hide hCP
      clear hCR hCP
      cases hb : ruleB r ts iface p with
      | false =>
        refine wp_region_grow (by kernel_rfl) (by kernel_rfl) ?_
        iterate 3 (go_big_quiet_step (fail))
        refine wpQuiet_load_at rfl 43 (.tmp 19) rfl _ _ rfl r.cells HCR.out _ Try.underlying43 rfl (by kernel_rfl) ?_
        simp only [Act.put, List.setIfInBounds_toArray, List.set_cons_succ, List.set_cons_zero]
        iterate 2 (go_big_quiet_step (fail))
        refine wpQuiet_load_at rfl 30 (.tmp 7) rfl _ _ rfl p.cells HCP.out _ Try.underlying30 rfl (by kernel_rfl) ?_
        simp only [Act.put, List.setIfInBounds_toArray, List.set_cons_succ, List.set_cons_zero]
        repeat (go_big_quiet_step ((go_at_call 11; exact grow_call _ (ref_one_v hb Hok.out hp _ (Hs.out.fr ((Hf.out.tr Hf2.out).tr (Grow.fr _)))))))
        refine wpQuiet_nil ?_
        rintro _ ⟨z, rfl⟩
        have Hat := hide (lastGo_at (ok := fun r => ruleB r ts iface p) Hx.out l)
        have Hz := hide z.fr
        have hat : lastGo (fun r => ruleB r ts iface p) (rs.drop k) k l = lastGo (fun r => ruleB r ts iface p) (rs.drop (k + 1)) (k + 1) l := by
          rw [Hat.out]; simp [hb]
        have Hat2 := hide hat
        clear hat hb
        go_wp2_with fail
        go_roundw
        case rel => exact ⟨k + 1, l, by omega, by go_num, rfl, by rw [Hgo.out, Hat2.out], Hf2.out.tr Hz.out⟩
        case measure => simp [intOf]; omega
      | true =>
        refine wp_region_grow (by kernel_rfl) (by kernel_rfl) ?_
        iterate 3 (go_big_quiet_step (fail))
        refine wpQuiet_load_at rfl 43 (.tmp 19) rfl _ _ rfl r.cells HCR.out _ Try.underlying43 rfl (by kernel_rfl) ?_
        simp only [Act.put, List.setIfInBounds_toArray, List.set_cons_succ, List.set_cons_zero]
        iterate 2 (go_big_quiet_step (fail))
        refine wpQuiet_load_at rfl 30 (.tmp 7) rfl _ _ rfl p.cells HCP.out _ Try.underlying30 rfl (by kernel_rfl) ?_
        simp only [Act.put, List.setIfInBounds_toArray, List.set_cons_succ, List.set_cons_zero]
        repeat (go_big_quiet_step ((go_at_call 11; exact grow_call _ (ref_one_v hb Hok.out hp _ (Hs.out.fr ((Hf.out.tr Hf2.out).tr (Grow.fr _)))))))
        refine wpQuiet_nil ?_
        rintro _ ⟨z, rfl⟩
        have Hat := hide (lastGo_at (ok := fun r => ruleB r ts iface p) Hx.out l)
        have Hz := hide z.fr
        have hq3 : z.v.cell? ⟨b, o + k * 28 + 2, none⟩ = some (.bool r.quick) := (Hc.out.fr z.fr (fun h => h)) 2 _ rfl
        cases hqk : r.quick with
        | true =>
          have hat : lastI rs ts iface p = (k : Int) := by
            unfold lastI
            rw [Hgo.out, Hat.out]; simp [hb, hqk]
          have Hat2 := hide hat
          rw [hqk] at hq3
          clear hat hb hqk
          go_wp2_with fail
          go_ret
          exact ⟨ret_int Hat2.out.symm, (Hf.out.tr Hf2.out).tr Hz.out⟩
        | false =>
          have hat : lastGo (fun r => ruleB r ts iface p) (rs.drop k) k l = lastGo (fun r => ruleB r ts iface p) (rs.drop (k + 1)) (k + 1) (k : Int) := by
            rw [Hat.out]; simp [hb, hqk]
          have Hat2 := hide hat
          rw [hqk] at hq3
          clear hat hb hqk
          go_wp2_with fail
          go_roundw
          case rel => exact ⟨k + 1, k, by omega, by go_num, rfl, by rw [Hgo.out, Hat2.out], Hf2.out.tr Hz.out⟩
          case measure => simp [intOf]; omega
    · have hke : k = rs.length := by have := Hlen.out; omega
      have hat : lastI rs ts iface p = l := by
        unfold lastI
        rw [Hgo.out, hke, List.drop_length, lastGo]
      have Hat := hide hat
      clear hke hat
      go_wp2_with fail
      go_ret
      exact ⟨ret_int Hat.out.symm, Hf.out.tr Hf2.out⟩

end Go.Proofs.Ytgdbafgkledpbaa

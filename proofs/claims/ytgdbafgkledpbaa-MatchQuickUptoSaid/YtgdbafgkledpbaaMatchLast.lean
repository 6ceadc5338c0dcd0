/- match.Last, and the document's answer. -/
import Derived.Test.YtgdbafgkledpbaaMatchOne
import Derived.Test.YtgdbafgkledpbaaMem
namespace Go.Proofs.Ytgdbafgkledpbaa
open Go.RowKit Go.BigFrame
set_option linter.unusedSimpArgs false
set_option linter.unusedVariables false

/-- The rule that counts. -/
def lastGo (ok : RuleM → Bool) : List RuleM → Nat → Int → Int
  | [], _, last => last
  | r :: rs, i, last => if ok r then (if r.quick then (i : Int) else lastGo ok rs (i + 1) (i : Int)) else lastGo ok rs (i + 1) last
def lastI (rs : List RuleM) (ts : List TableM) (iface : ByteArray) (p : PacketM) : Int := lastGo (fun r => ruleB r ts iface p) rs 0 (-1)
def Rules (w : World) (s : SlV) (rs : List RuleM) : Prop := SlOf w 28 RuleM.cells RuleM.wf s rs

/-- The head of Last's loop. -/
def LastAt (ok : RuleM → Bool) (rs : List RuleM) (w : World) (last i : Value) (wr : World) : Prop :=
  ∃ (k : Nat) (l : Int), k ≤ rs.length ∧ i = .int .i64 k ∧ last = .int .i64 l ∧ lastGo ok rs 0 (-1) = lastGo ok (rs.drop k) k l ∧ Fr noB w wr

theorem lastGo_at {ok : RuleM → Bool} {rs : List RuleM} {k : Nat} {r : RuleM} (h : rs[k]? = some r) (l : Int) :
    lastGo ok (rs.drop k) k l = if ok r then (if r.quick then (k : Int) else lastGo ok (rs.drop (k + 1)) (k + 1) (k : Int)) else lastGo ok (rs.drop (k + 1)) (k + 1) l := by
  obtain ⟨hl, he⟩ := List.getElem?_eq_some_iff.1 h
  rw [List.drop_eq_getElem_cons hl, lastGo, he]

theorem cells28 {w : World} {b o : Nat} {r : RuleM} (h : CellsAt w b o r.cells) : ∀ j, j < 28 → w.cell? ⟨b, o + j, none⟩ = r.cells[j]? := fun j hj => by
  have hv : r.cells[j]? = some (r.cells[j]'(by rw [RuleM.length]; exact hj)) := List.getElem?_eq_getElem _
  rw [h j _ hv, hv]

theorem rule_one (r : RuleM) : r.cells.toArray.all (·.oneCell') = true := by
  simp [RuleM.cells, Value.oneCell']
theorem rule_size (r : RuleM) : r.cells.toArray.size = 28 := rfl

set_option maxRecDepth 100000 in
set_option maxHeartbeats 4000000 in
theorem match_last (q : SlV) (rs : List RuleM) (p : PacketM) (hp : p.wf) (iface : ByteArray) (s : SlV) (ts : List TableM) (w : World) (hq : Rules w q rs) (hs : Tabs w s ts) :
    Calls Try.prog 12 #[.slice q.a q.len q.cap, .slice s.a s.len s.cap, .string iface, p.val] w fun e w' => e = .returned (.int .i64 (lastI rs ts iface p)) ∧ Fr noB w w' := by
  obtain ⟨a, len, cap⟩ := q
  have hlen : len = rs.length := hq.1
  have hmax : len ≤ maxLen := hq.2.1
  unfold maxLen at hmax
  have Hs := hide hs; have Hlen := hide hlen; have Hq := hide hq
  clear hs hlen hq
  show Calls Try.prog 12 #[.slice a len cap, .slice s.a s.len s.cap, .string iface, .agg p.cells.toArray] w _
  go_enter Try.func12, Try.ntmps12
  go_wp2_with fail
  have hb : Blk (w.alloc (.cells p.cells.toArray 30)) w.heap.size p.cells.toArray 30 := Blk.alloc_new _ _ _
  have hf : Fr noB w (w.alloc (.cells p.cells.toArray 30)) := (Fr.refl _ _).alloc _
  generalize w.alloc _ = w1 at *
  have HB := hide hb; have Hf := hide hf
  have hgs : w.heap.size < w1.heap.size := hb.lt
  clear hb hf
  go_loopw [9, 14] (LastAt (fun r => ruleB r ts iface p) rs w1) (fun _ i _ => len - (intOf i).toNat)
  case atStart => exact ⟨0, -1, Nat.zero_le _, rfl, rfl, rfl, Fr.refl _ _⟩
  case round =>
    obtain ⟨k, l, hk, rfl, rfl, hgo, hf⟩ := hrel
    have Hgo := hide hgo; have Hf2 := hide hf
    clear hgo hf
    by_cases hlt : k < len
    · have hk2 : k < rs.length := by have := Hlen.out; omega
      have hx : rs[k]? = some rs[k] := List.getElem?_eq_getElem hk2
      obtain ⟨b, o, rfl, hbw, hc, hok⟩ := SlOf.at (SlOf.fr Hq.out (Hf.out.tr Hf2.out) (fun _ _ h => h) (fun _ h => h)) hx
      have Hx := hide hx; have Hok := hide hok; have Hc := hide hc
      clear hx hk hok hc
      generalize rs[k] = r at *
      have hmul : ((k : Int) * 28).toNat = k * 28 := by omega
      have hP := (HB.out.fr Hf2.out (fun h => h)).cells
      have hgr : w.heap.size < wr.heap.size := Hf2.out.lt hgs
      have HP := hide hP
      clear hP
      go_upto_region 5 with (first | (refine wpList_load_at rfl 43 (.tmp 17) rfl _ _ rfl r.cells Hc.out _ Try.underlying43 rfl (by kernel_rfl) ?_) | (refine wpList_store_row rfl 43 (.tmp 11) (.tmp 18) rfl _ r.cells.toArray rfl rfl _ _ (heap_alloc_new _ _) (by kernel_rfl) rfl (rule_one r) ?_))
      refine wp_gen (fun w2 => Blk w2 wr.heap.size r.cells.toArray 43 ∧ Fr noB wr w2) ⟨(Blk.alloc_new _ _ _).setRow, ((Fr.refl _ _).alloc _).setRow (.inl (Nat.le_refl _)) _⟩ ?_
      rintro w2 ⟨hbr, hf3⟩
      have HBR := hide hbr; have Hf3 := hide hf3
      have hrc := hbr.cells
      have HRC := hide hrc
      have hpc := HP.out.fr hf3 (fun h => h)
      have HPC := hide hpc
      clear hbr hf3 hrc hpc
      go_wp2_with (first | (refine wpList_load_at rfl 43 (.tmp 11) rfl _ _ rfl r.cells HRC.out _ Try.underlying43 rfl (by kernel_rfl) ?_) | (refine wpList_load_at rfl 30 (.tmp 7) rfl _ _ rfl p.cells HPC.out _ Try.underlying30 rfl (by kernel_rfl) ?_))
      refine (match_one r Hok.out p hp iface s ts _ (Hs.out.fr ((Hf.out.tr Hf2.out).tr Hf3.out))).mono ?_
      rintro e w3 ⟨rfl, hf4⟩
      have Hf4 := hide hf4
      have hq3 : w3.cell? ⟨wr.heap.size, 2, none⟩ = some (.bool r.quick) := (HBR.out.fr hf4 (fun h => h)).cell 2
      have Hat := hide (lastGo_at (ok := fun r => ruleB r ts iface p) Hx.out l)
      clear hf4
      cases hb : ruleB r ts iface p with
      | false =>
        have hat : lastGo (fun r => ruleB r ts iface p) (rs.drop k) k l = lastGo (fun r => ruleB r ts iface p) (rs.drop (k + 1)) (k + 1) l := by
          rw [Hat.out]; simp [hb]
        have Hat2 := hide hat
        clear hat hb
        go_wp2_with fail
        go_roundw
        case rel => exact ⟨k + 1, l, by omega, by go_num, rfl, by rw [Hgo.out, Hat2.out], (Hf2.out.tr Hf3.out).tr Hf4.out⟩
        case measure => simp [intOf]; omega
      | true =>
        cases hqk : r.quick with
        | true =>
          have hat : lastI rs ts iface p = (k : Int) := by
            unfold lastI
            rw [Hgo.out, Hat.out]; simp [hb, hqk]
          have Hat2 := hide hat
          rw [hqk] at hq3
          clear hat hb hqk
          go_wp2_with fail
          go_ret
          exact ⟨ret_int Hat2.out.symm, ((Hf.out.tr Hf2.out).tr Hf3.out).tr Hf4.out⟩
        | false =>
          have hat : lastGo (fun r => ruleB r ts iface p) (rs.drop k) k l = lastGo (fun r => ruleB r ts iface p) (rs.drop (k + 1)) (k + 1) (k : Int) := by
            rw [Hat.out]; simp [hb, hqk]
          have Hat2 := hide hat
          rw [hqk] at hq3
          clear hat hb hqk
          go_wp2_with fail
          go_roundw
          case rel => exact ⟨k + 1, k, by omega, by go_num, rfl, by rw [Hgo.out, Hat2.out], (Hf2.out.tr Hf3.out).tr Hf4.out⟩
          case measure => simp [intOf]; omega
    · have hke : k = rs.length := by have := Hlen.out; omega
      have hat : lastI rs ts iface p = l := by
        unfold lastI
        rw [Hgo.out, hke, List.drop_length, lastGo]
      have Hat := hide hat
      clear hke hat
      go_wp2_with fail
      go_ret
      exact ⟨ret_int Hat.out.symm, Hf.out.tr Hf2.out⟩

end Go.Proofs.Ytgdbafgkledpbaa

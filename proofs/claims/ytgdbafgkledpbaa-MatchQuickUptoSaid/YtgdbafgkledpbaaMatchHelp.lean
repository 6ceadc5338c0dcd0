/- The helpers of the laws of chapter 15. -/
import Derived.Test.YtgdbafgkledpbaaMatchRefLast
import Derived.Test.YtgdbafgkledpbaaMix
namespace Go.Proofs.Ytgdbafgkledpbaa
open Go.RowKit Go.BigFrame
set_option linter.unusedSimpArgs false
set_option linter.unusedVariables false

def SomeInt (w : World) (e : Ending) (w' : World) : Prop := ∃ n : Int, e = .returned (.int .i64 n) ∧ Fr noB w w'
def SomeBool (w : World) (e : Ending) (w' : World) : Prop := ∃ b : Bool, e = .returned (.bool b) ∧ Fr noB w w'

set_option maxHeartbeats 1000000 in
theorem law_long (p : PacketM) (w : World) :
    Calls Try.prog 9 #[p.val] w (SomeBool w) := by
  unfold PacketM.val
  by_cases h : 60 < p.ip.options.len
  all_goals
    go_enter Try.func9, Try.ntmps9
    go_wp2_with fail
    go_ret
    exact ⟨_, rfl, (Fr.refl _ _).alloc _⟩

set_option maxHeartbeats 1000000 in
theorem law_weigh (r : RuleM) (n : Int) (w : World) :
    Calls Try.prog 18 #[r.val, .int .i64 n] w (SomeInt w) := by
  unfold RuleM.val
  go_enter Try.func18, Try.ntmps18
  go_wp2_with fail
  go_ret
  exact ⟨_, rfl, (Fr.refl _ _).alloc _⟩

def plainS : SideM := ⟨true, ⟨#[]⟩, ⟨0, 0⟩, ⟨0, 65535⟩⟩
def plainZ : List Value := (RuleM.mk false false false ⟨#[]⟩ 0 ⟨false, ⟨#[]⟩, ⟨0, 0⟩, ⟨0, 0⟩⟩ ⟨false, ⟨#[]⟩, ⟨0, 0⟩, ⟨0, 0⟩⟩ 0 0 0 false ⟨false, ⟨#[]⟩, 0⟩ ⟨false, ⟨#[]⟩, 0⟩ 0).cells
def plainR (pass : Bool) : RuleM := ⟨pass, false, false, ⟨#[]⟩, 0, plainS, plainS, 0, 0, -1, false, ⟨false, ⟨#[]⟩, 0⟩, ⟨false, ⟨#[]⟩, 0⟩, 0⟩

set_option maxRecDepth 100000 in
set_option maxHeartbeats 1000000 in
theorem law_plain (pass : Bool) (w : World) :
    Calls Try.prog 17 #[.bool pass] w fun e w' => e = .returned (.agg (plainR pass).cells.toArray) ∧ Fr noB w w' := by
  go_enter Try.func17, Try.ntmps17
  go_upto_region 2 with (refine wpList_store_row rfl 36 (.tmp 3) (.tmp 5) rfl _ plainS.cells.toArray rfl rfl _ _ (heap_alloc_new _ _) (by kernel_rfl) rfl rfl ?_)
  refine wp_gen (fun w2 => Blk w2 (w.heap.size + 1) plainS.cells.toArray 36 ∧ (∃ cs, Blk w2 w.heap.size cs 43 ∧ cs.size = 28) ∧ Fr noB w w2) ⟨?_, ?_, ?_⟩ ?_
  · have h := Blk.alloc_new (w.alloc (.cells (plainZ).toArray 43)) plainS.cells.toArray 36
    rw [World.size_alloc] at h
    exact h
  · exact ⟨plainZ.toArray, (Blk.alloc_new _ _ _).fr ((Fr.refl noB _).alloc _) (fun h => h), rfl⟩
  · exact ((Fr.refl _ _).alloc _).alloc _
  rintro w2 ⟨hs, ⟨cs, hr, hsz⟩, hf⟩
  have HS := hide hs.cells; have HR := hide hr; have Hsz := hide hsz; have Hf := hide hf
  clear hs hr hsz hf
  go_wp2_with (first | (refine wpList_load_at rfl 36 (.tmp 3) rfl _ _ rfl plainS.cells HS.out _ Try.underlying36 rfl (by kernel_rfl) ?_) | (refine wpList_build_as rfl 43 _ rfl (plainR pass).cells.toArray (by kernel_rfl) ?_) | (refine wpList_store_row rfl 43 (.tmp 2) (.tmp 9) rfl _ (plainR pass).cells.toArray rfl rfl _ _ HR.out (by kernel_rfl) Hsz.out (rule_one _) ?_))
  exact bodyPost_ret (results_cell_row rfl _ _ _ _ _ (0, 0) _ rfl (Blk.setRow HR.out) Try.underlying43 rfl (by kernel_rfl)) rfl ⟨rfl, Hf.out.setRow (.inl (Nat.le_refl _)) _⟩

def NegAt (w : World) (n : Nat) (i : Value) (wr : World) : Prop := ∃ k : Nat, k ≤ n ∧ i = .int .i64 k ∧ Fr noB w wr
def HvAt (w : World) (n : Nat) (x i : Value) (wr : World) : Prop := (∃ m : Int, x = .int .i64 m) ∧ NegAt w n i wr

set_option maxHeartbeats 1000000 in
theorem law_heavy (q : SlV) (rs : List RuleM) (s : SlV) (ts : List TableM) (w : World) (hq : Rules w q rs) (hs : Tabs w s ts) :
    Calls Try.prog 8 #[.slice q.a q.len q.cap, .slice s.a s.len s.cap] w (SomeBool w) := by
  obtain ⟨a, len, cap⟩ := q
  obtain ⟨a2, len2, cap2⟩ := s
  have hlen : len = rs.length := hq.1
  have hmax : len ≤ maxLen := hq.2.1
  have hlen2 : len2 = ts.length := hs.1
  have hmax2 : len2 ≤ maxLen := hs.2.1
  unfold maxLen at hmax hmax2
  have Hs := hide hs; have Hlen := hide hlen; have Hq := hide hq; have Hlen2 := hide hlen2
  clear hs hlen hq hlen2
  go_enter Try.func8, Try.ntmps8
  go_wp2_with fail
  go_loopw [5, 6] (HvAt w rs.length) (fun _ i _ => len - (intOf i).toNat)
  case atStart => exact ⟨⟨_, rfl⟩, 0, Nat.zero_le _, rfl, Fr.refl _ _⟩
  case round =>
    obtain ⟨⟨m, rfl⟩, k, hk, rfl, hf⟩ := hrel
    have Hf := hide hf
    clear hf
    by_cases hgo : k < len ∧ 0 ≤ m
    · obtain ⟨hlt, hm0⟩ := hgo
      have hk2 : k < rs.length := by have := Hlen.out; omega
      have hx : rs[k]? = some rs[k] := List.getElem?_eq_getElem hk2
      obtain ⟨b, o, rfl, hbw, hc, hok⟩ := SlOf.at (SlOf.fr Hq.out Hf.out (fun _ _ h => h) (fun _ h => h)) hx
      have Hc := hide hc
      clear hx hk hok hc
      generalize rs[k] = r at *
      have hmul : ((k : Int) * 28).toNat = k * 28 := by omega
      go_wp2_with (refine wpList_load_at rfl 43 (.tmp 20) rfl _ _ rfl r.cells Hc.out _ Try.underlying43 rfl (by kernel_rfl) ?_)
      refine (law_weigh r m _).mono ?_
      rintro e w2 ⟨n, rfl, hf2⟩
      have Hf2 := hide hf2
      clear hf2
      go_wp2_with fail
      go_roundw
      case rel => exact ⟨⟨_, rfl⟩, k + 1, by omega, by go_num, Hf.out.tr Hf2.out⟩
      case measure => simp [intOf]; omega
    · have hstop : (k < len ∧ m < 0) ∨ ¬ k < len := by omega
      clear hgo hk
      rcases hstop with ⟨hlt, hm0⟩ | hlt
      all_goals
        go_wp2_with fail
        go_loopw [5, 7] (HvAt w ts.length) (fun _ i _ => len2 - (intOf i).toNat)
        case atStart => exact ⟨⟨_, rfl⟩, 0, Nat.zero_le _, rfl, Hf.out⟩
        case round =>
          obtain ⟨⟨x, rfl⟩, j, hj, rfl, hf⟩ := hrel
          have Hf2 := hide hf
          clear hf
          by_cases hgo : j < len2 ∧ 0 ≤ x
          · obtain ⟨hlt2, hx0⟩ := hgo
            have hk2 : j < ts.length := by have := Hlen2.out; omega
            have hx : ts[j]? = some ts[j] := List.getElem?_eq_getElem hk2
            obtain ⟨b, o, rfl, hbw, hc, hok⟩ := SlOf.at (Hs.out.fr Hf2.out) hx
            obtain ⟨c0, c1⟩ := cells2 hc
            clear hx hj hok hc
            generalize ts[j] = t at *
            have hmul : ((j : Int) * 2).toNat = j * 2 := by omega
            go_wp2_with fail
            go_quiet (fail)
            go_wp2_with fail
            go_roundw
            case rel => exact ⟨⟨_, rfl⟩, j + 1, by omega, by go_num, Hf2.out.drewN _⟩
            case measure => simp [intOf]; omega
          · have hstop2 : (j < len2 ∧ x < 0) ∨ ¬ j < len2 := by omega
            clear hgo hj
            rcases hstop2 with ⟨hlt2, hx0⟩ | hlt2
            all_goals
              go_wp2_with fail
              go_ret
              exact ⟨_, rfl, Hf2.out⟩


end Go.Proofs.Ytgdbafgkledpbaa

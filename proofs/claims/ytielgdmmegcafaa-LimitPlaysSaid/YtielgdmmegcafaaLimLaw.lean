/- The laws of package limit, walked: each returns true. -/
import Derived.Test.YtielgdmmegcafaaLim
namespace Go.Proofs.Ytielgdmmegcafaa
open Go.RowKit

set_option maxHeartbeats 400000 in
theorem lim_known (w : World) :
    Calls Try.prog 10 #[] w fun e w' => e = .returned (.bool true) ∧ Fr noB w w' := by
  go_enter Try.func10, Try.ntmps10
  go_wp2_with fail
  refine (lim_new 1 _).mono ?_
  rintro e w1 ⟨rfl, hl, hf, hs⟩
  have hl : IsLim w1 w.heap.size 1 1 := hl
  have Hl := hide hl; have Hf := hide hf; clear hl hf hs
  go_wp2_with fail
  refine (lim_take_some _ _ 1 1 (by omega) (by omega) Hl.out).mono ?_
  rintro e w2 ⟨rfl, hl, hf⟩
  have hl : IsLim w2 w.heap.size 0 1 := hl
  have Hl2 := hide hl; have Hf2 := hide hf; clear hl hf
  go_wp2_with fail
  refine (lim_take_none _ _ 1 Hl2.out).mono ?_
  rintro e w3 ⟨rfl, rfl⟩
  go_wp2_with fail
  go_ret
  refine ⟨rfl, Hf.out.trans Hf2.out (fun _ _ h => h) (fun x hx h => ?_)⟩
  have h : x = w.heap.size := h
  omega

theorem fr_new {w w1 w2 : World} {S : Nat → Prop} (h : Fr noB w w1) (k : Fr S w1 w2) (hs : ∀ x, S x → w.heap.size ≤ x) : Fr noB w w2 :=
  h.trans k (fun _ _ h => h) (fun x hx h => by have := hs x h; omega)

set_option maxHeartbeats 400000 in
theorem lim_nothing (n : Int) (w : World) :
    Calls Try.prog 4 #[.int .i64 n] w fun e w' => e = .returned (.bool true) ∧ Fr noB w w' := by
  go_enter Try.func4, Try.ntmps4
  go_wp2_with fail
  refine (lim_tick_nil _).mono ?_
  rintro e w1 ⟨rfl, rfl⟩
  go_wp2_with fail
  all_goals
    refine (lim_new _ _).mono ?_
    rintro e w1 ⟨rfl, hl, hf, hs⟩
    have Hf := hide hf; clear hf hs
    have hl : IsLim w1 w.heap.size 0 0 := by
      have e : ∀ x : Int, x ≤ 0 → max x 0 = 0 := fun x hx => by omega
      rw [e _ (by omega)] at hl; exact hl
    have Hl := hide hl; clear hl
    go_wp2_with fail
    refine (lim_take_nil _).mono ?_
    rintro e w2 ⟨rfl, rfl⟩
    go_wp2_with fail
    refine (lim_left_nil _).mono ?_
    rintro e w2 ⟨rfl, rfl⟩
    go_wp2_with fail
    refine (lim_take_none _ _ _ Hl.out).mono ?_
    rintro e w2 ⟨rfl, rfl⟩
    go_wp2_with fail
    refine (lim_known _).mono ?_
    rintro e w2 ⟨rfl, hf2⟩
    have Hf2 := hide hf2; clear hf2
    go_wp2_with fail
    go_ret
    exact ⟨rfl, Hf.out.tr Hf2.out⟩

/-- The tests of LimitPlays: a slice of bools that is only read. -/
def Bools (w : World) (a : Option Addr) (len : Nat) (f : Nat → Bool) : Prop :=
  len = 0 ∨ ∃ b o, a = some ⟨b, o, none⟩ ∧ b < w.heap.size ∧ ∀ k, k < len → w.cell? ⟨b, o + k, none⟩ = some (.bool (f k))

/-- What holds at the head of LimitPlays' loop. -/
def PlaysAt (w : World) (g len : Nat) (m : Int) (left i : Value) (wr : World) : Prop :=
  ∃ (k : Nat) (a : Int), k ≤ len ∧ i = .int .i64 k ∧ left = .int .i64 a ∧ 0 ≤ a ∧ a ≤ 200 ∧ IsLim wr g a m ∧ Fr noB w wr

set_option maxHeartbeats 1000000 in
theorem lim_plays (n : Int) (a : Option Addr) (len cap : Nat) (f : Nat → Bool) (w : World) (hb : Bools w a len f) :
    Calls Try.prog 3 #[.int .i64 n, .slice a len cap] w fun e w' => e = .returned (.bool true) ∧ Fr noB w w' := by
  by_cases hbig : 300 < len
  · go_enter Try.func3, Try.ntmps3
    go_wp2
    go_ret
    exact ⟨rfl, Fr.refl _ _⟩
  by_cases hn : 200 < n
  · go_enter Try.func3, Try.ntmps3
    go_wp2
    go_ret
    exact ⟨rfl, Fr.refl _ _⟩
  have hmx := run_max_int Try.prog
  have h0 : ∀ x : Int, 0 < x → ((x : Int) == 0) = false := fun x hx => by simp; omega
  go_enter Try.func3, Try.ntmps3
  go_wp2_with fail
  refine (lim_new _ _).mono ?_
  rintro e w1 ⟨rfl, hl, hf, hs⟩
  have Hf := hide hf; have Hl := hide hl; have Hb := hide hb; clear hf hl hs hb
  go_wp2_with fail
  have e0 : max (0 : Int) n = max n 0 := by omega
  rw [e0]; clear e0
  generalize hm : max n 0 = m at *
  have Hm := hide hm; clear hm
  go_loopw [6, 7] (PlaysAt w w.heap.size len m) (fun _ i _ => len - (intOf i).toNat)
  case atStart => exact ⟨0, m, Nat.zero_le _, rfl, rfl, by have := Hm.out; omega, by have := Hm.out; omega, Hl.out, Hf.out⟩
  case round =>
    obtain ⟨k, x, hk, rfl, rfl, hx0, hx1, hl, hf⟩ := hrel
    have Hl2 := hide hl; have Hf2 := hide hf; clear hl hf
    by_cases hlt : k < len
    · obtain h | ⟨b, o, rfl, hbw, hc⟩ := Hb.out
      · omega
      have hck : wr.cell? ⟨b, o + k, none⟩ = some (.bool (f k)) := (Hf2.out.cell hbw (fun h => h)).trans (hc k hlt)
      clear hc
      have tail : ∀ (W : World) (y : Int), 0 ≤ y → y ≤ 200 → IsLim W w.heap.size y m → Fr noB w W → PlaysAt w w.heap.size len m (.int .i64 y) (.int .i64 (↑k + 1)) W :=
        fun W y h1 h2 h3 h4 => ⟨k + 1, y, by omega, by go_num, rfl, h1, h2, h3, h4⟩
      have Tail := hide tail; clear tail
      cases hfk : f k with
      | true =>
        rw [hfk] at hck
        clear hfk
        go_wp2_with fail
        refine (lim_tick _ _ _ _ Hl2.out).mono ?_
        rintro e w2 ⟨rfl, hl, hf⟩
        have Hl3 := hide hl; have Hf3 := hide hf; clear hl hf hck
        go_wp2_with fail
        have e0 : max (0 : Int) n = m := by have := Hm.out; omega
        rw [e0]; clear e0
        refine (lim_left _ _ _ _ Hl3.out).mono ?_
        rintro e w3 ⟨rfl, rfl⟩
        go_wp2_with fail
        go_roundw
        case rel => exact Tail.out _ _ (by have := Hm.out; omega) (by have := Hm.out; omega) Hl3.out (fr_new Hf2.out Hf3.out (fun x h => by have h : x = w.heap.size := h; omega))
        case measure => simp [intOf]; omega
      | false =>
        rw [hfk] at hck
        clear hfk
        by_cases hx : 0 < x
        · go_wp2_with fail
          refine (lim_take_some _ _ _ _ hx (by omega) Hl2.out).mono ?_
          rintro e w2 ⟨rfl, hl, hf⟩
          have Hl3 := hide hl; have Hf3 := hide hf; clear hl hf hck
          go_wp2_with fail
          have e0 : max (0 : Int) (x - 1) = x - 1 := by omega
          rw [e0]; clear e0
          refine (lim_left _ _ _ _ Hl3.out).mono ?_
          rintro e w3 ⟨rfl, rfl⟩
          go_wp2_with fail
          go_roundw
          case rel => exact Tail.out _ _ (by omega) (by omega) Hl3.out (fr_new Hf2.out Hf3.out (fun x h => by have h : x = w.heap.size := h; omega))
          case measure => simp [intOf]; omega
        · obtain rfl : x = 0 := by omega
          go_wp2_with fail
          refine (lim_take_none _ _ _ Hl2.out).mono ?_
          rintro e w2 ⟨rfl, rfl⟩
          clear hck
          go_wp2_with fail
          refine (lim_left _ _ _ _ Hl2.out).mono ?_
          rintro e w3 ⟨rfl, rfl⟩
          go_wp2_with fail
          go_roundw
          case rel => exact Tail.out _ _ (by omega) (by omega) Hl2.out Hf2.out
          case measure => simp [intOf]; omega
    · go_wp2_with fail
      refine (lim_known _).mono ?_
      rintro e w3 ⟨rfl, hf3⟩
      have Hf3 := hide hf3; clear hf3
      go_wp2_with fail
      go_ret
      exact ⟨rfl, Hf2.out.tr Hf3.out⟩

/-- What holds at the head of LimitSpends' loop. -/
def SpendsAt (w : World) (g g' : Nat) (n : Int) (i : Value) (wr : World) : Prop :=
  ∃ (k : Nat), (k : Int) ≤ n ∧ i = .int .i64 k ∧ IsLim wr g (n - k) n ∧ IsLim wr g' n n ∧ Fr noB w wr

set_option maxHeartbeats 1000000 in
theorem lim_spends (n : Int) (w : World) :
    Calls Try.prog 5 #[.int .i64 n] w fun e w' => e = .returned (.bool true) ∧ Fr noB w w' := by
  by_cases hn : n < 0 ∨ 200 < n
  · rcases hn with hn | hn
    all_goals
      go_enter Try.func5, Try.ntmps5
      go_wp2_with fail
      refine (lim_known _).mono ?_
      rintro e w1 ⟨rfl, hf⟩
      have Hf := hide hf; clear hf
      go_wp2_with fail
      go_ret
      exact ⟨rfl, Hf.out⟩
  have h0 : 0 ≤ n := by omega
  have h1 : n ≤ 200 := by omega
  clear hn
  go_enter Try.func5, Try.ntmps5
  go_wp2_with fail
  refine (lim_new _ _).mono ?_
  have em : max n 0 = n := by omega
  rw [em]; clear em
  rintro e w1 ⟨rfl, hl, hf, hs⟩
  have Hl := hide hl; have Hf := hide hf; clear hl hf
  go_wp2_with fail
  refine (lim_new _ _).mono ?_
  have em : max n 0 = n := by omega
  rw [em]; clear em
  rintro e w2 ⟨rfl, hl2, hf2, hs2⟩
  have Hl2 := hide hl2; have Hf2 := hide hf2; clear hl2 hf2
  have Hl1 := hide (Hl.out.fr Hf2.out (fun h => h)); clear Hl
  have Hf3 := hide (Hf.out.tr Hf2.out); clear Hf Hf2
  have hne : ¬ w1.heap.size = w.heap.size := by omega
  have Hne := hide hne; clear hne
  have Hs := hide hs; have Hs2 := hide hs2; clear hs hs2
  go_wp2_with fail
  go_loopw [5] (SpendsAt w w.heap.size w1.heap.size n) (fun i _ => (n - intOf i).toNat)
  case atStart => exact ⟨0, h0, rfl, by have h := Hl1.out; simpa using h, Hl2.out, Hf3.out⟩
  case round =>
    obtain ⟨k, hk, rfl, hl1, hl2, hf⟩ := hrel
    clear Hl1 Hl2 Hf3
    have Hl1 := hide hl1; have Hl2 := hide hl2; have Hf := hide hf; clear hl1 hl2 hf
    by_cases hlt : (k : Int) < n
    · go_wp2_with fail
      refine (lim_take_some _ _ _ _ (by omega) (by omega) Hl1.out).mono ?_
      rintro e w3 ⟨rfl, hl, hf⟩
      have Hl3 := hide hl; have Hf3 := hide hf; clear hl hf
      go_wp2_with fail
      go_roundw
      case rel =>
        refine ⟨k + 1, by omega, by go_num, ?_, Hl2.out.fr Hf3.out Hne.out, fr_new Hf.out Hf3.out (fun x h => by have h : x = w.heap.size := h; omega)⟩
        have h := Hl3.out
        have e : n - (k : Int) - 1 = n - ((k + 1 : Nat) : Int) := by omega
        rw [e] at h
        exact h
      case measure => simp [intOf]; omega
    · have e : n - (k : Int) = 0 := by omega
      have hl1 := Hl1.out
      rw [e] at hl1
      have Hl1 := hide hl1; clear e hl1
      have h00 : ((0 : Int) == 0) = true := rfl
      have hnn : ((n : Int) != n) = false := by simp
      have hnn2 : ((n : Int) == n) = true := by simp
      go_wp2_with fail
      refine (lim_take_none _ _ _ Hl1.out).mono ?_
      rintro e w3 ⟨rfl, rfl⟩
      go_wp2_with fail
      refine (lim_left _ _ _ _ Hl1.out).mono ?_
      rintro e w3 ⟨rfl, rfl⟩
      go_wp2_with fail
      refine (lim_left _ _ _ _ Hl2.out).mono ?_
      rintro e w3 ⟨rfl, rfl⟩
      go_wp2_with fail
      refine (lim_tick _ _ _ _ Hl1.out).mono ?_
      rintro e w3 ⟨rfl, hl, hf⟩
      have Hl3 := hide hl; have Hf3 := hide hf; clear hl hf
      go_wp2_with fail
      refine (lim_left _ _ _ _ Hl3.out).mono ?_
      rintro e w4 ⟨rfl, rfl⟩
      go_wp2_with fail
      refine (lim_known _).mono ?_
      rintro e w4 ⟨rfl, hf⟩
      have Hf4 := hide hf; clear hf
      go_wp2_with fail
      go_ret
      exact ⟨rfl, (fr_new Hf.out Hf3.out (fun x h => by have h : x = w.heap.size := h; omega)).tr Hf4.out⟩

end Go.Proofs.Ytielgdmmegcafaa

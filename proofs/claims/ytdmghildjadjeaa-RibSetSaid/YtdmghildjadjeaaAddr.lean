/- What the functions of package addr, and of the document's answer to chapter 3, do: contracts over numbers. -/
import Derived.Test.YtdmghildjadjeaaBits
namespace Go.Proofs.Ytdmghildjadjeaa
open Go.RowKit

set_option maxHeartbeats 400000 in
theorem addr_held (n : Int) (w : World) :
    Calls Try.prog 51 #[.int .i64 n] w fun e w' => e = .returned (.int .i64 (heldI n)) ∧ w = w' := by
  have hmx := run_max_int Try.prog
  have hmn := run_min_int Try.prog
  go_enter Try.func51, Try.ntmps51
  go_wp2
  go_ret
  exact ⟨rfl, rfl⟩

set_option maxHeartbeats 400000 in
theorem ref3_hold (n : Int) (w : World) :
    Calls Try.prog 53 #[.int .i64 n] w fun e w' => e = .returned (.int .i64 (heldI n)) ∧ w = w' := by
  have hmx := run_max_int Try.prog
  have hmn := run_min_int Try.prog
  go_enter Try.func53, Try.ntmps53
  go_wp2
  go_ret
  exact ⟨rfl, rfl⟩

set_option maxHeartbeats 400000 in
theorem addr_Mask (n : Int) (w : World) :
    Calls Try.prog 50 #[.int .i64 n] w fun e w' => e = .returned (.int .u32 (maskN (heldN n) : Nat)) ∧ w = w' := by
  obtain ⟨h0, h1⟩ := heldI_bd n
  have Hm := hide (mask_eq _ h0 h1)
  go_enter Try.func50, Try.ntmps50
  go_wp2_with fail
  refine (addr_held _ _).mono ?_
  rintro e w1 ⟨rfl, rfl⟩
  go_wp2_with fail
  go_ret
  exact ⟨ret_int Hm.out, rfl⟩

set_option maxHeartbeats 400000 in
theorem ref3_Mask (n : Int) (w : World) :
    Calls Try.prog 52 #[.int .i64 n] w fun e w' => e = .returned (.int .u32 (maskN (heldN n) : Nat)) ∧ w = w' := by
  obtain ⟨h0, h1⟩ := heldI_bd n
  have Hm := hide (mask_eq64 _ h0 h1)
  go_enter Try.func52, Try.ntmps52
  go_wp2_with fail
  refine (ref3_hold _ _).mono ?_
  rintro e w1 ⟨rfl, rfl⟩
  go_wp2_with fail
  go_ret
  exact ⟨ret_int Hm.out, rfl⟩

end Go.Proofs.Ytdmghildjadjeaa

/- What the functions of package addr, and of the document's answer to chapter 3, do: contracts over numbers. -/
import Derived.Test.YtgjabgneapdbiaaBits
namespace Go.Proofs.Ytgjabgneapdbiaa
open Go.RowKit

set_option maxHeartbeats 400000 in
theorem addr_held (n : Int) (w : World) :
    Calls Try.prog 86 #[.int .i64 n] w fun e w' => e = .returned (.int .i64 (heldI n)) ∧ w = w' := by
  have hmx := run_max_int Try.prog
  have hmn := run_min_int Try.prog
  go_enter Try.func86, Try.ntmps86
  go_wp2
  go_ret
  exact ⟨rfl, rfl⟩

set_option maxHeartbeats 400000 in
theorem ref3_hold (n : Int) (w : World) :
    Calls Try.prog 55 #[.int .i64 n] w fun e w' => e = .returned (.int .i64 (heldI n)) ∧ w = w' := by
  have hmx := run_max_int Try.prog
  have hmn := run_min_int Try.prog
  go_enter Try.func55, Try.ntmps55
  go_wp2
  go_ret
  exact ⟨rfl, rfl⟩

set_option maxHeartbeats 400000 in
theorem addr_Mask (n : Int) (w : World) :
    Calls Try.prog 85 #[.int .i64 n] w fun e w' => e = .returned (.int .u32 (maskN (heldN n) : Nat)) ∧ w = w' := by
  obtain ⟨h0, h1⟩ := heldI_bd n
  have Hm := hide (mask_eq _ h0 h1)
  go_enter Try.func85, Try.ntmps85
  go_wp2_with fail
  refine (addr_held _ _).mono ?_
  rintro e w1 ⟨rfl, rfl⟩
  go_wp2_with fail
  go_ret
  exact ⟨ret_int Hm.out, rfl⟩

set_option maxHeartbeats 400000 in
theorem ref3_Mask (n : Int) (w : World) :
    Calls Try.prog 54 #[.int .i64 n] w fun e w' => e = .returned (.int .u32 (maskN (heldN n) : Nat)) ∧ w = w' := by
  obtain ⟨h0, h1⟩ := heldI_bd n
  have Hm := hide (mask_eq64 _ h0 h1)
  go_enter Try.func54, Try.ntmps54
  go_wp2_with fail
  refine (ref3_hold _ _).mono ?_
  rintro e w1 ⟨rfl, rfl⟩
  go_wp2_with fail
  go_ret
  exact ⟨ret_int Hm.out, rfl⟩

set_option maxHeartbeats 400000 in
theorem addr_Has (pa a : Nat) (pl : Int) (hpa : pa < 4294967296) (ha : a < 4294967296) (w : World) :
    Calls Try.prog 88 #[.agg #[.int .u32 pa, .int .i64 pl], .int .u32 a] w fun e w' => e = .returned (.bool (hasB pa pl a)) ∧ Fr noB w w' := by
  have Hh := hide (hasB_of pa pl a hpa ha)
  go_enter Try.func88, Try.ntmps88
  go_wp2_with fail
  go_quiet ((go_at_call 85; exact Calls.quiet_of_same ((addr_Mask _ _).mono fun _ _ ⟨h1, h2⟩ => ⟨h1, h2.symm⟩)))
  go_wp2
  go_ret
  exact ⟨ret_bool Hh.out, ((Fr.refl _ _).alloc _).drewN _⟩

set_option maxHeartbeats 400000 in
theorem ref3_Has (pa a : Nat) (pl : Int) (hpa : pa < 4294967296) (ha : a < 4294967296) (w : World) :
    Calls Try.prog 39 #[.agg #[.int .u32 pa, .int .i64 pl], .int .u32 a] w fun e w' => e = .returned (.bool (hasB pa pl a)) ∧ Fr noB w w' := by
  have Hh := hide (hasB_of pa pl a hpa ha)
  go_enter Try.func39, Try.ntmps39
  go_wp2_with fail
  go_quiet ((go_at_call 54; exact Calls.quiet_of_same ((ref3_Mask _ _).mono fun _ _ ⟨h1, h2⟩ => ⟨h1, h2.symm⟩)))
  go_wp2
  go_ret
  exact ⟨ret_bool Hh.out, ((Fr.refl _ _).alloc _).drewN _⟩
end Go.Proofs.Ytgjabgneapdbiaa

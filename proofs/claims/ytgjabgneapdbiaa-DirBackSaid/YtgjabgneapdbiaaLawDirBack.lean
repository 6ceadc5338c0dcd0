/- The law DirBack: for every input it returns true, and each argument reads afterwards as it read before. No conditions. -/
import Derived.Test.YtgjabgneapdbiaaRows
import Derived.Test.YtgjabgneapdbiaaDirBack
import Derived.Test.YtgjabgneapdbiaaDirEnd
import Derived.WalkKit
import Derived.ProofKit
import Derived.OpenShut
import Derived.ShutString
import Derived.ChangeOld
import Derived.Below
import Derived.SizedLaws
namespace Go.Proofs.Ytgjabgneapdbiaa.dirBack
open Go.ChangeShapes Go.WideShapes Go.ChangeAt Go.RowKit
open Go.ChangeMaps (open_string shut_string)
set_option linter.unusedVariables false
theorem own : ownKnob Try.prog.godebug = none := by kernel_rfl
theorem laidOut : laidOutB Try.prog = true := by kernel_rfl
set_option maxRecDepth 100000 in
theorem walk_it {H : Type} {enc : TypeId × Value → H} (W : World) {base : Nat} (v0 : Value) {d0 : DataW H} {p0 : List MemPlace} (hv0 : Value.okWide Try.prog W .any base 60 v0) (h0 : DataW.Trod enc Try.prog W 0 (fun _ => true) true 60 v0 d0 p0) (v1 : Value) {d1 : DataW H} {p1 : List MemPlace} (hv1 : Value.okWide Try.prog W .any base 28 v1) (h1 : DataW.Trod enc Try.prog W 0 (fun _ => true) true 28 v1 d1 p1) (a2 : Int) (h2 : (Lit.int .u32 a2).wf = true) :
    Calls Try.prog 15 #[v0, v1, .int .u32 a2] W fun e w' => e = .returned (.bool true) ∧ Fr noB W w' := by
  obtain ⟨s, xs, rfl, hs⟩ := open_dacts hv0 h0
  obtain ⟨x1, rfl, y1⟩ := open_Prefix_val hv1 h1
  obtain ⟨x2, rfl, y2⟩ := u32_of h2
  exact law_dback s xs x1 y1 x2 y2 W hs
set_option maxRecDepth 100000 in
theorem lifted (os : Os) (started : os.Started) (H : Type) (enc : TypeId × Value → H) :
    ReturnsInHanded {} Try.checked os 15 .any (Rows.dirBackSpec.pre6 enc Try.prog Try.f15 Rows.dirBackRow.domain false) (Rows.dirBackSpec.post enc Try.prog Try.f15 false true false false) := by
  refine returnsInHanded_of_change_sized (C := Try.checked) own started (by kernel_rfl) Try.func15
    (ChangeSpec.witness6 (enc := enc) (C := Try.checked) false ⟨#[], #[.slice none 0 0, .agg #[.int .u32 0, .int .i64 0], .int .u32 0], []⟩ 8 (by kernel_rfl) (by kernel_rfl) (by kernel_rfl) (by kernel_rfl)) ?_
  intro W base args ds gs before hval0 hW hcnd hsz0 _
  have hsz : (DataW.weightsEach Try.prog (Try.f15.params.toList ++ Rows.dirBackSpec.plain.varTypes Try.prog) (ds ++ gs)).all (· ≤ reachBytes) = true := hsz0
  have hval : ∀ (j : Nat) t v, Try.f15.params[j]? = some t → args[j]? = some v → Value.okWide Try.prog W .any base t v := hval0
  have hW' := hW
  obtain ⟨p, q, hA0, hV, rfl, hfz, hnd⟩ := hW
  have hA : DataW.TrodAll enc Try.prog W 0 (fun _ => true) true Try.f15.params.toList args.toList ds p := hA0
  rw [Try.params15] at hA hval hsz
  obtain ⟨v0, vs0, d0, ds0, p0, q0, hargs, rfl, rfl, h0, r0⟩ := trodAll_cons hA
  obtain ⟨v1, vs1, d1, ds1, p1, q1, rfl, rfl, rfl, h1, r1⟩ := trodAll_cons r0
  obtain ⟨v2, vs2, d2, ds2, p2, q2, rfl, rfl, rfl, h2, r2⟩ := trodAll_cons r1
  obtain ⟨rfl, rfl, rfl⟩ := trodAll_nil r2
  obtain rfl : args = #[v0, v1, v2] := by cases args; simp_all
  obtain ⟨rfl, rfl⟩ := trodVars_none hV
  have k0 := h0
  have lt0 : ∀ x ∈ p0, x.block < W.heap.size := by obtain ⟨m, hm⟩ := k0; exact DataW.trod_lt m _ _ _ hm
  have k1 := h1
  have lt1 : ∀ x ∈ p1, x.block < W.heap.size := by obtain ⟨m, hm⟩ := k1; exact DataW.trod_lt m _ _ _ hm
  obtain ⟨a2, rfl, rfl, rfl, w2⟩ := open_int Try.underlying22 (hval 2 22 v2 rfl rfl) h2
  have bb := walk_it W v0 (hval 0 60 v0 rfl rfl) h0 v1 (hval 1 28 v1 rfl rfl) h1 a2 w2
  clear hA0 hval0 hsz0 hsz
  refine bb.mono fun e W' ⟨he, fr⟩ => ?_
  have bel := fr.below
  subst he
  exact ⟨_, rfl, _, _, _, [], _, [], hW', trodAll_mk1 (shut_bool Try.underlying4 _), (trodAll_cons_mk (Below.trod laidOut (by kernel_rfl) (of_decide_eq_true (by kernel_rfl)) k0 bel lt0) (trodAll_cons_mk (Below.trod laidOut (by kernel_rfl) (of_decide_eq_true (by kernel_rfl)) k1 bel lt1) (trodAll_cons_mk (shut_int Try.underlying22 w2) trodAll_mk0))), rfl, bel.frame _, fun h => by cases h⟩
theorem over : Rows.dirBackRow.holds Try.pinned (OpenSpec.ofChange Rows.dirBackSpec) :=
  OpenClaim.holds_of_wide 15 Try.f15 rfl rfl rfl rfl rfl rfl rfl ⟨rfl, rfl, rfl, rfl, rfl⟩ rfl rfl rfl rfl rfl (by kernel_rfl) Try.func15 (by kernel_rfl)
    (of_decide_eq_true (by kernel_rfl)) (by unfold Func.isWrapper; first | (rw [if_pos (by decide +kernel)]; kernel_rfl) | (rw [if_neg (by decide +kernel)]; exact ⟨rfl, rfl⟩))
    (fun os started H enc _ => lifted os started H enc)
theorem proved : Rows.DirBackSaid := over
end Go.Proofs.Ytgjabgneapdbiaa.dirBack
namespace Go.Proofs.Ytgjabgneapdbiaa
/-- The row, under a short name, for the claim. -/
theorem dirBack_holds : Rows.DirBackSaid := dirBack.proved
#print axioms dirBack_holds
end Go.Proofs.Ytgjabgneapdbiaa


/- The law MatchNone: for every input it returns true, and each argument reads afterwards as it read before. No conditions. -/
import Derived.Test.YtgdbafgkledpbaaRows
import Derived.Test.YtgdbafgkledpbaaMatchNone
import Derived.Test.YtgdbafgkledpbaaMatchOpen
import Derived.Test.YtgdbafgkledpbaaSized
import Derived.WalkKit
import Derived.ProofKit
import Derived.OpenShut
import Derived.ShutString
import Derived.ChangeOld
import Derived.Below
import Derived.SizedLaws
namespace Go.Proofs.Ytgdbafgkledpbaa.matchNone
open Go.ChangeShapes Go.WideShapes Go.ChangeAt Go.RowKit
open Go.ChangeMaps (open_string shut_string)
set_option linter.unusedVariables false
theorem own : ownKnob Try.prog.godebug = none := by kernel_rfl
theorem laidOut : laidOutB Try.prog = true := by kernel_rfl
theorem walk_it {H : Type} {enc : TypeId × Value → H} (W : World) {base : Nat} (v0 : Value) {d0 : DataW H} {p0 : List MemPlace} (hv0 : Value.okWide Try.prog W .any base 22 v0) (h0 : DataW.Trod enc Try.prog W 0 (fun _ => true) true 22 v0 d0 p0)
    (z0 : ∀ el sp, d0 = .slice el sp → (el.length + sp.length) * Try.prog.bytesOf 43 ≤ reachBytes)
    (v1 : Value) {d1 : DataW H} {p1 : List MemPlace} (hv1 : Value.okWide Try.prog W .any base 23 v1) (h1 : DataW.Trod enc Try.prog W 0 (fun _ => true) true 23 v1 d1 p1)
    (s : ByteArray) (_ : s.size ≤ maxLen) (v3 : Value) {d3 : DataW H} {p3 : List MemPlace} (hv3 : Value.okWide Try.prog W .any base 30 v3) (h3 : DataW.Trod enc Try.prog W 0 (fun _ => true) true 30 v3 d3 p3) (a4 : Int) (_ : (Lit.int .i64 a4).wf = true) :
    Calls Try.prog 7 #[v0, v1, .string s, v3, .int .i64 a4] W fun e w' => e = .returned (.bool true) ∧ Fr noB W w' := by
  obtain ⟨q, rs, rfl, hq⟩ := open_rules hv0 h0
  obtain ⟨t, ts, rfl, ht⟩ := open_tabs hv1 h1
  obtain ⟨p, rfl, hp⟩ := open_Packet_val hv3 h3
  obtain ⟨b1, b2⟩ := slice_bytes Try.underlying22 h0 z0
  have b3 := (slice_sized Try.underlying22 h0).1
  have hB : Try.prog.bytesOf 43 = 248 := by kernel_rfl
  rw [hB, hq.1] at b2
  exact law_none q rs t ts s p hp a4 W hq ht b1 b3 b2
set_option maxRecDepth 100000 in
theorem lifted (os : Os) (started : os.Started) (H : Type) (enc : TypeId × Value → H) :
    ReturnsInHanded {} Try.checked os 7 .any (Rows.matchNoneSpec.pre6 enc Try.prog Try.f7 Rows.matchNoneRow.domain false) (Rows.matchNoneSpec.post enc Try.prog Try.f7 false true false false) := by
  refine returnsInHanded_of_change_sized (C := Try.checked) own started (by kernel_rfl) Try.func7
    (ChangeSpec.witness6 (enc := enc) (C := Try.checked) false ⟨#[], #[.slice none 0 0, .slice none 0 0, .string ByteArray.empty, .agg #[.int .i64 0, .int .i64 0, .bool false, .bool false, .int .i64 0, .int .i64 0, .int .i64 0, .int .u32 0, .int .u32 0, .slice none 0 0, .slice none 0 0, .int .i64 0, .int .i64 0, .int .i64 0, .int .i64 0, .int .i64 0, .int .i64 0, .pointer none], .int .i64 0], []⟩ 8 (by kernel_rfl) (by kernel_rfl) (by kernel_rfl) (by kernel_rfl)) ?_
  intro W base args ds gs before hval0 hW hcnd hsz0 _
  have hsz : (DataW.weightsEach Try.prog (Try.f7.params.toList ++ Rows.matchNoneSpec.plain.varTypes Try.prog) (ds ++ gs)).all (· ≤ reachBytes) = true := hsz0
  have hval : ∀ (j : Nat) t v, Try.f7.params[j]? = some t → args[j]? = some v → Value.okWide Try.prog W .any base t v := hval0
  have hW' := hW
  obtain ⟨p, q, hA0, hV, rfl, hfz, hnd⟩ := hW
  have hA : DataW.TrodAll enc Try.prog W 0 (fun _ => true) true Try.f7.params.toList args.toList ds p := hA0
  rw [Try.params7] at hA hval hsz
  obtain ⟨v0, vs0, d0, ds0, p0, q0, hargs, rfl, rfl, h0, r0⟩ := trodAll_cons hA
  obtain ⟨v1, vs1, d1, ds1, p1, q1, rfl, rfl, rfl, h1, r1⟩ := trodAll_cons r0
  obtain ⟨v2, vs2, d2, ds2, p2, q2, rfl, rfl, rfl, h2, r2⟩ := trodAll_cons r1
  obtain ⟨v3, vs3, d3, ds3, p3, q3, rfl, rfl, rfl, h3, r3⟩ := trodAll_cons r2
  obtain ⟨v4, vs4, d4, ds4, p4, q4, rfl, rfl, rfl, h4, r4⟩ := trodAll_cons r3
  obtain ⟨rfl, rfl, rfl⟩ := trodAll_nil r4
  obtain rfl : args = #[v0, v1, v2, v3, v4] := by cases args; simp_all
  obtain ⟨rfl, rfl⟩ := trodVars_none hV
  have k0 := h0
  have lt0 : ∀ x ∈ p0, x.block < W.heap.size := by obtain ⟨m, hm⟩ := k0; exact DataW.trod_lt m _ _ _ hm
  have k1 := h1
  have lt1 : ∀ x ∈ p1, x.block < W.heap.size := by obtain ⟨m, hm⟩ := k1; exact DataW.trod_lt m _ _ _ hm
  obtain ⟨a2, rfl, rfl, rfl, y2⟩ := open_string Try.underlying9 (hval 2 9 v2 rfl rfl) h2
  have k3 := h3
  have lt3 : ∀ x ∈ p3, x.block < W.heap.size := by obtain ⟨m, hm⟩ := k3; exact DataW.trod_lt m _ _ _ hm
  obtain ⟨a4, rfl, rfl, rfl, w4⟩ := open_int Try.underlying3 (hval 4 3 v4 rfl rfl) h4
  have bb := walk_it W v0 (hval 0 22 v0 rfl rfl) h0 (fun el sp hd => sized_slice hsz (j := 0) rfl (by rw [hd]; rfl) Try.underlying22) v1 (hval 1 23 v1 rfl rfl) h1 a2 y2 v3 (hval 3 30 v3 rfl rfl) h3 a4 w4
  clear hA0 hval0 hsz0 hsz
  refine bb.mono fun e W' ⟨he, fr⟩ => ?_
  have bel := fr.below
  subst he
  exact ⟨_, rfl, _, _, _, [], _, [], hW', trodAll_mk1 (shut_bool Try.underlying4 _), (trodAll_cons_mk (Below.trod laidOut (by kernel_rfl) (of_decide_eq_true (by kernel_rfl)) k0 bel lt0) (trodAll_cons_mk (Below.trod laidOut (by kernel_rfl) (of_decide_eq_true (by kernel_rfl)) k1 bel lt1) (trodAll_cons_mk (shut_string Try.underlying9 y2) (trodAll_cons_mk (Below.trod laidOut (by kernel_rfl) (of_decide_eq_true (by kernel_rfl)) k3 bel lt3) (trodAll_cons_mk (shut_int Try.underlying3 w4) trodAll_mk0))))), rfl, bel.frame _, fun h => by cases h⟩
theorem over : Rows.matchNoneRow.holds Try.pinned (OpenSpec.ofChange Rows.matchNoneSpec) :=
  OpenClaim.holds_of_wide 7 Try.f7 rfl rfl rfl rfl rfl rfl rfl ⟨rfl, rfl, rfl, rfl, rfl⟩ rfl rfl rfl rfl rfl (by kernel_rfl) Try.func7 (by kernel_rfl)
    (of_decide_eq_true (by kernel_rfl)) (by unfold Func.isWrapper; first | (rw [if_pos (by decide +kernel)]; kernel_rfl) | (rw [if_neg (by decide +kernel)]; exact ⟨rfl, rfl⟩))
    (fun os started H enc _ => lifted os started H enc)
theorem proved : Rows.MatchNoneSaid := over
end Go.Proofs.Ytgdbafgkledpbaa.matchNone
namespace Go.Proofs.Ytgdbafgkledpbaa
/-- The row, under a short name, for the claim. -/
theorem matchNone_holds : Rows.MatchNoneSaid := matchNone.proved
#print axioms matchNone_holds
end Go.Proofs.Ytgdbafgkledpbaa


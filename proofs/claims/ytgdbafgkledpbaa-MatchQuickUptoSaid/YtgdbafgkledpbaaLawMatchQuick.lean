/- The law MatchQuick: for every input it returns true, and each argument reads afterwards as it read before. No conditions. -/
import Derived.Test.YtgdbafgkledpbaaRows
import Derived.Test.YtgdbafgkledpbaaMatchQuick
import Derived.Test.YtgdbafgkledpbaaMatchOpen
import Derived.Test.YtgdbafgkledpbaaSized
import Derived.Test.YtgdbafgkledpbaaBulk
import Derived.JoinedCond
import Derived.Deep.CondSized
import Derived.WalkKit
import Derived.ProofKit
import Derived.OpenShut
import Derived.ShutString
import Derived.ChangeOld
import Derived.Below
import Derived.SizedLaws
namespace Go.Proofs.Ytgdbafgkledpbaa.matchQuick
open Go.ChangeShapes Go.WideShapes Go.ChangeAt Go.RowKit
open Go.ChangeMaps (open_string shut_string)
set_option linter.unusedVariables false
theorem own : ownKnob Try.prog.godebug = none := by kernel_rfl
theorem laidOut : laidOutB Try.prog = true := by kernel_rfl
theorem bulk_slice {H : Type} {W : World} {enc : TypeId × Value → H} {a : Option Addr} {len cap : Nat} {d : DataW H} {p : List MemPlace} (h : DataW.Trod enc Try.prog W 0 (fun _ => true) true 22 (.slice a len cap) d p) : len ≤ Rows.uptoBulk d := by
  obtain ⟨h1, _, h3⟩ := slice_sized Try.underlying22 h
  rcases h3 with ⟨_, h0⟩ | ⟨_, el, sp, hd, hl⟩
  · omega
  · have := bulks.slice_le el sp
    rw [hd]
    omega
theorem walk_it {H : Type} {enc : TypeId × Value → H} (W : World) {base : Nat} {d0 d1 d2 d3 d4 : DataW H} (hk : Rows.uptoBulkAll [d0, d1, d2, d3, d4] ≤ 1048576) (v0 : Value) {p0 : List MemPlace} (hv0 : Value.okWide Try.prog W .any base 22 v0) (h0 : DataW.Trod enc Try.prog W 0 (fun _ => true) true 22 v0 d0 p0)
    (v1 : Value) {p1 : List MemPlace} (hv1 : Value.okWide Try.prog W .any base 22 v1) (h1 : DataW.Trod enc Try.prog W 0 (fun _ => true) true 22 v1 d1 p1)
    (v2 : Value) {p2 : List MemPlace} (hv2 : Value.okWide Try.prog W .any base 23 v2) (h2 : DataW.Trod enc Try.prog W 0 (fun _ => true) true 23 v2 d2 p2)
    (s : ByteArray) (_ : s.size ≤ maxLen) (v4 : Value) {p4 : List MemPlace} (hv4 : Value.okWide Try.prog W .any base 30 v4) (h4 : DataW.Trod enc Try.prog W 0 (fun _ => true) true 30 v4 d4 p4) :
    Calls Try.prog 4 #[v0, v1, v2, .string s, v4] W fun e w' => e = .returned (.bool true) ∧ Fr noB W w' := by
  obtain ⟨q, rs, rfl, hq⟩ := open_rules hv0 h0
  obtain ⟨q2, rs2, rfl, hq2⟩ := open_rules hv1 h1
  obtain ⟨t, ts, rfl, ht⟩ := open_tabs hv2 h2
  obtain ⟨p, rfl, hp⟩ := open_Packet_val hv4 h4
  have b0 := bulk_slice h0
  have b1 := bulk_slice h1
  have e0 := slice_sized Try.underlying22 h0
  have e1 := slice_sized Try.underlying22 h1
  simp only [Rows.uptoBulkAll] at hk
  exact law_quick q rs q2 rs2 t ts s p hp W hq hq2 ht (fun h => by rcases e0.2.2 with ⟨_, h2⟩ | ⟨h2, _⟩ <;> first | exact h2 | exact absurd h h2) (fun h => by rcases e1.2.2 with ⟨_, h2⟩ | ⟨h2, _⟩ <;> first | exact h2 | exact absurd h h2) (by rw [← hq.1, ← hq2.1]; omega)
set_option maxRecDepth 100000 in
theorem lifted (os : Os) (started : os.Started) (H : Type) (enc : TypeId × Value → H) (F : Stop.Interp) :
    ReturnsInHanded {} Try.checked os 4 .any ((Rows.OpenSpec.upto Rows.matchQuickSpec).pre6 enc Try.prog Try.f4 Rows.matchQuickUptoRow.domain false) (((Rows.OpenSpec.upto Rows.matchQuickSpec).at F).post enc Try.prog Try.f4 false true false false) := by
  refine returnsInHanded_of_cond_sized (C := Try.checked) (s := Rows.OpenSpec.upto Rows.matchQuickSpec) (k := Rows.uptoSmall) rfl own started (by kernel_rfl) Try.func4
    (OpenSpec.witness (enc := enc) (C := Try.checked) (s := Rows.OpenSpec.upto Rows.matchQuickSpec) (k := Rows.uptoSmall) rfl false ⟨#[], #[.slice none 0 0, .slice none 0 0, .slice none 0 0, .string ByteArray.empty, .agg #[.int .i64 0, .int .i64 0, .bool false, .bool false, .int .i64 0, .int .i64 0, .int .i64 0, .int .u32 0, .int .u32 0, .slice none 0 0, .slice none 0 0, .int .i64 0, .int .i64 0, .int .i64 0, .int .i64 0, .int .i64 0, .int .i64 0, .pointer none]], []⟩ 8 (by kernel_rfl) (by kernel_rfl) (by kernel_rfl)
      (x := ([.nil, .nil, .nil, .lit (.string []), .agg [.agg [.lit (.int .i64 0), .lit (.int .i64 0), .lit (.bool false), .lit (.bool false), .lit (.int .i64 0), .lit (.int .i64 0), .lit (.int .i64 0), .lit (.int .u32 0), .lit (.int .u32 0), .nil, .nil], .lit (.int .i64 0), .lit (.int .i64 0), .lit (.int .i64 0), .lit (.int .i64 0), .lit (.int .i64 0), .lit (.int .i64 0), .nil]], [], [])) (by kernel_rfl) rfl (by kernel_rfl)) ?_
  intro W base args ds gs before hval0 hW hcnd hk hsz0 _
  have hsz : (DataW.weightsEach Try.prog (Try.f4.params.toList ++ Rows.matchQuickSpec.plain.varTypes Try.prog) (ds ++ gs)).all (· ≤ reachBytes) = true := hsz0
  have hval : ∀ (j : Nat) t v, Try.f4.params[j]? = some t → args[j]? = some v → Value.okWide Try.prog W .any base t v := hval0
  have hW' := hW
  obtain ⟨p, q, hA0, hV, rfl, hfz, hnd⟩ := hW
  have hA : DataW.TrodAll enc Try.prog W 0 (fun _ => true) true Try.f4.params.toList args.toList ds p := hA0
  rw [Try.params4] at hA hval hsz
  obtain ⟨v0, vs0, d0, ds0, p0, q0, hargs, rfl, rfl, h0, r0⟩ := trodAll_cons hA
  obtain ⟨v1, vs1, d1, ds1, p1, q1, rfl, rfl, rfl, h1, r1⟩ := trodAll_cons r0
  obtain ⟨v2, vs2, d2, ds2, p2, q2, rfl, rfl, rfl, h2, r2⟩ := trodAll_cons r1
  obtain ⟨v3, vs3, d3, ds3, p3, q3, rfl, rfl, rfl, h3, r3⟩ := trodAll_cons r2
  obtain ⟨v4, vs4, d4, ds4, p4, q4, rfl, rfl, rfl, h4, r4⟩ := trodAll_cons r3
  obtain ⟨rfl, rfl, rfl⟩ := trodAll_nil r4
  obtain rfl : args = #[v0, v1, v2, v3, v4] := by cases args; simp_all
  obtain ⟨rfl, rfl⟩ := trodVars_none hV
  have hbulk : Rows.uptoBulkAll [d0, d1, d2, d3, d4] ≤ 1048576 := of_decide_eq_true hk
  have k0 := h0
  have lt0 : ∀ x ∈ p0, x.block < W.heap.size := by obtain ⟨m, hm⟩ := k0; exact DataW.trod_lt m _ _ _ hm
  have k1 := h1
  have lt1 : ∀ x ∈ p1, x.block < W.heap.size := by obtain ⟨m, hm⟩ := k1; exact DataW.trod_lt m _ _ _ hm
  have k2 := h2
  have lt2 : ∀ x ∈ p2, x.block < W.heap.size := by obtain ⟨m, hm⟩ := k2; exact DataW.trod_lt m _ _ _ hm
  obtain ⟨a3, rfl, rfl, rfl, y3⟩ := open_string Try.underlying9 (hval 3 9 v3 rfl rfl) h3
  have k4 := h4
  have lt4 : ∀ x ∈ p4, x.block < W.heap.size := by obtain ⟨m, hm⟩ := k4; exact DataW.trod_lt m _ _ _ hm
  have bb := walk_it W hbulk v0 (hval 0 22 v0 rfl rfl) h0 v1 (hval 1 22 v1 rfl rfl) h1 v2 (hval 2 23 v2 rfl rfl) h2 a3 y3 v4 (hval 4 30 v4 rfl rfl) h4
  clear hA0 hval0 hsz0 hsz
  refine bb.mono fun e W' ⟨he, fr⟩ => ?_
  have bel := fr.below
  subst he
  exact ⟨_, rfl, _, _, _, [], _, [], hW', trodAll_mk1 (shut_bool Try.underlying4 _), (trodAll_cons_mk (Below.trod laidOut (by kernel_rfl) (of_decide_eq_true (by kernel_rfl)) k0 bel lt0) (trodAll_cons_mk (Below.trod laidOut (by kernel_rfl) (of_decide_eq_true (by kernel_rfl)) k1 bel lt1) (trodAll_cons_mk (Below.trod laidOut (by kernel_rfl) (of_decide_eq_true (by kernel_rfl)) k2 bel lt2) (trodAll_cons_mk (shut_string Try.underlying9 y3) (trodAll_cons_mk (Below.trod laidOut (by kernel_rfl) (of_decide_eq_true (by kernel_rfl)) k4 bel lt4) trodAll_mk0))))), rfl, bel.frame _, fun h => by cases h⟩
theorem proved : Rows.MatchQuickUptoSaid :=
  OpenClaim.holds_of_cond 4 Try.f4 rfl rfl rfl rfl rfl rfl rfl ⟨rfl, rfl, rfl, rfl, rfl⟩ rfl rfl rfl rfl rfl (by kernel_rfl) Try.func4 (by kernel_rfl)
    (of_decide_eq_true (by kernel_rfl)) (by unfold Func.isWrapper; first | (rw [if_pos (by decide +kernel)]; kernel_rfl) | (rw [if_neg (by decide +kernel)]; exact ⟨rfl, rfl⟩))
    (fun os started H enc _ F => lifted os started H enc F)
end Go.Proofs.Ytgdbafgkledpbaa.matchQuick
namespace Go.Proofs.Ytgdbafgkledpbaa
/-- The row, under a short name, for the claim. -/
theorem matchQuickUpto_holds : Rows.MatchQuickUptoSaid := matchQuick.proved
#print axioms matchQuickUpto_holds
end Go.Proofs.Ytgdbafgkledpbaa


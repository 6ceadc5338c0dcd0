/- A slice of bools that came in, opened. -/
import Derived.Test.YtielgdmmegcafaaLimLaw
import Derived.ProofKit
import Derived.Deep.Slices
namespace Go.Proofs.Ytielgdmmegcafaa
open Go.ChangeShapes Go.WideShapes Go.Deep Go.RowKit

theorem open_bools {H : Type} {enc : TypeId × Value → H} {W : World} {v : Value} {d : DataW H} {p : List MemPlace} {base : Nat}
    (hv : Value.okWide Try.prog W .any base 22 v) (h : DataW.Trod enc Try.prog W 0 (fun _ => true) true 22 v d p) :
    ∃ a len cap f, v = .slice a len cap ∧ Bools W a len f ∧ len ≤ cap ∧ cap ≤ maxLen := by
  obtain ⟨a, len, cap, rfl⟩ := okWide_slice Try.underlying22 hv
  obtain ⟨fuel, hf⟩ := h
  rcases open_slice1 Try.underlying22 (by kernel_rfl) hf with ⟨hcs, _⟩ | ⟨x, l, c, m, n, V, D, Pl, hcs, _, hl, hm, hmm, hx, hc⟩
  · simp [Value.cells] at hcs
    obtain ⟨rfl, rfl, rfl⟩ := hcs
    exact ⟨none, 0, 0, fun _ => false, rfl, .inl rfl, Nat.le_refl _, Nat.zero_le _⟩
  · simp [Value.cells] at hcs
    obtain ⟨rfl, rfl, rfl⟩ := hcs
    simp only [if_true] at hmm
    subst hmm
    have hb : ∀ k, k < len → ∃ b, W.cell? (x.add k) = some (.bool b) := fun k hk => by
      obtain ⟨h1, h2⟩ := hc k (by omega)
      obtain ⟨b, hb, _⟩ := DataW.trod_bool Try.underlying4 h2
      simp at hb
      exact ⟨b, by rw [h1, hb]⟩
    obtain ⟨f, hf⟩ := choose_lt hb
    refine ⟨some x, _, _, f, rfl, ?_, hl, hm⟩
    by_cases h0 : len = 0
    · exact .inl h0
    · have h1 := hf 0 (by omega)
      rw [Addr.add_zero'] at h1
      have e := spot_of_cell h1
      refine .inr ⟨x.block, x.off, by rw [← e], block_of_cell h1, fun k hk => ?_⟩
      have h2 := hf k hk
      rw [e, Addr.add_lit] at h2
      exact h2
end Go.Proofs.Ytielgdmmegcafaa

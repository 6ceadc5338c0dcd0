/- How long an argument's slice is. -/
import Derived.Test.YtgdbafgkledpbaaData
import Derived.SizedLaws
namespace Go.Proofs.Ytgdbafgkledpbaa
open Go.RowKit Go.ChangeAt
set_option linter.unusedVariables false
theorem slice_sized {P : Program} {H : Type} {enc : TypeId × Value → H} {w : World} {t e : TypeId} {a : Option Addr} {len cap : Nat} {d : DataW H} {p : List MemPlace} (ht : P.underlying t = some (.slice e))
    (h : DataW.Trod enc P w 0 (fun _ => true) true t (.slice a len cap) d p) : len ≤ cap ∧ cap ≤ maxLen ∧ ((a = none ∧ cap = 0) ∨ (a ≠ none ∧ ∃ el sp, d = .slice el sp ∧ el.length + sp.length = cap)) := by
  obtain ⟨fuel, hf⟩ := h
  rcases DataW.trod_slice ht hf with ⟨hcs, _⟩ | ⟨a', len', cap', elems, rest, n, _, hcs, hx, _, h1, h2, h3, _, h4, _⟩
  · have hcs' : [Value.slice a len cap] = [Value.slice none 0 0] := by simpa [Value.cells] using hcs
    simp only [List.cons.injEq, Value.slice.injEq, and_true] at hcs'
    obtain ⟨rfl, rfl, rfl⟩ := hcs'
    exact ⟨Nat.le_refl _, Nat.zero_le _, .inl ⟨rfl, rfl⟩⟩
  · have hcs' : [Value.slice a len cap] = [Value.slice (some a') len' cap'] := by simpa [Value.cells] using hcs
    simp only [List.cons.injEq, Value.slice.injEq, and_true] at hcs'
    obtain ⟨rfl, rfl, rfl⟩ := hcs'
    simp only [Prod.mk.injEq] at hx
    have h5 := (h4 rfl).1
    refine ⟨h1, h2, .inr ⟨by simp, _, _, hx.1, ?_⟩⟩
    simp only [List.length_map]
    omega
/-- .. in bytes. -/
theorem slice_bytes {P : Program} {H : Type} {enc : TypeId × Value → H} {w : World} {t e : TypeId} {a : Option Addr} {len cap : Nat} {d : DataW H} {p : List MemPlace} (ht : P.underlying t = some (.slice e))
    (h : DataW.Trod enc P w 0 (fun _ => true) true t (.slice a len cap) d p) (hb : ∀ el sp, d = .slice el sp → (el.length + sp.length) * P.bytesOf e ≤ reachBytes) : (a = none → cap = 0) ∧ len * P.bytesOf e ≤ reachBytes := by
  obtain ⟨h1, h2, h3⟩ := slice_sized ht h
  rcases h3 with ⟨rfl, rfl⟩ | ⟨hn, el, sp, hd, hl⟩
  · refine ⟨fun _ => rfl, ?_⟩
    obtain rfl : len = 0 := by omega
    simp
  · refine ⟨fun h => absurd h hn, ?_⟩
    have := hb el sp hd
    rw [hl] at this
    exact Nat.le_trans (Nat.mul_le_mul_right _ h1) this
end Go.Proofs.Ytgdbafgkledpbaa

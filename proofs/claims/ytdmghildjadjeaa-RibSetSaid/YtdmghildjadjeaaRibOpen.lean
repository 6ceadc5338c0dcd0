/- The arguments of chapter 11's laws, opened. -/
import Derived.Test.YtdmghildjadjeaaRibPlayed
namespace Go.Proofs.Ytdmghildjadjeaa
open Go.ChangeShapes Go.WideShapes Go.Deep Go.RowKit
set_option linter.unusedSimpArgs false
set_option linter.unusedVariables false

section
variable {H : Type} {enc : TypeId × Value → H} {W : World} {v : Value} {d : DataW H} {p : List MemPlace} {base : Nat}
theorem open_acts (hv : Value.okWide Try.prog W .any base 38 v) (h : DataW.Trod enc Try.prog W 0 (fun _ => true) true 38 v d p) :
    ∃ (s : SlV) (rs : List ActM), v = .slice s.a s.len s.cap ∧ Acts W s rs := by
  obtain ⟨a, len, cap, rfl⟩ := okWide_slice Try.underlying38 hv
  obtain ⟨fuel, hf⟩ := h
  obtain ⟨s, xs, hcs, hs⟩ := open_slof 7 ActM.cells ActM.wf Try.underlying38 cellsOf_Act (by decide) (fun _ _ _ h => open_Act h) hf
  refine ⟨s, xs, ?_, hs⟩
  simpa [Value.cells] using hcs
theorem open_ups (hv : Value.okWide Try.prog W .any base 39 v) (h : DataW.Trod enc Try.prog W 0 (fun _ => true) true 39 v d p) :
    ∃ (s : SlV) (up : List Bool), v = .slice s.a s.len s.cap ∧ Ups W s up := by
  obtain ⟨a, len, cap, rfl⟩ := okWide_slice Try.underlying39 hv
  obtain ⟨fuel, hf⟩ := h
  obtain ⟨s, xs, hcs, hs⟩ := open_slof 1 bcells (fun _ => True) Try.underlying39 (by kernel_rfl) (by decide) (fun cs y fuel h => by
    obtain ⟨b, e, _⟩ := DataW.trod_bool Try.underlying4 h
    exact ⟨b, e, trivial⟩) hf
  refine ⟨s, xs, ?_, hs⟩
  simpa [Value.cells] using hcs
end
end Go.Proofs.Ytdmghildjadjeaa

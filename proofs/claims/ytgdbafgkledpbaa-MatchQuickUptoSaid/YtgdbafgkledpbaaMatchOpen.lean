/- The arguments of chapter 15's laws, opened: rules, tables with their prefixes, prefixes. -/
import Derived.Test.YtgdbafgkledpbaaMatchLast
namespace Go.Proofs.Ytgdbafgkledpbaa
open Go.ChangeShapes Go.WideShapes Go.Deep Go.RowKit
set_option linter.unusedSimpArgs false
set_option linter.unusedVariables false

section
variable {H : Type} {enc : TypeId × Value → H} {W : World} {v : Value} {d : DataW H} {p : List MemPlace} {base : Nat}

theorem open_rules (hv : Value.okWide Try.prog W .any base 22 v) (h : DataW.Trod enc Try.prog W 0 (fun _ => true) true 22 v d p) :
    ∃ (s : SlV) (rs : List RuleM), v = .slice s.a s.len s.cap ∧ Rules W s rs := by
  obtain ⟨a, len, cap, rfl⟩ := okWide_slice Try.underlying22 hv
  obtain ⟨fuel, hf⟩ := h
  obtain ⟨s, xs, hcs, hs⟩ := open_slof 28 RuleM.cells RuleM.wf Try.underlying22 cellsOf_Rule (by decide) (fun _ _ _ h => open_Rule h) hf
  refine ⟨s, xs, ?_, hs⟩
  simpa [Value.cells] using hcs

theorem open_prefixes (hv : Value.okWide Try.prog W .any base 51 v) (h : DataW.Trod enc Try.prog W 0 (fun _ => true) true 51 v d p) :
    ∃ (s : SlV) (rs : List PrefixM), v = .slice s.a s.len s.cap ∧ SlOf W 2 PrefixM.cells PrefixM.wf s rs := by
  obtain ⟨a, len, cap, rfl⟩ := okWide_slice Try.underlying51 hv
  obtain ⟨fuel, hf⟩ := h
  obtain ⟨s, xs, hcs, hs⟩ := open_slof 2 PrefixM.cells PrefixM.wf Try.underlying51 cellsOf_Prefix (by decide) (fun _ _ _ h => open_Prefix h) hf
  refine ⟨s, xs, ?_, hs⟩
  simpa [Value.cells] using hcs

theorem open_Table {fuel : Nat} {cs : List Value} {y : DataW H × List MemPlace} (h : DataW.trod enc Try.prog W 0 (fun _ => true) true fuel 53 cs = some y) : ∃ t : TableM, cs = t.cells ∧ t.ok W := by
  obtain ⟨x, e, w⟩ := open_Named h
  obtain ⟨xs, n, _, _, hlen, hxl, hf⟩ := DataW.trod_struct Try.underlying53 h
  clear h
  subst e
  have g1 : DataW.trod enc Try.prog W 0 (fun _ => true) true n 51 (List.take (Try.prog.cellsOf 51) (List.drop 1 x.cells)) = xs[1]? := hf 1 _ rfl
  have z1 : ∃ y, xs[1]? = some y := ⟨_, List.getElem?_eq_getElem (by rw [hxl]; decide)⟩
  obtain ⟨z1, hz1⟩ := z1
  rw [hz1, show Try.prog.cellsOf 51 = 1 from by kernel_rfl] at g1
  simp only [NamedM.cells, List.drop_succ_cons, List.drop_zero, List.take_succ_cons, List.take_zero] at g1
  obtain ⟨s, ps, hcs, hs⟩ := open_slof 2 PrefixM.cells PrefixM.wf Try.underlying51 cellsOf_Prefix (by decide) (fun _ _ _ h => open_Prefix h) g1
  simp only [List.cons.injEq, Value.slice.injEq, and_true] at hcs
  obtain ⟨h1, h2, h3⟩ := hcs
  refine ⟨⟨x, ps⟩, rfl, w, ?_⟩
  have e : x.l = s := by
    obtain ⟨a, b, c⟩ := s
    obtain ⟨nm, ⟨a', b', c'⟩⟩ := x
    simp_all
  show SlOf W 2 PrefixM.cells PrefixM.wf x.l ps
  rw [e]
  exact hs

theorem open_tabs (hv : Value.okWide Try.prog W .any base 23 v) (h : DataW.Trod enc Try.prog W 0 (fun _ => true) true 23 v d p) :
    ∃ (s : SlV) (ts : List TableM), v = .slice s.a s.len s.cap ∧ Tabs W s ts := by
  obtain ⟨a, len, cap, rfl⟩ := okWide_slice Try.underlying23 hv
  obtain ⟨fuel, hf⟩ := h
  obtain ⟨s, xs, hcs, hs⟩ := open_slof 2 TableM.cells (TableM.ok W) Try.underlying23 cellsOf_Named (by decide) (fun _ _ _ h => open_Table h) hf
  refine ⟨s, xs, ?_, hs⟩
  simpa [Value.cells] using hcs
end
end Go.Proofs.Ytgdbafgkledpbaa

/- Helpers for arguments that came in: numbers' bounds, the shapes of slices and pointers, cells of an element. -/
import Derived.Test.YtgjabgneapdbiaaLib
import Derived.ProofKit
import Derived.Deep.Slices
import Derived.OpenShut
namespace Go.Proofs.Ytgjabgneapdbiaa
open Go.ChangeShapes Go.WideShapes Go.Deep Go.RowKit

def i64b (n : Int) : Prop := -9223372036854775808 ≤ n ∧ n ≤ 9223372036854775807
theorem i64b_of {n : Int} (h : (Lit.int .i64 n).wf = true) : i64b n := Go.bounds_i64 h
theorem u32_of {n : Int} (h : (Lit.int .u32 n).wf = true) : ∃ m : Nat, n = (m : Int) ∧ m < 4294967296 := by
  have := Go.bounds_u32 h
  exact ⟨n.toNat, by omega, by omega⟩

/-- A slice's value. -/
structure SlV where
  a : Option Addr
  len : Nat
  cap : Nat
  deriving Inhabited

theorem slice_shape {P : Program} {H : Type} {enc : TypeId × Value → H} {w : World} {base : Nat} {spare : Nat → Bool} {held : Bool} {fuel : Nat} {t e : TypeId} {cs : List Value} {y : DataW H × List MemPlace}
    (ht : P.underlying t = some (.slice e)) (h : DataW.trod enc P w base spare held fuel t cs = some y) : ∃ x : SlV, cs = [.slice x.a x.len x.cap] := by
  rcases open_slice ht h with ⟨hcs, _⟩ | ⟨a, len, cap, _, _, _, _, hcs, _⟩
  · exact ⟨⟨none, 0, 0⟩, hcs⟩
  · exact ⟨⟨some a, len, cap⟩, hcs⟩
theorem ptr_shape {P : Program} {H : Type} {enc : TypeId × Value → H} {w : World} {base : Nat} {spare : Nat → Bool} {held : Bool} {fuel : Nat} {t e : TypeId} {cs : List Value} {y : DataW H × List MemPlace}
    (ht : P.underlying t = some (.pointer e)) (h : DataW.trod enc P w base spare held fuel t cs = some y) : ∃ x : Option Addr, cs = [.pointer x] := by
  rcases DataW.trod_pointer ht h with ⟨hcs, _⟩ | ⟨a, _, _, _, _, hcs, _⟩
  · exact ⟨none, hcs⟩
  · exact ⟨some a, hcs⟩

/-- The cells from an address on. -/
def CellsAt (w : World) (b o : Nat) (cs : List Value) : Prop := ∀ j v, cs[j]? = some v → w.cell? ⟨b, o + j, none⟩ = some v
theorem CellsAt.fr {S : Nat → Prop} {w w' : World} {b o : Nat} {cs : List Value} (h : CellsAt w b o cs) (f : Fr S w w') (hs : ¬ S b) : CellsAt w' b o cs := fun j v hj => by
  have hc := h j v hj
  rw [f.cell (block_of_cell hc) hs]
  exact hc
/-- A slice reads as a list: its elements' cells, and what else is known of each element. -/
def SlOf {α : Type} (w : World) (N : Nat) (cells : α → List Value) (ok : α → Prop) (s : SlV) (xs : List α) : Prop :=
  s.len = xs.length ∧ s.len ≤ maxLen ∧ (xs = [] ∨ ∃ b o, s.a = some ⟨b, o, none⟩ ∧ b < w.heap.size ∧ ∀ k x, xs[k]? = some x → CellsAt w b (o + k * N) (cells x) ∧ ok x)

theorem open_slof {α : Type} [Inhabited α] {P : Program} {H : Type} {enc : TypeId × Value → H} {w : World} {base : Nat} {held : Bool} {fuel : Nat} {t e : TypeId} {cs : List Value} {y : DataW H × List MemPlace} {spare : Nat → Bool}
    (N : Nat) (cells : α → List Value) (ok : α → Prop) (ht : P.underlying t = some (.slice e)) (hc : P.cellsOf e = N) (hN : 0 < N)
    (hel : ∀ fuel cs y, DataW.trod enc P w base spare held fuel e cs = some y → ∃ x, cs = cells x ∧ ok x)
    (h : DataW.trod enc P w base spare held fuel t cs = some y) : ∃ (s : SlV) (xs : List α), cs = [.slice s.a s.len s.cap] ∧ SlOf w N cells ok s xs := by
  rcases open_slice ht h with ⟨hcs, _⟩ | ⟨a, len, cap, m, n, D, Pl, hcs, _, hl, hm, hmm, hx, hi⟩
  · exact ⟨⟨none, 0, 0⟩, [], hcs, ⟨rfl, Nat.zero_le _, .inl rfl⟩⟩
  · have hlm : len ≤ m := by rw [hmm]; split <;> omega
    have hex : ∀ i, i < len → ∃ x, (∀ j v, (cells x)[j]? = some v → w.cell? ((a.add (i * N)).add j) = some v) ∧ (cells x).length = N ∧ ok x := fun i hil => by
      obtain ⟨cs', h1, h2⟩ := hi i (by omega)
      rw [hc] at h1
      obtain ⟨_, hlen, hat⟩ := World.cells?_some h1
      obtain ⟨x, rfl, ho⟩ := hel _ _ _ h2
      refine ⟨x, fun j v hj => ?_, hlen, ho⟩
      have hjl : j < N := by rw [← hlen]; exact (List.getElem?_eq_some_iff.1 hj).1
      rw [hat j hjl, hj]
    obtain ⟨f, hf⟩ := choose_lt hex
    refine ⟨⟨some a, len, cap⟩, (List.range len).map f, hcs, ⟨by simp, Nat.le_trans hl hm, ?_⟩⟩
    by_cases h0 : len = 0
    · left; simp [h0]
    · right
      obtain ⟨g1, g2, _⟩ := hf 0 (by omega)
      have hv : (cells (f 0))[0]? = some ((cells (f 0))[0]'(by omega)) := List.getElem?_eq_getElem (by omega)
      have hc0 := g1 0 _ hv
      rw [Nat.zero_mul, Addr.add_zero', Addr.add_zero'] at hc0
      have ea := spot_of_cell hc0
      refine ⟨a.block, a.off, by rw [← ea], block_of_cell hc0, fun k x hk => ?_⟩
      rw [List.getElem?_map] at hk
      have hkl : k < len := by
        rcases Nat.lt_or_ge k len with h | h
        · exact h
        · rw [List.getElem?_eq_none (by simpa using h)] at hk; simp at hk
      rw [List.getElem?_range hkl] at hk
      simp only [Option.map_some, Option.some.injEq] at hk
      subst hk
      obtain ⟨g1, _, g3⟩ := hf k hkl
      refine ⟨fun j v hj => ?_, g3⟩
      have := g1 j v hj
      rw [ea, Addr.add_lit, Addr.add_lit] at this
      exact this

theorem SlOf.fr {α : Type} {S : Nat → Prop} {w w' : World} {N : Nat} {cells : α → List Value} {ok ok' : α → Prop} {s : SlV} {xs : List α} (h : SlOf w N cells ok s xs) (f : Fr S w w') (hs : ∀ b, b < w.heap.size → ¬ S b) (hok : ∀ x, ok x → ok' x) : SlOf w' N cells ok' s xs := by
  obtain ⟨h1, h3, h2⟩ := h
  refine ⟨h1, h3, ?_⟩
  rcases h2 with h2 | ⟨b, o, e, hb, hk⟩
  · exact .inl h2
  · exact .inr ⟨b, o, e, f.lt hb, fun k x hx => ⟨(hk k x hx).1.fr f (hs b hb), hok _ (hk k x hx).2⟩⟩
theorem SlOf.at {α : Type} {w : World} {N : Nat} {cells : α → List Value} {ok : α → Prop} {s : SlV} {xs : List α} (h : SlOf w N cells ok s xs) {k : Nat} {x : α} (hx : xs[k]? = some x) :
    ∃ b o, s.a = some ⟨b, o, none⟩ ∧ b < w.heap.size ∧ CellsAt w b (o + k * N) (cells x) ∧ ok x := by
  obtain ⟨_, _, h2⟩ := h
  rcases h2 with h2 | ⟨b, o, e, hb, hk⟩
  · subst h2; simp at hx
  · exact ⟨b, o, e, hb, hk k x hx⟩

theorem cells2 {w : World} {b o : Nat} {v0 v1 : Value} (h : CellsAt w b o [v0, v1]) : w.cell? ⟨b, o, none⟩ = some v0 ∧ w.cell? ⟨b, o + 1, none⟩ = some v1 := ⟨h 0 _ rfl, h 1 _ rfl⟩

/-! ### Structs as wholes in memory -/
theorem run_loadVar_at {P : Program} (w : World) (ty : TypeId) (b off : Nat) (cs : List Value) (hc : CellsAt w b off cs) (d : TypeDesc)
    (hu : P.underlying ty = some d) (hd : (match d with | .struct _ | .array _ _ => true | _ => false) = true) (hi : (P.info? ty).map (·.size) = some cs.length) :
    (loadVar ty ⟨b, off, none⟩).run P w = .ok (.agg cs.toArray) w := by
  have hl := run_loadCells_list (P := P) w ⟨b, off, none⟩ cs (fun j v hv => by rw [Addr.add_lit]; exact hc j v hv)
  cases hq : P.info? ty with
  | none => simp [hq] at hi
  | some i =>
    have hs : i.size = cs.length := by simpa [hq] using hi
    have hagg : (isAgg ty).run P w = .ok true w := by
      unfold isAgg
      rw [Sem.run_bind, run_underlying hu w]
      cases d <;> simp_all
    simp [loadVar, Sem.run_bind, hagg, sizeOf, typeInfo, hq, hs, hl]

theorem wpList_load_at {P : Program} {ops : Array Oper} {rest : List Oper} {o : Oper} {a : Act} {w : World} {Q : Exit → Act → World → Prop} (hgd : o.guard = none) (ty : TypeId) (x : Operand) (ho : o.op = .load ty x)
    (b off : Nat) (hx : a.eval x = .pointer (some ⟨b, off, none⟩)) (cs : List Value) (hc : CellsAt w b off cs) (d : TypeDesc)
    (hu : P.underlying ty = some d) (hd : (match d with | .struct _ | .array _ _ => true | _ => false) = true) (hi : (P.info? ty).map (·.size) = some cs.length)
    (h : wpList P ops Q rest (a.put o.dst (.agg cs.toArray)) w) : wpList P ops Q (o :: rest) a w :=
  wpList_plain hgd fun _ hK => by
    unfold Oper.wp execOp
    simp only [ho, hx, Instr.loadAt, Instr.sureAddr, Sem.run_bind, Sem.run_pure, Result.andThen_ok, run_loadVar_at w ty b off cs hc d hu hd hi]
    exact hK _ _ h

theorem Blk.cells {w : World} {g : Nat} {cs : List Value} {t : TypeId} (h : Blk w g cs.toArray t) : CellsAt w g 0 cs := fun j v hj => by
  rw [Nat.zero_add, h.cell j]; simpa using hj
theorem Blk.setRow {w : World} {g : Nat} {cs cs' : Array Value} {t : TypeId} (h : Blk w g cs t) : Blk (w.setRow g cs') g cs' t := setRow_heap w g cs cs' t (0, 0) h
theorem Fr.setRow {S : Nat → Prop} {a b : World} (h : Fr S a b) {g : Nat} (hg : a.heap.size ≤ g ∨ S g) (cs : Array Value) : Fr S a (b.setRow g cs) :=
  ⟨h.os, h.tape, h.output, by rw [size_setRow]; exact h.size, fun x hx hn => by
    have hne : x ≠ g := by
      rintro rfl
      rcases hg with hg | hg
      · omega
      · exact hn hg
    rw [setRow_other b g x cs hne]
    exact h.same x hx hn⟩
end Go.Proofs.Ytgjabgneapdbiaa

/- Small general lemmas about memory: frames with a set of blocks that may be written, and blocks that are known whole. Helpers for arguments that came in: numbers' bounds, the shapes of slices and pointers, cells of an element. More about memory: putting a world behind a name with what is known of it. Regions that draw their order and hold both operations that only read and a chain of operations that write or make memory: one walk in the order of the text serves every order. Slices of the call's own: the block is known whole; append, stores into elements. An empty slice literal. Steps of the walk for structs that are kept whole: loads, stores, comparisons; facts carried over new blocks. Regions that draw their order, op by op; and the pattern append(append([]T{}, xs...), y), whose two literals may be made in either order. A region that draws its order whose operations fall in two parts, one operation between them: each part with a class of worlds of its own. A region that draws its order with two stores ('a, b = x, y'): its first two operations are moves, and the second one need not come ahead of the first store. A store of a whole struct into a variable that is known whole, in a region that draws its order. A store of a struct into a part of a block that is known whole. -/
import Derived.Test.YtgjabgneapdbiaaRows
import Derived.WalkKit
import Derived.WalkSpells
import Derived.WalkLawsBesides
import Derived.Deep.QuietTactic
import Derived.BigQuiet
import Derived.StillTailTactics
import Derived.RowKit3
import Derived.ProofKit
import Derived.Deep.Slices
import Derived.OpenShut
import Derived.Deep.Quiet
import Derived.Laws.StructEq
namespace Go.Proofs.Ytgjabgneapdbiaa
open Go.RowKit

theorem hide {p : Prop} (h : p) : Hid p := h

/-- From w to w' only the blocks in S, and new ones, may differ. -/
structure Fr (S : Nat → Prop) (w w' : World) : Prop where
  os : w'.os = w.os
  tape : w'.tape = w.tape
  output : w'.output = w.output
  size : w.heap.size ≤ w'.heap.size
  same : ∀ b, b < w.heap.size → ¬ S b → w'.heap[b]? = w.heap[b]?

def noB : Nat → Prop := fun _ => False
def oneB (g : Nat) : Nat → Prop := fun b => b = g

theorem Fr.refl (S : Nat → Prop) (w : World) : Fr S w w := ⟨rfl, rfl, rfl, Nat.le_refl _, fun _ _ _ => rfl⟩
theorem Fr.trans {S T U : Nat → Prop} {a b c : World} (h : Fr S a b) (k : Fr T b c) (hs : ∀ x, x < a.heap.size → S x → U x) (ht : ∀ x, x < a.heap.size → T x → U x) : Fr U a c :=
  ⟨k.os.trans h.os, k.tape.trans h.tape, k.output.trans h.output, Nat.le_trans h.size k.size,
   fun x hx hn => (k.same x (Nat.lt_of_lt_of_le hx h.size) (fun c => hn (ht x hx c))).trans (h.same x hx (fun c => hn (hs x hx c)))⟩
theorem Fr.tr {S : Nat → Prop} {a b c : World} (h : Fr S a b) (k : Fr S b c) : Fr S a c := h.trans k (fun _ _ h => h) (fun _ _ h => h)
theorem Fr.mono {S T : Nat → Prop} {a b : World} (h : Fr S a b) (hs : ∀ x, x < a.heap.size → S x → T x) : Fr T a b :=
  ⟨h.os, h.tape, h.output, h.size, fun x hx hn => h.same x hx (fun c => hn (hs x hx c))⟩
theorem Fr.drew {S : Nat → Prop} {a b : World} (h : Fr S a b) : Fr S a b.drew := ⟨h.os, h.tape, h.output, h.size, h.same⟩
theorem Fr.drewN {S : Nat → Prop} {a b : World} (h : Fr S a b) (n : Nat) : Fr S a (b.drewN n) := ⟨h.os, h.tape, h.output, h.size, h.same⟩
theorem Fr.alloc {S : Nat → Prop} {a b : World} (h : Fr S a b) (o : Obj) : Fr S a (b.alloc o) :=
  ⟨h.os, h.tape, h.output, Nat.le_trans h.size (by simp), fun x hx hn => (Below.heap_alloc b o x (Nat.lt_of_lt_of_le hx h.size)).trans (h.same x hx hn)⟩
theorem Fr.setCell {S : Nat → Prop} {a b : World} (h : Fr S a b) {p : Addr} (hp : a.heap.size ≤ p.block ∨ S p.block) (u : Value) : Fr S a (b.setCell p u) :=
  ⟨h.os, h.tape, h.output, by simpa using h.size, fun x hx hn => (Below.heap_setCell b p u x (by
    rintro rfl
    rcases hp with hp | hp
    · omega
    · exact hn hp)).trans (h.same x hx hn)⟩
theorem Fr.below {w w' : World} (h : Fr noB w w') : Below w.heap.size w w' :=
  ⟨h.os, h.tape, h.output, h.size, fun k hk => h.same k hk (fun c => c)⟩
theorem Fr.of_below {w w' : World} (h : Below w.heap.size w w') (S : Nat → Prop) : Fr S w w' :=
  ⟨h.os, h.tape, h.output, h.size, fun k hk _ => h.block k hk⟩
theorem Fr.lt {S : Nat → Prop} {w w' : World} (h : Fr S w w') {g : Nat} (hg : g < w.heap.size) : g < w'.heap.size := Nat.lt_of_lt_of_le hg h.size

/-- A block is known whole. -/
def Blk (w : World) (g : Nat) (cs : Array Value) (t : TypeId) : Prop := w.heap[g]? = some (.cells cs t (0, 0))

theorem Blk.lt {w : World} {g : Nat} {cs : Array Value} {t : TypeId} (h : Blk w g cs t) : g < w.heap.size := (Array.getElem?_eq_some_iff.1 h).1
theorem Blk.cell {w : World} {g : Nat} {cs : Array Value} {t : TypeId} (h : Blk w g cs t) (i : Nat) : w.cell? ⟨g, i, none⟩ = cs[i]? := by
  unfold Blk at h; simp [World.cell?, h]
theorem Blk.free {w : World} {g : Nat} {cs : Array Value} {t : TypeId} (h : Blk w g cs t) (i : Nat) : w.frozen? ⟨g, i, none⟩ = false := by
  unfold Blk at h; simp [World.frozen?, h]
theorem Blk.shape {w : World} {g : Nat} {cs : Array Value} {t : TypeId} (h : Blk w g cs t) : w.shape? g = some (t, cs.size) := by
  unfold Blk at h; simp [World.shape?, h]
theorem Blk.fr {w w' : World} {g : Nat} {cs : Array Value} {t : TypeId} (h : Blk w g cs t) {S : Nat → Prop} (f : Fr S w w') (hs : ¬ S g) : Blk w' g cs t := by
  have hl := h.lt
  unfold Blk at *; rw [f.same g hl hs]; exact h
theorem Blk.drew {w : World} {g : Nat} {cs : Array Value} {t : TypeId} (h : Blk w g cs t) : Blk w.drew g cs t := h
theorem Blk.alloc_new (w : World) (cs : Array Value) (t : TypeId) : Blk (w.alloc (.cells cs t)) w.heap.size cs t := by
  unfold Blk; simp [← World.alloc_eq]
theorem Blk.set {w : World} {g : Nat} {cs : Array Value} {t : TypeId} (h : Blk w g cs t) (i : Nat) (v : Value) : Blk (w.setCell ⟨g, i, none⟩ v) g (cs.setIfInBounds i v) t := by
  unfold Blk at *; simp [World.setCell, Array.getElem?_modify, h]

theorem region_tail {P : Program} {id : Nat} {Q : Exit → Act → World → Prop} {a : Act} {w : World} {l : List Oper} (n : Nat) (hm : P.follows .mixedOrders = true) (hB : Region.lexTailB .any l.toArray n = true)
    (h : wpStill P l.toArray w.drew (fun a' => wpList P l.toArray Q (l.drop n) a' w.drew) (l.take n) a) : (Code.region id l.toArray true).wp P Q a w := wp_region_still_tail n hm hB h

theorem Fr.cell {S : Nat → Prop} {w w' : World} (h : Fr S w w') {b o : Nat} (hb : b < w.heap.size) (hs : ¬ S b) : w'.cell? ⟨b, o, none⟩ = w.cell? ⟨b, o, none⟩ :=
  World.cell?_of_block (w := w) (h.same b hb hs)

theorem spot_of_cell {w : World} {a : Addr} {v : Value} (h : w.cell? a = some v) : a = ⟨a.block, a.off, none⟩ := by
  obtain ⟨b, o, s⟩ := a
  cases s with
  | none => rfl
  | some t =>
    exfalso
    unfold World.cell? at h
    split at h <;> simp at h
theorem block_of_cell {w : World} {a : Addr} {v : Value} (h : w.cell? a = some v) : a.block < w.heap.size := World.block_lt_of_cell? _ _ h

/-- A world in which nothing that was there has changed. -/
structure Grow (w : World) where
  v : World
  fr : Fr noB w v

theorem Grow.blk {w : World} {g : Nat} {cs : Array Value} {t : TypeId} (h : Blk w g cs t) (z : Grow w) (j : Nat) : z.v.cell? ⟨g, j, none⟩ = cs[j]? := (h.fr z.fr (fun h => h)).cell j
theorem Grow.cell {w : World} {b o : Nat} {v : Value} (h : w.cell? ⟨b, o, none⟩ = some v) (z : Grow w) : z.v.cell? ⟨b, o, none⟩ = some v := (z.fr.cell (World.block_lt_of_cell? _ _ h) (fun h => h)).trans h

/-- A region that draws its order, whose operations only read, and whose callees change nothing that was there: one walk in the order of the text. -/
theorem wp_region_grow {P : Program} {id : Nat} {Q : Exit → Act → World → Prop} {a : Act} {w : World} {l : List Oper} (hm : P.follows .mixedOrders = true) (hB : Region.lexB .any l.toArray = true)
    (h : wpQuiet P l.toArray (fun w' => ∃ z : Grow w, w' = z.v) (fun a' => ∀ w', (∃ z : Grow w, w' = z.v) → Q .normal a' w') l a) : (Code.region id l.toArray true).wp P Q a w :=
  wp_region_quiet (C := fun w' => ∃ z : Grow w, w' = z.v) hm hB ⟨⟨w.drew, (Fr.refl _ _).drew⟩, rfl⟩ (by simpa using h)

theorem grow_call {P : Program} {f : FuncId} {args : Array Value} {w : World} {v : Value} (z : Grow w) (h : Calls P f args z.v fun e w' => e = .returned v ∧ Fr noB z.v w') :
    Calls P f args z.v fun e w'' => e = .returned v ∧ ∃ z : Grow w, w'' = z.v :=
  h.mono fun _ w' ⟨he, hf⟩ => ⟨he, ⟨w', z.fr.tr hf⟩, rfl⟩

theorem ret_int {k : IntKind} {a b : Int} (h : a = b) : Ending.returned (.int k a) = .returned (.int k b) := by rw [h]
theorem ret_bool {a b : Bool} (h : a = b) : Ending.returned (.bool a) = .returned (.bool b) := by rw [h]

theorem run_max_int (P : Program) (k : IntKind) (ats : Array TypeId) (ty : TypeId) (x y : Int) (w : World) : (Builtin.max_ ats ty #[.int k x, .int k y]).run P w = .ok (.int k (max x y)) w := by
  have e : (if y > x then y else x) = max x y := by
    by_cases h : y > x
    · rw [if_pos h]; omega
    · rw [if_neg h]; omega
  simp [Builtin.max_, Builtin.max2, e]
theorem run_min_int (P : Program) (k : IntKind) (ats : Array TypeId) (ty : TypeId) (x y : Int) (w : World) : (Builtin.min_ ats ty #[.int k x, .int k y]).run P w = .ok (.int k (min x y)) w := by
  have e : (if y < x then y else x) = min x y := by
    by_cases h : y < x
    · rw [if_pos h]; omega
    · rw [if_neg h]; omega
  simp [Builtin.min_, Builtin.min2, e]

end Go.Proofs.Ytgjabgneapdbiaa

namespace Go.Proofs.Ytgjabgneapdbiaa
open Go.ChangeShapes Go.WideShapes Go.Deep Go.RowKit

def i64b (n : Int) : Prop := -9223372036854775808 ≤ n ∧ n ≤ 9223372036854775807
theorem i64b_of {n : Int} (h : (Lit.int .i64 n).wf = true) : i64b n := Go.bounds_i64 h
theorem u32_of {n : Int} (h : (Lit.int .u32 n).wf = true) : ∃ m : Nat, n = (m : Int) ∧ m < 4294967296 := by
  have := Go.bounds_u32 h
  exact ⟨n.toNat, by omega, by omega⟩

/-- A slice's value. -/
structure SlV where
  a : Option Addr
  len : Nat
  cap : Nat
  deriving Inhabited

theorem slice_shape {P : Program} {H : Type} {enc : TypeId × Value → H} {w : World} {base : Nat} {spare : Nat → Bool} {held : Bool} {fuel : Nat} {t e : TypeId} {cs : List Value} {y : DataW H × List MemPlace}
    (ht : P.underlying t = some (.slice e)) (h : DataW.trod enc P w base spare held fuel t cs = some y) : ∃ x : SlV, cs = [.slice x.a x.len x.cap] := by
  rcases open_slice ht h with ⟨hcs, _⟩ | ⟨a, len, cap, _, _, _, _, hcs, _⟩
  · exact ⟨⟨none, 0, 0⟩, hcs⟩
  · exact ⟨⟨some a, len, cap⟩, hcs⟩
theorem ptr_shape {P : Program} {H : Type} {enc : TypeId × Value → H} {w : World} {base : Nat} {spare : Nat → Bool} {held : Bool} {fuel : Nat} {t e : TypeId} {cs : List Value} {y : DataW H × List MemPlace}
    (ht : P.underlying t = some (.pointer e)) (h : DataW.trod enc P w base spare held fuel t cs = some y) : ∃ x : Option Addr, cs = [.pointer x] := by
  rcases DataW.trod_pointer ht h with ⟨hcs, _⟩ | ⟨a, _, _, _, _, hcs, _⟩
  · exact ⟨none, hcs⟩
  · exact ⟨some a, hcs⟩

/-- The cells from an address on. -/
def CellsAt (w : World) (b o : Nat) (cs : List Value) : Prop := ∀ j v, cs[j]? = some v → w.cell? ⟨b, o + j, none⟩ = some v
theorem CellsAt.fr {S : Nat → Prop} {w w' : World} {b o : Nat} {cs : List Value} (h : CellsAt w b o cs) (f : Fr S w w') (hs : ¬ S b) : CellsAt w' b o cs := fun j v hj => by
  have hc := h j v hj
  rw [f.cell (block_of_cell hc) hs]
  exact hc
/-- A slice reads as a list: its elements' cells, and what else is known of each element. -/
def SlOf {α : Type} (w : World) (N : Nat) (cells : α → List Value) (ok : α → Prop) (s : SlV) (xs : List α) : Prop :=
  s.len = xs.length ∧ s.len ≤ maxLen ∧ (xs = [] ∨ ∃ b o, s.a = some ⟨b, o, none⟩ ∧ b < w.heap.size ∧ ∀ k x, xs[k]? = some x → CellsAt w b (o + k * N) (cells x) ∧ ok x)

theorem open_slof {α : Type} [Inhabited α] {P : Program} {H : Type} {enc : TypeId × Value → H} {w : World} {base : Nat} {held : Bool} {fuel : Nat} {t e : TypeId} {cs : List Value} {y : DataW H × List MemPlace} {spare : Nat → Bool}
    (N : Nat) (cells : α → List Value) (ok : α → Prop) (ht : P.underlying t = some (.slice e)) (hc : P.cellsOf e = N) (hN : 0 < N)
    (hel : ∀ fuel cs y, DataW.trod enc P w base spare held fuel e cs = some y → ∃ x, cs = cells x ∧ ok x)
    (h : DataW.trod enc P w base spare held fuel t cs = some y) : ∃ (s : SlV) (xs : List α), cs = [.slice s.a s.len s.cap] ∧ SlOf w N cells ok s xs := by
  rcases open_slice ht h with ⟨hcs, _⟩ | ⟨a, len, cap, m, n, D, Pl, hcs, _, hl, hm, hmm, hx, hi⟩
  · exact ⟨⟨none, 0, 0⟩, [], hcs, ⟨rfl, Nat.zero_le _, .inl rfl⟩⟩
  · have hlm : len ≤ m := by rw [hmm]; split <;> omega
    have hex : ∀ i, i < len → ∃ x, (∀ j v, (cells x)[j]? = some v → w.cell? ((a.add (i * N)).add j) = some v) ∧ (cells x).length = N ∧ ok x := fun i hil => by
      obtain ⟨cs', h1, h2⟩ := hi i (by omega)
      rw [hc] at h1
      obtain ⟨_, hlen, hat⟩ := World.cells?_some h1
      obtain ⟨x, rfl, ho⟩ := hel _ _ _ h2
      refine ⟨x, fun j v hj => ?_, hlen, ho⟩
      have hjl : j < N := by rw [← hlen]; exact (List.getElem?_eq_some_iff.1 hj).1
      rw [hat j hjl, hj]
    obtain ⟨f, hf⟩ := choose_lt hex
    refine ⟨⟨some a, len, cap⟩, (List.range len).map f, hcs, ⟨by simp, Nat.le_trans hl hm, ?_⟩⟩
    by_cases h0 : len = 0
    · left; simp [h0]
    · right
      obtain ⟨g1, g2, _⟩ := hf 0 (by omega)
      have hv : (cells (f 0))[0]? = some ((cells (f 0))[0]'(by omega)) := List.getElem?_eq_getElem (by omega)
      have hc0 := g1 0 _ hv
      rw [Nat.zero_mul, Addr.add_zero', Addr.add_zero'] at hc0
      have ea := spot_of_cell hc0
      refine ⟨a.block, a.off, by rw [← ea], block_of_cell hc0, fun k x hk => ?_⟩
      rw [List.getElem?_map] at hk
      have hkl : k < len := by
        rcases Nat.lt_or_ge k len with h | h
        · exact h
        · rw [List.getElem?_eq_none (by simpa using h)] at hk; simp at hk
      rw [List.getElem?_range hkl] at hk
      simp only [Option.map_some, Option.some.injEq] at hk
      subst hk
      obtain ⟨g1, _, g3⟩ := hf k hkl
      refine ⟨fun j v hj => ?_, g3⟩
      have := g1 j v hj
      rw [ea, Addr.add_lit, Addr.add_lit] at this
      exact this

theorem SlOf.fr {α : Type} {S : Nat → Prop} {w w' : World} {N : Nat} {cells : α → List Value} {ok ok' : α → Prop} {s : SlV} {xs : List α} (h : SlOf w N cells ok s xs) (f : Fr S w w') (hs : ∀ b, b < w.heap.size → ¬ S b) (hok : ∀ x, ok x → ok' x) : SlOf w' N cells ok' s xs := by
  obtain ⟨h1, h3, h2⟩ := h
  refine ⟨h1, h3, ?_⟩
  rcases h2 with h2 | ⟨b, o, e, hb, hk⟩
  · exact .inl h2
  · exact .inr ⟨b, o, e, f.lt hb, fun k x hx => ⟨(hk k x hx).1.fr f (hs b hb), hok _ (hk k x hx).2⟩⟩
theorem SlOf.at {α : Type} {w : World} {N : Nat} {cells : α → List Value} {ok : α → Prop} {s : SlV} {xs : List α} (h : SlOf w N cells ok s xs) {k : Nat} {x : α} (hx : xs[k]? = some x) :
    ∃ b o, s.a = some ⟨b, o, none⟩ ∧ b < w.heap.size ∧ CellsAt w b (o + k * N) (cells x) ∧ ok x := by
  obtain ⟨_, _, h2⟩ := h
  rcases h2 with h2 | ⟨b, o, e, hb, hk⟩
  · subst h2; simp at hx
  · exact ⟨b, o, e, hb, hk k x hx⟩

theorem cells2 {w : World} {b o : Nat} {v0 v1 : Value} (h : CellsAt w b o [v0, v1]) : w.cell? ⟨b, o, none⟩ = some v0 ∧ w.cell? ⟨b, o + 1, none⟩ = some v1 := ⟨h 0 _ rfl, h 1 _ rfl⟩

/-! ### Structs as wholes in memory -/
theorem run_loadVar_at {P : Program} (w : World) (ty : TypeId) (b off : Nat) (cs : List Value) (hc : CellsAt w b off cs) (d : TypeDesc)
    (hu : P.underlying ty = some d) (hd : (match d with | .struct _ | .array _ _ => true | _ => false) = true) (hi : (P.info? ty).map (·.size) = some cs.length) :
    (loadVar ty ⟨b, off, none⟩).run P w = .ok (.agg cs.toArray) w := by
  have hl := run_loadCells_list (P := P) w ⟨b, off, none⟩ cs (fun j v hv => by rw [Addr.add_lit]; exact hc j v hv)
  cases hq : P.info? ty with
  | none => simp [hq] at hi
  | some i =>
    have hs : i.size = cs.length := by simpa [hq] using hi
    have hagg : (isAgg ty).run P w = .ok true w := by
      unfold isAgg
      rw [Sem.run_bind, run_underlying hu w]
      cases d <;> simp_all
    simp [loadVar, Sem.run_bind, hagg, sizeOf, typeInfo, hq, hs, hl]

theorem wpList_load_at {P : Program} {ops : Array Oper} {rest : List Oper} {o : Oper} {a : Act} {w : World} {Q : Exit → Act → World → Prop} (hgd : o.guard = none) (ty : TypeId) (x : Operand) (ho : o.op = .load ty x)
    (b off : Nat) (hx : a.eval x = .pointer (some ⟨b, off, none⟩)) (cs : List Value) (hc : CellsAt w b off cs) (d : TypeDesc)
    (hu : P.underlying ty = some d) (hd : (match d with | .struct _ | .array _ _ => true | _ => false) = true) (hi : (P.info? ty).map (·.size) = some cs.length)
    (h : wpList P ops Q rest (a.put o.dst (.agg cs.toArray)) w) : wpList P ops Q (o :: rest) a w :=
  wpList_plain hgd fun _ hK => by
    unfold Oper.wp execOp
    simp only [ho, hx, Instr.loadAt, Instr.sureAddr, Sem.run_bind, Sem.run_pure, Result.andThen_ok, run_loadVar_at w ty b off cs hc d hu hd hi]
    exact hK _ _ h

theorem Blk.cells {w : World} {g : Nat} {cs : List Value} {t : TypeId} (h : Blk w g cs.toArray t) : CellsAt w g 0 cs := fun j v hj => by
  rw [Nat.zero_add, h.cell j]; simpa using hj
theorem Blk.setRow {w : World} {g : Nat} {cs cs' : Array Value} {t : TypeId} (h : Blk w g cs t) : Blk (w.setRow g cs') g cs' t := setRow_heap w g cs cs' t (0, 0) h
theorem Fr.setRow {S : Nat → Prop} {a b : World} (h : Fr S a b) {g : Nat} (hg : a.heap.size ≤ g ∨ S g) (cs : Array Value) : Fr S a (b.setRow g cs) :=
  ⟨h.os, h.tape, h.output, by rw [size_setRow]; exact h.size, fun x hx hn => by
    have hne : x ≠ g := by
      rintro rfl
      rcases hg with hg | hg
      · omega
      · exact hn hg
    rw [setRow_other b g x cs hne]
    exact h.same x hx hn⟩
end Go.Proofs.Ytgjabgneapdbiaa

namespace Go.Proofs.Ytgjabgneapdbiaa
open Go.RowKit

instance growNonempty (w : World) : Nonempty (Grow w) := ⟨⟨w, Fr.refl _ _⟩⟩

theorem wp_gen {P : Program} {c : Code} {Q : Exit → Act → World → Prop} {a : Act} {w : World} (Good : World → Prop) (hg : Good w) (h : ∀ w', Good w' → c.wp P Q a w') : c.wp P Q a w := h w hg
theorem wpList_gen {P : Program} {ops : Array Oper} {Q : Exit → Act → World → Prop} {l : List Oper} {a : Act} {w : World} (Good : World → Prop) (hg : Good w) (h : ∀ w', Good w' → wpList P ops Q l a w') : wpList P ops Q l a w := h w hg
theorem calls_gen {P : Program} {f : FuncId} {args : Array Value} {R : Ending → World → Prop} {w : World} (Good : World → Prop) (hg : Good w) (h : ∀ w', Good w' → Calls P f args w' R) : Calls P f args w R := h w hg

theorem wpQuiet_load_at {P : Program} {ops : Array Oper} {C : World → Prop} {Q : Act → Prop} {a : Act} {o : Oper} {rest : List Oper} (hgd : o.guard = none) (ty : TypeId) (x : Operand) (ho : o.op = .load ty x)
    (b off : Nat) (hx : a.eval x = .pointer (some ⟨b, off, none⟩)) (cs : List Value) (hc : ∀ w, C w → CellsAt w b off cs) (d : TypeDesc)
    (hu : P.underlying ty = some d) (hd : (match d with | .struct _ | .array _ _ => true | _ => false) = true) (hi : (P.info? ty).map (·.size) = some cs.length)
    (h : wpQuiet P ops C Q rest (a.put o.dst (.agg cs.toArray))) : wpQuiet P ops C Q (o :: rest) a := by
  unfold wpQuiet
  rw [if_pos (by simp [Region.wanted, hgd])]
  refine ⟨_, fun w hw => ?_, h⟩
  unfold Oper.quietAt execOp
  simp only [ho, hx, Instr.loadAt, Instr.sureAddr, Sem.run_bind, Sem.run_pure, Result.andThen_ok, run_loadVar_at w ty b off cs (hc w hw) d hu hd hi]
  exact ⟨rfl, rfl⟩

theorem wpList_build_as {P : Program} {ops : Array Oper} {rest : List Oper} {o : Oper} {a : Act} {w : World} {Q : Exit → Act → World → Prop} (hg : o.guard = none) (t : TypeId) (parts : Array (Nat × Operand)) (ho : o.op = .build t parts)
    (cs : Array Value) (hb : P.built t (parts.map fun (i, x) => (i, a.eval x)).toList = some cs) (h : wpList P ops Q rest (a.put o.dst (.agg cs)) w) : wpList P ops Q (o :: rest) a w :=
  wpList_build hg t parts ho (by rw [hb]; rfl) (by rw [hb]; exact h)

/-! ### Rows of elements of one size, laid end to end -/
theorem flat_get {α : Type} {N : Nat} {cells : α → List Value} (hN : ∀ x, (cells x).length = N) (junk : List Value) : ∀ (xs : List α) (k : Nat) (x : α) (j : Nat), xs[k]? = some x → j < N → (xs.flatMap cells ++ junk)[k * N + j]? = (cells x)[j]?
  | [], k, x, j, h, _ => by simp at h
  | y :: ys, 0, x, j, h, hj => by
    simp only [List.getElem?_cons_zero, Option.some.injEq] at h
    subst h
    rw [Nat.zero_mul, Nat.zero_add, List.flatMap_cons, List.append_assoc, List.getElem?_append_left (by rw [hN]; exact hj)]
  | y :: ys, k + 1, x, j, h, hj => by
    simp only [List.getElem?_cons_succ] at h
    rw [List.flatMap_cons, List.append_assoc, List.getElem?_append_right (by rw [hN, Nat.add_mul]; omega), hN, show (k + 1) * N + j - N = k * N + j by rw [Nat.add_mul]; omega]
    exact flat_get hN junk ys k x j h hj
theorem flat_length {α : Type} {N : Nat} {cells : α → List Value} (hN : ∀ x, (cells x).length = N) : ∀ (xs : List α), (xs.flatMap cells).length = xs.length * N
  | [] => by simp
  | y :: ys => by rw [List.flatMap_cons, List.length_append, hN, flat_length hN ys, List.length_cons, Nat.add_mul]; omega
/-- A slice over a block of the call's own. -/
theorem slof_blk {α : Type} {w : World} {N : Nat} {cells : α → List Value} {ok : α → Prop} {g : Nat} {t : TypeId} {xs : List α} {junk : List Value} (hN : ∀ x, (cells x).length = N) (h : Blk w g (xs.flatMap cells ++ junk).toArray t)
    (hok : ∀ x ∈ xs, ok x) (cap : Nat) (hm : xs.length ≤ maxLen) : SlOf w N cells ok ⟨some ⟨g, 0, none⟩, xs.length, cap⟩ xs := by
  refine ⟨rfl, hm, .inr ⟨g, 0, rfl, h.lt, fun k x hx => ⟨fun j v hv => ?_, hok x (List.mem_of_getElem? hx)⟩⟩⟩
  have hj : j < N := by rw [← hN x]; exact (List.getElem?_eq_some_iff.1 hv).1
  rw [Nat.zero_add, h.cell, List.getElem?_toArray, flat_get hN junk xs k x j hx hj, hv]
end Go.Proofs.Ytgjabgneapdbiaa

namespace Go.Proofs.Ytgjabgneapdbiaa
open Go.RowKit
set_option linter.unusedSimpArgs false
set_option linter.unusedVariables false

/-- Operations that leave memory alone: they may be taken first. -/
def calmOp : Op → Bool
  | .call c => match c.callee with | .builtin .len | .builtin .cap | .builtin .min | .builtin .max => true | _ => false
  | .move _ | .assign _ | .pick .. | .load .. | .nilCheck _ | .binOp .. | .unOp .. | .convert .. | .fieldAddr .. | .field .. | .indexAddr .. | .index .. | .slice .. | .extract .. | .build .. | .makeFunc .. | .lookup .. => true
  | _ => false

theorem run_v_enter {P : Program} {s : Sem Value} {W w' : World} {f : FuncId} {args : Array Value} (h : (do pure (Next.value (← s)) : Sem Next).run P W = .ok (.enter f args) w') : False := by
  rw [Sem.run_bind] at h
  generalize s.run P W = r at h
  cases r with
  | ok a w => simp [Result.andThen, Sem.run_pure] at h
  | halt x w => simp [Result.andThen] at h

theorem calm_no_enter {o : Oper} (hc : calmOp o.op = true) {ρ : Operand → Value} {P : Program} {W w' : World} {f : FuncId} {args : Array Value} (h : (execOp ρ o).run P W = .ok (.enter f args) w') : False := by
  obtain ⟨dst, op, type, pos, after, guard⟩ := o
  simp only at hc
  cases op <;> simp only [calmOp, Bool.false_eq_true] at hc <;> unfold execOp at h <;> simp only at h
  case move x => simp [Sem.run_pure] at h
  case assign x => simp [Sem.run_pure] at h
  case pick c a b =>
    rw [Sem.run_bind] at h
    generalize (asBool (ρ c)).run P W = r at h
    cases r with
    | ok a w => simp [Result.andThen, Sem.run_pure] at h
    | halt x w => simp [Result.andThen] at h
  case nilCheck x =>
    have hp : ∀ {f' : FuncId} {args' : Array Value} {w₁ : World}, (runtimePanic (α := Next) .nilDeref).run P W = .ok (.enter f' args') w₁ → False := fun h => by
      simp [runtimePanic, goPanic, Sem.run_bind, go_sem] at h
    split at h
    · exact hp h
    · exact hp h
    · exact hp h
    · split at h
      · exact hp h
      · rw [Sem.run_bind, run_program] at h
        simp only [Result.andThen_ok] at h
        rw [Sem.run_bind] at h
        generalize (nilAhead _ _ _ _).run P W = r at h
        cases r with
        | ok a w =>
          simp only [Result.andThen_ok] at h
          split at h <;> simp [Sem.run_bind, Sem.run_pure, unsupported, go_sem] at h
        | halt x w => simp [Result.andThen] at h
      · simp [Sem.run_pure] at h
    · simp [Sem.run_pure] at h
  case call c =>
    rw [Sem.run_bind] at h
    unfold resolve at h
    split at hc <;> simp only [*] at h <;> simp only [Sem.run_pure, Result.andThen_ok, invoke, builtin] at h
    all_goals first | exact run_v_enter h | simp at hc
  all_goals exact run_v_enter h

section
variable {P : Program} {ops : Array Oper} {md : Region.Mode} {S : World → Prop} {Q : Act → World → Prop} {D : Act → World → Prop} {L : Array Bool → Act → World → Prop}

def noQ : Exit → Act → World → Prop := fun _ _ _ => False

/-- One operation of the walk. -/
def mOper (P : Program) (S : World → Prop) (o : Oper) (a : Act) (w : World) (K : Act → World → Prop) : Prop :=
  if calmOp o.op then o.quiet P a S (fun a' => K a' w) else o.wp P a w (fun a' w' => a'.defers = a.defers ∧ S w' ∧ K a' w') noQ
def mOp (P : Program) (ops : Array Oper) (S : World → Prop) (i : Nat) (K : Act → World → Prop) (a : Act) (w : World) : Prop :=
  match ops[i]? with
  | none => K a w
  | some o => if Region.wanted o (yielded ops a.tmps) then mOper P S o a w K else K (a.put o.dst undef) w

/-- The walk in the order of the text. -/
def wpMix (P : Program) (ops : Array Oper) (S : World → Prop) (Q : Act → World → Prop) : List Oper → Act → World → Prop
  | [], a, w => Q a w
  | o :: rest, a, w => if Region.wanted o (yielded ops a.tmps) then mOper P S o a w (wpMix P ops S Q rest) else wpMix P ops S Q rest (a.put o.dst undef) w

/-- Whatever order is picked; D: what holds where all have come up, L: what holds behind so many operations. -/
def wpAnyG (P : Program) (md : Region.Mode) (ops : Array Oper) (S : World → Prop) (D : Act → World → Prop) (L : Array Bool → Act → World → Prop) : Nat → Array Bool → Act → World → Prop
  | 0, listed, a, w => L listed a w
  | fuel + 1, listed, a, w => (Region.ready md ops listed = [] → D a w) ∧ ∀ i ∈ Region.ready md ops listed, mOp P ops S i (wpAnyG P md ops S D L fuel (listed.setIfInBounds i true)) a w
/-- .. to the end. -/
abbrev wpAnyM (P : Program) (md : Region.Mode) (ops : Array Oper) (S : World → Prop) (Q : Act → World → Prop) : Nat → Array Bool → Act → World → Prop :=
  wpAnyG P md ops S Q (fun listed a w => Region.ready md ops listed = [] ∧ Q a w)
/-- Behind the last operation counted nothing else may come up. -/
def LastL (md : Region.Mode) (ops : Array Oper) (C : Array Bool → Prop) (L : Array Bool → Act → World → Prop) : Prop := ∀ listed i a w, C listed → i ∈ Region.ready md ops listed → L (listed.setIfInBounds i true) a w → ∀ j ∈ Region.ready md ops listed, j = i
def StepC (md : Region.Mode) (ops : Array Oper) (C : Array Bool → Prop) : Prop := ∀ listed j, C listed → j ∈ Region.ready md ops listed → C (listed.setIfInBounds j true)

theorem calm_same {o : Oper} (hc : calmOp o.op = true) {a : Act} {W : World} {v : Value} (h : o.quietAt P a S W v) :
    (execOp a.eval o).run P W = .ok (.value v) W ∨ ((execOp a.eval o).run P W = .ok .skip W ∧ v = undef) := by
  unfold Oper.quietAt at h
  generalize hr : (execOp a.eval o).run P W = r at h
  cases r with
  | ok n w' =>
    cases n <;> simp only [Oper.quietUpon] at h
    case value u => obtain ⟨rfl, rfl⟩ := h; exact .inl rfl
    case skip => obtain ⟨rfl, rfl⟩ := h; exact .inr ⟨rfl, rfl⟩
    case enter f args => exact (calm_no_enter hc hr).elim
  | halt x w' => simp only [Oper.quietUpon] at h

theorem mOper_mono {o : Oper} {a : Act} {w : World} {K K' : Act → World → Prop} (hw : S w) (h : ∀ a w, S w → K a w → K' a w) (hh : mOper P S o a w K) : mOper P S o a w K' := by
  unfold mOper at *
  split
  · rename_i hc
    rw [if_pos hc] at hh
    obtain ⟨v, h1, h2⟩ := hh
    exact ⟨v, h1, h _ _ hw h2⟩
  · rename_i hc
    rw [if_neg hc] at hh
    exact Oper.wp_mono (fun a' w' ⟨h1, h2, h3⟩ => ⟨h1, h2, h _ _ h2 h3⟩) hh
theorem mOp_mono {i : Nat} {a : Act} {w : World} {K K' : Act → World → Prop} (hw : S w) (h : ∀ a w, S w → K a w → K' a w) (hh : mOp P ops S i K a w) : mOp P ops S i K' a w := by
  unfold mOp at *
  split
  · rename_i ho; simp only [ho] at hh; exact h _ _ hw hh
  · rename_i o ho
    simp only [ho] at hh
    split
    · rename_i hwt; simp only [hwt, if_true] at hh; exact mOper_mono hw h hh
    · rename_i hwt; simp only [hwt] at hh; exact h _ _ hw hh

theorem Oper.wp_noQ {o : Oper} {a : Act} {w : World} {K : Act → World → Prop} {Q' : Exit → Act → World → Prop} (h : o.wp P a w K noQ) : o.wp P a w K Q' := by
  unfold Oper.wp at *
  generalize (execOp a.eval o).run P w = r at *
  cases r with
  | ok n w' =>
    cases n <;> simp only [Oper.upon] at h ⊢ <;>
      first
        | exact h
        | exact Calls.mono h (fun e w'' he => by
            cases e
            · exact he
            · exact (he : False).elim
            · exact (he : LetsOut noQ).elim (fun _ ⟨_, hq⟩ => (hq : False).elim))
  | halt x w' => cases x <;> simp only [Oper.upon] at h ⊢ <;> first | exact h | exact (h : False).elim

theorem wpOp_of_mOp {i : Nat} {a : Act} {K K' : Act → World → Prop} {Q' : Exit → Act → World → Prop} {w : World} (hw : S w) (h : ∀ a w, S w → K a w → K' a w) (hh : mOp P ops S i K a w) : wpOp P ops Q' i K' a w := by
  unfold mOp at hh
  unfold wpOp
  split
  · rename_i ho; simp only [ho] at hh; exact h _ _ hw hh
  · rename_i o ho
    simp only [ho] at hh
    split
    · rename_i hwt
      simp only [hwt, if_true] at hh
      left
      unfold mOper at hh
      split at hh
      · rename_i hc
        obtain ⟨v, h1, h2⟩ := hh
        unfold Oper.wp
        rcases calm_same hc (h1 w hw) with e | ⟨e, rfl⟩
        · rw [e]; exact h _ _ hw h2
        · rw [e]; exact h _ _ hw h2
      · exact Oper.wp_noQ (Oper.wp_mono (fun a' w' ⟨_, h2, h3⟩ => h _ _ h2 h3) hh)
    · rename_i hwt; simp only [hwt] at hh; exact h _ _ hw hh

theorem wpAny_of_mixG {m : Nat} {Q' : Exit → Act → World → Prop} (hD : ∀ a w, S w → D a w → Q' .normal a w) (hL : ∀ listed a w, S w → L listed a w → wpAny P md ops Q' m listed a w) : ∀ (fuel : Nat) (listed : Array Bool) (a : Act) (w : World), S w →
    wpAnyG P md ops S D L fuel listed a w → wpAny P md ops Q' (fuel + m) listed a w
  | 0, _, _, _, hw, h => by rw [Nat.zero_add]; exact hL _ _ _ hw h
  | fuel + 1, _, _, _, hw, h => by
    rw [show fuel + 1 + m = (fuel + m) + 1 by omega]
    exact ⟨fun h0 => hD _ _ hw (h.1 h0), fun i hi => wpOp_of_mOp hw (fun a' w' hw' => wpAny_of_mixG hD hL fuel _ a' w' hw') (h.2 i hi)⟩
theorem wpAny_of_mix {Q' : Exit → Act → World → Prop} (hQ : ∀ a w, S w → Q a w → Q' .normal a w) (fuel : Nat) (listed : Array Bool) (a : Act) (w : World) (hw : S w)
    (h : wpAnyM P md ops S Q fuel listed a w) : wpAny P md ops Q' fuel listed a w :=
  wpAny_of_mixG (m := 0) hQ (fun _ _ _ hw h => ⟨h.1, hQ _ _ hw h.2⟩) fuel listed a w hw h

/-- A calm operation's value, whatever the world of the class; or an operation that is passed over. -/
def YieldsM (P : Program) (ops : Array Oper) (S : World → Prop) (o : Oper) (v : Value) (a : Act) : Prop :=
  (Region.wanted o (yielded ops a.tmps) = true ∧ calmOp o.op = true ∧ ∀ w, S w → o.quietAt P a S w v) ∨ (Region.wanted o (yielded ops a.tmps) = false ∧ v = undef)
theorem YieldsM.mOp {i : Nat} {o : Oper} {v : Value} {a : Act} {w : World} (hi : ops[i]? = some o) (hy : YieldsM P ops S o v a) {K : Act → World → Prop} (h : K (a.put o.dst v) w) : mOp P ops S i K a w := by
  unfold Go.Proofs.Ytgjabgneapdbiaa.mOp
  simp only [hi]
  rcases hy with ⟨hw, hc, hv⟩ | ⟨hw, rfl⟩
  · simp only [hw, if_true, mOper, hc]; exact ⟨v, hv, h⟩
  · simp only [hw, Bool.false_eq_true, if_false]; exact h
theorem YieldsM.of_same {o : Oper} {v : Value} {a a' : Act} (hy : YieldsM P ops S o v a) (he : execOp a'.eval o = execOp a.eval o)
    (hw : Region.wanted o (yielded ops a'.tmps) = Region.wanted o (yielded ops a.tmps)) : YieldsM P ops S o v a' := by
  unfold YieldsM Oper.quietAt at *
  rw [he, hw]
  exact hy

theorem wp_put {oj : Oper} {a : Act} {w : World} {x : Option Tmp} {v : Value} (hsj : ∀ cs b, oj.op ≠ .select cs b) (h1 : ∀ d, x = some d → d ∉ oj.looksAt ops) (h2 : ∀ d, x = some d → oj.dst ≠ some d)
    {K K' : Act → World → Prop} (hd : ∀ a' w', K a' w' → a'.defers = a.defers) (hK : ∀ u w', K ((a.put x v).put oj.dst u) w' → K' (a.put oj.dst u) w') (h : oj.wp P (a.put x v) w K noQ) : oj.wp P a w K' noQ := by
  unfold Oper.wp at *
  rw [execOp_put oj hsj a x v h1] at h
  generalize (execOp a.eval oj).run P w = r at *
  have hne : ∀ (d : Deferred) (b : Act), ({ b with defers := d :: b.defers } : Act).defers ≠ b.defers := fun d b e => by
    have := congrArg List.length e
    simp at this
  cases r with
  | ok n w' =>
    cases n <;> simp only [Oper.upon] at h ⊢
    case value u => exact hK _ _ h
    case skip => exact hK _ _ h
    case defer d =>
      exfalso
      have hp : ∀ (b : Act) (y : Option Tmp) (u : Value), (b.put y u).defers = b.defers := fun b y u => by cases y <;> rfl
      have e := hd _ _ h
      rw [hp] at e
      have e2 : (a.put x v).defers = a.defers := hp _ _ _
      have := congrArg List.length e
      rw [← e2] at this
      simp at this
    case enter f args =>
      refine Calls.mono h fun e w'' he => ?_
      cases e with
      | returned u => exact hK _ _ he
      | panicked c => exact he
      | outgrown => exact he
    case row row args => exact Rows.mono h fun u w'' he => hK _ _ he
  | halt x w' => cases x <;> simp only [Oper.upon] at h ⊢ <;> exact h

theorem wp_put' {oj : Oper} {a : Act} {w : World} {x : Option Tmp} {v : Value} (hsj : ∀ cs b, oj.op ≠ .select cs b) (h1 : ∀ d, x = some d → d ∉ oj.looksAt ops)
    {K K' : Act → World → Prop} (hd : ∀ a' w', K a' w' → a'.defers = a.defers) (hK : ∀ u w', K (a.put oj.dst u) w' → K' ((a.put x v).put oj.dst u) w') (h : oj.wp P a w K noQ) : oj.wp P (a.put x v) w K' noQ := by
  unfold Oper.wp at *
  rw [execOp_put oj hsj a x v h1]
  generalize (execOp a.eval oj).run P w = r at *
  cases r with
  | ok n w' =>
    cases n <;> simp only [Oper.upon] at h ⊢
    case value u => exact hK _ _ h
    case skip => exact hK _ _ h
    case defer d =>
      exfalso
      have hp : ∀ (b : Act) (y : Option Tmp) (u : Value), (b.put y u).defers = b.defers := fun b y u => by cases y <;> rfl
      have e := hd _ _ h
      rw [hp] at e
      have := congrArg List.length e
      simp at this
    case enter f args =>
      refine Calls.mono h fun e w'' he => ?_
      cases e with
      | returned u => exact hK _ _ he
      | panicked c => exact he
      | outgrown => exact he
    case row row args => exact Rows.mono h fun u w'' he => hK _ _ he
  | halt x w' => cases x <;> simp only [Oper.upon] at h ⊢ <;> exact h

theorem mOp_put {j : Nat} {oi oj : Oper} {v : Value} (hj : ops[j]? = some oj) (hap : oi.apart ops oj = true) (hsi : ∀ cs b, oi.op ≠ .select cs b) (hsj : ∀ cs b, oj.op ≠ .select cs b)
    {K : Act → World → Prop} {a : Act} {w : World} (hy : YieldsM P ops S oi v a) (h : mOp P ops S j K (a.put oi.dst v) w) :
    mOp P ops S j (fun a' w' => YieldsM P ops S oi v a' ∧ K (a'.put oi.dst v) w') a w := by
  obtain ⟨h1, h2, h3⟩ := Oper.apart_spec hap
  have keep : ∀ (a : Act), YieldsM P ops S oi v a → ∀ u, YieldsM P ops S oi v (a.put oj.dst u) := fun a hy u =>
    hy.of_same (execOp_put oi hsi a oj.dst u h3) (wanted_put oi a oj.dst u h3)
  have hp : ∀ (b : Act) (y : Option Tmp) (u : Value), (b.put y u).defers = b.defers := fun b y u => by cases y <;> rfl
  unfold mOp at *
  simp only [hj] at *
  rw [wanted_put oj a oi.dst v h1] at h
  split
  · rename_i hw
    simp only [hw, if_true] at h
    unfold mOper at *
    split
    · rename_i hc
      rw [if_pos hc] at h
      obtain ⟨u, hu, hn⟩ := h
      refine ⟨u, fun w hw' => ?_, keep a hy u, by rw [← Act.put_comm a v u h2]; exact hn⟩
      have := hu w hw'
      unfold Oper.quietAt at *
      rwa [execOp_put oj hsj a oi.dst v h1] at this
    · rename_i hc
      rw [if_neg hc] at h
      refine wp_put hsj h1 h2 (fun a' w' hh => by rw [hh.1, hp]) (fun u w' hh => ?_) h
      refine ⟨hp _ _ _, hh.2.1, keep a hy u, ?_⟩
      rw [← Act.put_comm a v u h2]
      exact hh.2.2
  · rename_i hw
    simp only [hw] at h
    exact ⟨keep a hy _, by rw [← Act.put_comm a v undef h2]; exact h⟩

/-- A calm operation, or one that is passed over, may be taken first. -/
theorem wpAnyG_first {C : Array Bool → Prop} (hC : StepC md ops C) (hL : LastL md ops C L) {i : Nat} {oi : Oper} {v : Value} (hi : ops[i]? = some oi) (hsel : ∀ (j : Nat) (o : Oper) cs b, ops[j]? = some o → o.op ≠ .select cs b) :
    ∀ (fuel : Nat) (listed : Array Bool) (a : Act) (w : World), S w → C listed →
      (∀ j oj, ops[j]? = some oj → j ≠ i → listed.getD j true = false → (∀ e ∈ oj.after, Region.binds md e = true → e.on ≠ i) → oi.apart ops oj = true) →
      i ∈ Region.ready md ops listed → YieldsM P ops S oi v a →
      wpAnyG P md ops S D L fuel (listed.setIfInBounds i true) (a.put oi.dst v) w → wpAnyG P md ops S D L (fuel + 1) listed a w := by
  intro fuel
  induction fuel with
  | zero =>
    intro listed a w hS hc _ hr hy H
    refine ⟨fun h => (by rw [h] at hr; cases hr), fun j hj => ?_⟩
    by_cases hji : j = i
    · subst hji; exact hy.mOp hi H
    · exact absurd (hL _ _ _ _ hc hr H j hj) hji
  | succ fuel ih =>
    intro listed a w hS hc hfree hr hy H
    refine ⟨fun h => (by rw [h] at hr; cases hr), fun j hj => ?_⟩
    by_cases hji : j = i
    · subst hji; exact hy.mOp hi H
    · have h1 := H.2 j (ready_mono hj hji)
      obtain ⟨hjun, oj, hoj, hall⟩ := mem_ready.1 hj
      have hnot : ∀ e ∈ oj.after, Region.binds md e = true → e.on ≠ i := fun e he hb heq => by
        have h1 := hall e he hb
        have h0 := (mem_ready.1 hr).1
        rw [heq] at h1
        rcases Nat.lt_or_ge i listed.size with h' | h'
        · simp [h'] at h0 h1; rw [h0] at h1; cases h1
        · simp [Array.getElem?_eq_none h'] at h1
      have h2 := mOp_put hoj (hfree j oj hoj hji hjun hnot) (fun cs b => hsel i oi cs b hi) (fun cs b => hsel j oj cs b hoj) hy h1
      have hfree' : ∀ k ok, ops[k]? = some ok → k ≠ i → (listed.setIfInBounds j true).getD k true = false →
          (∀ e ∈ ok.after, Region.binds md e = true → e.on ≠ i) → oi.apart ops ok = true := fun k ok hk hki hun hno => by
        refine hfree k ok hk hki ?_ hno
        by_cases hjk : j = k
        · subst hjk; exact hjun
        · rw [getD_set_ne true hjk] at hun; exact hun
      refine mOp_mono hS (fun a' w' hS' h3 => ih (listed.setIfInBounds j true) a' w' hS' (hC _ _ hc hj) hfree' (ready_mono hr (Ne.symm hji)) h3.1 ?_) h2
      rw [Array.setIfInBounds_comm _ _ hji]
      exact h3.2

/-- What an operation that is no calm one comes to: at least one outcome. -/
theorem wp_out {o : Oper} {a : Act} {w : World} {K : Act → World → Prop} (hd : ∀ a' w', K a' w' → a'.defers = a.defers) (h : o.wp P a w K noQ) : ∃ u w', K (a.put o.dst u) w' := by
  unfold Oper.wp at h
  generalize (execOp a.eval o).run P w = r at *
  cases r with
  | ok n w' =>
    cases n <;> simp only [Oper.upon] at h
    case value u => exact ⟨_, _, h⟩
    case skip => exact ⟨_, _, h⟩
    case defer d =>
      exfalso
      have hp : ∀ (b : Act) (y : Option Tmp) (u : Value), (b.put y u).defers = b.defers := fun b y u => by cases y <;> rfl
      have e := hd _ _ h
      rw [hp] at e
      have := congrArg List.length e
      simp at this
    case enter f args =>
      obtain ⟨e, w'', _, he, _⟩ := h []
      cases e with
      | returned u => exact ⟨_, _, he⟩
      | panicked c => exact (he : False).elim
      | outgrown => exact (he : LetsOut noQ).elim (fun _ ⟨_, hq⟩ => (hq : False).elim)
    case row row args =>
      obtain ⟨u, w'', he, _⟩ := h default []
      exact ⟨_, _, he⟩
  | halt x w' => cases x <;> simp only [Oper.upon] at h <;> exact (h : False).elim

theorem quiet_unique {o : Oper} {a : Act} {w : World} {v u : Value} (hc : calmOp o.op = true) (h1 : o.quietAt P a S w v) (h2 : o.quietAt P a S w u) : v = u := by
  rcases calm_same hc h1 with e1 | ⟨e1, rfl⟩ <;> rcases calm_same hc h2 with e2 | ⟨e2, rfl⟩
  · rw [e1] at e2; injection e2 with e; injection e
  · rw [e1] at e2; injection e2 with e; injection e
  · rw [e1] at e2; injection e2 with e; injection e
  · rfl

/-- Whatever has come up, what it waits for has come up, too. -/
def ClosedL (md : Region.Mode) (ops : Array Oper) (listed : Array Bool) : Prop := ∀ j oj, ops[j]? = some oj → listed.getD j false = true → ∀ e ∈ oj.after, Region.binds md e = true → listed.getD e.on false = true
theorem getD_both' {listed : Array Bool} {i : Nat} (h : listed.getD i true = false) : listed.getD i false = false := by
  rcases Nat.lt_or_ge i listed.size with h' | h'
  · simp [h'] at h ⊢; exact h
  · simp [Array.getElem?_eq_none h'] at h
theorem ClosedL.set {listed : Array Bool} {i : Nat} (h : ClosedL md ops listed) (hi : i ∈ Region.ready md ops listed) : ClosedL md ops (listed.setIfInBounds i true) := by
  obtain ⟨_, oi, hoi, hall⟩ := mem_ready.1 hi
  intro j oj hj hl e he hb
  by_cases hij : i = j
  · subst hij
    rw [hj] at hoi
    obtain rfl := Option.some.inj hoi
    exact getD_set_true (hall e he hb)
  · rw [getD_set_ne false hij] at hl
    exact getD_set_true (h j oj hj hl e he hb)

def blkStep (md : Region.Mode) (k : Nat) (acc : Array Bool) (o : Oper) : Array Bool := acc.push (o.after.any fun e => Region.binds md e && (e.on == k || acc.getD e.on false))
/-- Which operations wait for k, at once or through others. -/
def blkArr (md : Region.Mode) (ops : Array Oper) (k : Nat) : Array Bool := ops.toList.foldl (blkStep md k) #[]

theorem blk_fold {listed : Array Bool} {k : Nat} (hc : ClosedL md ops listed) (hk : listed.getD k false = false) : ∀ (l : List Oper) (acc : Array Bool), (∀ i, l[i]? = ops[acc.size + i]?) →
    (∀ j, acc.getD j false = true → j ∉ Region.ready md ops listed ∧ listed.getD j false = false) → ∀ j, (l.foldl (blkStep md k) acc).getD j false = true → j ∉ Region.ready md ops listed ∧ listed.getD j false = false
  | [], acc, _, h => h
  | o :: l, acc, hl, h => by
    rw [List.foldl_cons]
    have h0 : ops[acc.size]? = some o := by simpa using (hl 0).symm
    refine blk_fold hc hk l (blkStep md k acc o) (fun i => ?_) (fun j hj => ?_)
    · have := hl (i + 1)
      simp only [List.getElem?_cons_succ] at this
      rw [this, blkStep, Array.size_push, Nat.add_assoc, Nat.add_comm 1 i]
    · unfold blkStep at hj
      by_cases hjs : j = acc.size
      · subst hjs
        rw [Array.getD_eq_getD_getElem?, Array.getElem?_push_size] at hj
        simp only [Option.getD_some] at hj
        obtain ⟨e, he, hb⟩ := Array.any_eq_true'.1 hj
        simp only [Bool.and_eq_true, Bool.or_eq_true, beq_iff_eq] at hb
        have hu : listed.getD e.on false = false := by
          rcases hb.2 with h1 | h1
          · rw [h1]; exact hk
          · exact (h _ h1).2
        refine ⟨fun hr => ?_, ?_⟩
        · obtain ⟨_, o', ho', hall⟩ := mem_ready.1 hr
          rw [h0] at ho'
          obtain rfl := Option.some.inj ho'
          have := hall e he hb.1
          rw [hu] at this
          cases this
        · cases hx : listed.getD acc.size false with
          | false => rfl
          | true =>
            have := hc _ o h0 hx e he hb.1
            rw [hu] at this
            cases this
      · refine h j ?_
        rw [Array.getD_eq_getD_getElem?, Array.getElem?_push] at hj
        rw [if_neg hjs] at hj
        rw [Array.getD_eq_getD_getElem?]
        exact hj
theorem blk_ready {listed : Array Bool} {k j : Nat} (hc : ClosedL md ops listed) (hk : listed.getD k false = false) (h : (blkArr md ops k).getD j false = true) : j ∉ Region.ready md ops listed :=
  (blk_fold hc hk ops.toList #[] (fun i => by simp) (fun j hj => by simp at hj) j h).1

/-- An operation that writes or makes memory may be taken first, if whatever may come up with it is calm. -/
theorem wpAnyG_spine {C : Array Bool → Prop} (hC : StepC md ops C) (hL : LastL md ops C L) {k : Nat} {ok : Oper} (hk : ops[k]? = some ok) (hsel : ∀ (j : Nat) (o : Oper) cs b, ops[j]? = some o → o.op ≠ .select cs b) (hnc : calmOp ok.op = false) :
    ∀ (fuel : Nat) (listed : Array Bool) (a : Act) (w : World), S w → C listed →
      (∀ j oj, ops[j]? = some oj → j ≠ k → listed.getD j true = false → (∀ e ∈ oj.after, Region.binds md e = true → e.on ≠ k) → ok.apart ops oj = true) →
      ClosedL md ops listed → (∀ j oj, ops[j]? = some oj → j ≠ k → listed.getD j true = false → calmOp oj.op = true ∨ (blkArr md ops k).getD j false = true) →
      k ∈ Region.ready md ops listed → Region.wanted ok (yielded ops a.tmps) = true →
      ok.wp P a w (fun a' w' => a'.defers = a.defers ∧ S w' ∧ wpAnyG P md ops S D L fuel (listed.setIfInBounds k true) a' w') noQ → wpAnyG P md ops S D L (fuel + 1) listed a w := by
  have hp : ∀ (b : Act) (y : Option Tmp) (u : Value), (b.put y u).defers = b.defers := fun b y u => by cases y <;> rfl
  have here : ∀ (fuel : Nat) (listed : Array Bool) (a : Act) (w : World), Region.wanted ok (yielded ops a.tmps) = true →
      ok.wp P a w (fun a' w' => a'.defers = a.defers ∧ S w' ∧ wpAnyG P md ops S D L fuel (listed.setIfInBounds k true) a' w') noQ → mOp P ops S k (wpAnyG P md ops S D L fuel (listed.setIfInBounds k true)) a w := fun fuel listed a w hw H => by
    unfold mOp mOper
    simp only [hk, hw, if_true, hnc, Bool.false_eq_true, if_false]
    exact H
  intro fuel
  induction fuel with
  | zero =>
    intro listed a w hS hc _ _ _ hr hw H
    refine ⟨fun h => (by rw [h] at hr; cases hr), fun j hj => ?_⟩
    by_cases hjk : j = k
    · subst hjk; exact here 0 listed a w hw H
    · obtain ⟨u, w', _, _, h1⟩ := wp_out (fun a' w' hh => hh.1) H
      exact absurd (hL _ _ _ _ hc hr h1 j hj) hjk
  | succ fuel ih =>
    intro listed a w hS hc hfree hcl hspine hr hw H
    refine ⟨fun h => (by rw [h] at hr; cases hr), fun j hj => ?_⟩
    by_cases hjk : j = k
    · subst hjk; exact here (fuel + 1) listed a w hw H
    · obtain ⟨hjun, oj, hoj, hall⟩ := mem_ready.1 hj
      have hnot : ∀ e ∈ oj.after, Region.binds md e = true → e.on ≠ k := fun e he hb heq => by
        have h1 := hall e he hb
        have h0 := (mem_ready.1 hr).1
        rw [heq] at h1
        rcases Nat.lt_or_ge k listed.size with h' | h'
        · simp [h'] at h0 h1; rw [h0] at h1; cases h1
        · simp [Array.getElem?_eq_none h'] at h1
      have hap := hfree j oj hoj hjk hjun hnot
      obtain ⟨a1, a2, a3⟩ := Oper.apart_spec hap
      have a2' : ∀ d, oj.dst = some d → ok.dst ≠ some d := fun d hd he => a2 d he hd
      have hfree' : ∀ i oi, ops[i]? = some oi → i ≠ k → (listed.setIfInBounds j true).getD i true = false →
          (∀ e ∈ oi.after, Region.binds md e = true → e.on ≠ k) → ok.apart ops oi = true := fun i oi hi hik hun hno => by
        refine hfree i oi hi hik ?_ hno
        by_cases hji : j = i
        · subst hji; exact hjun
        · rw [getD_set_ne true hji] at hun; exact hun
      have hready' := ready_mono hr (Ne.symm hjk)
      -- what j comes to behind k
      have hj2 : ∀ (a' : Act) (w' : World), wpAnyG P md ops S D L (fuel + 1) (listed.setIfInBounds k true) a' w' → mOp P ops S j (wpAnyG P md ops S D L fuel ((listed.setIfInBounds k true).setIfInBounds j true)) a' w' :=
        fun a' w' h => h.2 j (ready_mono hj hjk)
      obtain ⟨u0, w0, hd0, hS0, h0⟩ := wp_out (fun a' w' hh => hh.1) H
      have m0 := hj2 _ _ h0
      have hwj : ∀ u, Region.wanted oj (yielded ops (a.put ok.dst u).tmps) = Region.wanted oj (yielded ops a.tmps) := fun u => wanted_put oj a ok.dst u a1
      have hej : ∀ u, execOp (a.put ok.dst u).eval oj = execOp a.eval oj := fun u => execOp_put oj (fun cs b => hsel j oj cs b hoj) a ok.dst u a1
      unfold mOp at m0
      simp only [hoj] at m0
      rw [hwj] at m0
      by_cases hwt : Region.wanted oj (yielded ops a.tmps) = true
      · rw [if_pos hwt] at m0
        have hcalm : calmOp oj.op = true := by
          rcases hspine j oj hoj hjk hjun with h | h
          · exact h
          · exact absurd hj (blk_ready hcl (getD_both' (mem_ready.1 hr).1) h)
        unfold mOper at m0
        rw [if_pos hcalm] at m0
        obtain ⟨v, hv, _⟩ := m0
        have hv' : ∀ W, S W → oj.quietAt P a S W v := fun W hW => by
          have := hv W hW
          unfold Oper.quietAt at *
          rwa [hej] at this
        have hspine' : ∀ i oi, ops[i]? = some oi → i ≠ k → (listed.setIfInBounds j true).getD i true = false → calmOp oi.op = true ∨ (blkArr md ops k).getD i false = true := fun i oi hi hik hun => by
          have hun' : listed.getD i true = false := by
            by_cases hji : j = i
            · subst hji; exact hjun
            · rw [getD_set_ne true hji] at hun; exact hun
          exact hspine i oi hi hik hun'
        unfold mOp mOper
        simp only [hoj, hwt, if_true, hcalm]
        refine ⟨v, hv', ih (listed.setIfInBounds j true) (a.put oj.dst v) w hS (hC _ _ hc hj) hfree' (hcl.set hj) hspine' hready' (by rw [wanted_put ok a oj.dst v a3]; exact hw) ?_⟩
        refine wp_put' (fun cs b => hsel k ok cs b hk) a3 (fun a' w' hh => hh.1) (fun u w' hh => ?_) H
        obtain ⟨_, hS', h'⟩ := hh
        have m := hj2 _ _ h'
        unfold mOp at m
        simp only [hoj] at m
        rw [hwj, if_pos hwt] at m
        unfold mOper at m
        rw [if_pos hcalm] at m
        obtain ⟨v', hv2, hn⟩ := m
        have hq : oj.quietAt P a S w' v' := by
          have := hv2 w' hS'
          unfold Oper.quietAt at *
          rwa [hej] at this
        have e := quiet_unique hcalm (hv' w' hS') hq
        subst e
        refine ⟨by rw [hp, hp], hS', ?_⟩
        rw [Act.put_comm a v u a2', Array.setIfInBounds_comm _ _ hjk]
        exact hn
      · have hwf : Region.wanted oj (yielded ops a.tmps) = false := by simpa using hwt
        have hspine' : ∀ i oi, ops[i]? = some oi → i ≠ k → (listed.setIfInBounds j true).getD i true = false → calmOp oi.op = true ∨ (blkArr md ops k).getD i false = true := fun i oi hi hik hun => by
          have hun' : listed.getD i true = false := by
            by_cases hji : j = i
            · subst hji; exact hjun
            · rw [getD_set_ne true hji] at hun; exact hun
          exact hspine i oi hi hik hun'
        unfold mOp
        simp only [hoj, hwf, Bool.false_eq_true, if_false]
        refine ih (listed.setIfInBounds j true) (a.put oj.dst undef) w hS (hC _ _ hc hj) hfree' (hcl.set hj) hspine' hready' (by rw [wanted_put ok a oj.dst undef a3]; exact hw) ?_
        refine wp_put' (fun cs b => hsel k ok cs b hk) a3 (fun a' w' hh => hh.1) (fun u w' hh => ?_) H
        obtain ⟨_, hS', h'⟩ := hh
        have m := hj2 _ _ h'
        unfold mOp at m
        simp only [hoj] at m
        rw [hwj, hwf] at m
        simp only [Bool.false_eq_true, if_false] at m
        refine ⟨by rw [hp, hp], hS', ?_⟩
        rw [Act.put_comm a undef u a2', Array.setIfInBounds_comm _ _ hjk]
        exact m

/-! ### The order of the text -/
def spineB (md : Region.Mode) (ops : Array Oper) (listed : Array Bool) (k : Nat) : Bool :=
  let blk := blkArr md ops k
  (List.range ops.size).all fun j => j == k || listed.getD j true || blk.getD j false || match ops[j]? with
    | some oj => calmOp oj.op
    | none => true
def mixFromG (md : Region.Mode) (ops : Array Oper) (base : Array Bool → Bool) : Nat → Nat → Array Bool → Bool
  | 0, _, listed => base listed
  | fuel + 1, k, listed => (Region.ready md ops listed).contains k && Region.free md ops listed k && (match ops[k]? with | some o => calmOp o.op || spineB md ops listed k | none => false) &&
      mixFromG md ops base fuel (k + 1) (listed.setIfInBounds k true)
def mixB (md : Region.Mode) (ops : Array Oper) : Bool := Region.noSelect ops && mixFromG md ops (fun listed => (Region.ready md ops listed).isEmpty) ops.size 0 (Array.replicate ops.size false)
/-- The last operation waits for each other one, at once or through others. -/
def lastB (md : Region.Mode) (ops : Array Oper) (n : Nat) : Bool := (List.range n).all (fun i => (blkArr md ops i).getD n false)
def mixTB (md : Region.Mode) (ops : Array Oper) (n : Nat) : Bool := Region.noSelect ops && decide (ops.size = n + 1) && lastB md ops n && mixFromG md ops (fun listed => Region.ready md ops listed == [n]) n 0 (Array.replicate ops.size false)

theorem spineB_spec {listed : Array Bool} {k : Nat} (h : spineB md ops listed k = true) (j : Nat) (oj : Oper) (hj : ops[j]? = some oj) (hne : j ≠ k) (hun : listed.getD j true = false) :
    calmOp oj.op = true ∨ (blkArr md ops k).getD j false = true := by
  simp only [spineB, List.all_eq_true, List.mem_range] at h
  have h1 := h j (Array.getElem?_eq_some_iff.1 hj).1
  simp only [hj, Bool.or_eq_true, beq_iff_eq, hne, false_or, hun, Bool.false_eq_true] at h1
  exact h1.symm

theorem wpAnyG_lex {C : Array Bool → Prop} (hC : StepC md ops C) (hL : LastL md ops C L) {base : Array Bool → Bool} (hb : ∀ listed a w, ClosedL md ops listed → base listed = true → Q a w → L listed a w) (hs : Region.noSelect ops = true) : ∀ (l : List Oper) (k : Nat) (listed : Array Bool) (a : Act) (w : World), S w → C listed → ClosedL md ops listed → (∀ j, j < l.length → l[j]? = ops[k + j]?) →
    mixFromG md ops base l.length k listed = true → wpMix P ops S Q l a w → wpAnyG P md ops S D L l.length listed a w
  | [], _, _, _, _, _, _, hcl, _, hB, h => hb _ _ _ hcl hB h
  | o :: l, k, listed, a, w, hS, hcC, hcl, hl, hB, h => by
    have h0 : ops[k]? = some o := by simpa using (hl 0 (by simp)).symm
    have hl' : ∀ j, j < l.length → l[j]? = ops[(k + 1) + j]? := fun j hj => by have := hl (j + 1) (by simp; omega); simpa [Nat.add_assoc, Nat.add_comm 1 j] using this
    simp only [List.length_cons, mixFromG, Bool.and_eq_true, h0] at hB
    obtain ⟨⟨⟨hr, hf⟩, hc⟩, hB'⟩ := hB
    have hr' : k ∈ Region.ready md ops listed := by simpa using hr
    unfold wpMix at h
    by_cases hw : Region.wanted o (yielded ops a.tmps) = true
    · rw [if_pos hw] at h
      unfold mOper at h
      by_cases hcalm : calmOp o.op = true
      · rw [if_pos hcalm] at h
        obtain ⟨v, hv, hn⟩ := h
        exact wpAnyG_first hC hL h0 (Region.noSelect_spec hs) l.length listed a w hS hcC (Region.free_spec h0 hf) hr' (.inl ⟨hw, hcalm, hv⟩) (wpAnyG_lex hC hL hb hs l (k + 1) _ _ w hS (hC _ _ hcC hr') (hcl.set hr') hl' hB' hn)
      · rw [if_neg hcalm] at h
        have hnc : calmOp o.op = false := by simpa using hcalm
        have hsp : spineB md ops listed k = true := by simpa [hnc] using hc
        exact wpAnyG_spine hC hL h0 (Region.noSelect_spec hs) hnc l.length listed a w hS hcC (Region.free_spec h0 hf) hcl (spineB_spec hsp) hr' hw
          (Oper.wp_mono (fun a' w' hh => ⟨hh.1, hh.2.1, wpAnyG_lex hC hL hb hs l (k + 1) _ a' w' hh.2.1 (hC _ _ hcC hr') (hcl.set hr') hl' hB' hh.2.2⟩) h)
    · rw [if_neg hw] at h
      exact wpAnyG_first hC hL h0 (Region.noSelect_spec hs) l.length listed a w hS hcC (Region.free_spec h0 hf) hr' (.inr ⟨by simpa using hw, rfl⟩) (wpAnyG_lex hC hL hb hs l (k + 1) _ _ w hS (hC _ _ hcC hr') (hcl.set hr') hl' hB' h)

/-- One walk in the order of the text serves every order. -/
theorem wp_region_mix {id : Nat} {Q' : Exit → Act → World → Prop} {a : Act} {w : World} {l : List Oper} (S : World → Prop) (hm : P.follows .mixedOrders = true) (hB : mixB .any l.toArray = true) (hS : S w.drew)
    (h : wpMix P l.toArray S (fun a' w' => Q' .normal a' w') l a w.drew) : (Code.region id l.toArray true).wp P Q' a w := by
  simp only [mixB, Bool.and_eq_true] at hB
  refine wp_region_any hm (wpAny_of_mix (S := S) (Q := fun a' w' => Q' .normal a' w') (fun _ _ _ h => h) _ _ _ _ hS ?_)
  have := wpAnyG_lex (S := S) (md := .any) (D := fun a' w' => Q' .normal a' w') (L := fun listed a w => Region.ready .any l.toArray listed = [] ∧ Q' .normal a w) (C := fun _ => True) (fun _ _ _ _ => trivial) (fun listed i a w _ hi h j hj => by
    by_cases e : j = i
    · exact e
    · have := ready_mono hj e
      rw [h.1] at this
      cases this) (base := fun listed => (Region.ready .any l.toArray listed).isEmpty) (fun listed a w _ hb h => ⟨by simpa using hb, h⟩) hB.1 l 0 (Array.replicate l.toArray.size false) a w.drew hS trivial (fun j oj hj hl => by
    exfalso
    simp only [Array.getD_eq_getD_getElem?, Array.getElem?_replicate] at hl
    split at hl <;> simp at hl) (by simp) (by simpa using hB.2) h
  simpa using this

theorem last_ready {n i : Nat} {listed : Array Bool} (hc : ClosedL md ops listed) (hB : lastB md ops n = true) (hn : n ∈ Region.ready md ops listed) (hi : i < n) : listed.getD i false = true := by
  unfold lastB at hB
  simp only [List.all_eq_true, List.mem_range] at hB
  cases hx : listed.getD i false with
  | true => rfl
  | false => exact absurd hn (blk_ready hc hx (hB i hi))
theorem tail_leaf {Q' : Exit → Act → World → Prop} {l : List Oper} {n : Nat} {listed : Array Bool} {a' : Act} {w' : World} (hll : l.length = n + 1) (hlast : lastB .any l.toArray n = true)
    (h : Region.ready .any l.toArray listed = [n] ∧ ClosedL .any l.toArray listed ∧ wpList P l.toArray Q' (l.drop n) a' w') : wpAny P .any l.toArray Q' 1 listed a' w' := by
  have hsz : l.toArray.size = n + 1 := by simpa using hll
  have hon : ∃ o, l.toArray[n]? = some o ∧ l.drop n = [o] := by
    refine ⟨l[n]'(by omega), by simp, ?_⟩
    rw [List.drop_eq_getElem_cons (by omega), List.drop_eq_nil_of_le (by omega)]
  obtain ⟨o, ho, hd⟩ := hon
  obtain ⟨hr, hcl, hw2⟩ := h
  rw [hd] at hw2
  refine ⟨fun h0 => by rw [hr] at h0; simp at h0, fun i hi => ?_⟩
  rw [hr] at hi
  have hin : i = n := by simpa using hi
  subst hin
  have hdone : Region.ready .any l.toArray (listed.setIfInBounds i true) = [] := by
    apply List.eq_nil_iff_forall_not_mem.2
    intro j hj
    obtain ⟨hun, oj, hoj, _⟩ := mem_ready.1 hj
    have hjl := (Array.getElem?_eq_some_iff.1 hoj).1
    rw [hsz] at hjl
    have hi' : i ∈ Region.ready .any l.toArray listed := by rw [hr]; simp
    by_cases e : j = i
    · subst e
      rcases Nat.lt_or_ge j listed.size with h' | h'
      · simp [h'] at hun
      · have := (mem_ready.1 hi').1
        simp [Array.getElem?_eq_none h'] at this
    · have hlj := last_ready hcl hlast hi' (show j < i by omega)
      rw [getD_set_ne true (Ne.symm e)] at hun
      rcases Nat.lt_or_ge j listed.size with h' | h'
      · simp [h'] at hun hlj; rw [hun] at hlj; cases hlj
      · simp [Array.getElem?_eq_none h'] at hlj
  unfold wpOp
  simp only [ho]
  unfold wpList at hw2
  split
  · rename_i hwt
    rw [if_pos hwt] at hw2
    rcases hw2 with h | h
    · exact .inl (Oper.wp_mono (fun a w h => ⟨hdone, h⟩) h)
    · exact .inr h
  · rename_i hwt
    rw [if_neg hwt] at hw2
    exact ⟨hdone, hw2⟩

/-- .. and the last operation may be whatever it is. -/
theorem wp_region_mixT {id : Nat} {Q' : Exit → Act → World → Prop} {a : Act} {w : World} {l : List Oper} (n : Nat) (S : World → Prop) (hm : P.follows .mixedOrders = true) (hB : mixTB .any l.toArray n = true) (hS : S w.drew)
    (h : wpMix P l.toArray S (fun a' w' => wpList P l.toArray Q' (l.drop n) a' w') (l.take n) a w.drew) : (Code.region id l.toArray true).wp P Q' a w := by
  simp only [mixTB, Bool.and_eq_true, decide_eq_true_eq] at hB
  obtain ⟨⟨⟨hsel, hsz⟩, hlast⟩, hmix⟩ := hB
  have hll : l.length = n + 1 := by simpa using hsz
  have htl : (l.take n).length = n := by simp; omega
  have hon : ∃ o, l.toArray[n]? = some o ∧ l.drop n = [o] := by
    refine ⟨l[n]'(by omega), by simp, ?_⟩
    rw [List.drop_eq_getElem_cons (by omega), List.drop_eq_nil_of_le (by omega)]
  obtain ⟨o, ho, hd⟩ := hon
  rw [hd] at h
  have hL : LastL .any l.toArray (ClosedL .any l.toArray) (fun listed a w => Region.ready .any l.toArray listed = [n] ∧ ClosedL .any l.toArray listed ∧ wpList P l.toArray Q' [o] a w) := fun listed i a w hcl hi h j hj => by
    by_cases e : j = i
    · exact e
    · exfalso
      have h1 := ready_mono hj e
      rw [h.1] at h1
      have hjn : j = n := by simpa using h1
      subst hjn
      obtain ⟨hun, oi, hoi, _⟩ := mem_ready.1 hi
      have hin : i < j := by
        have := (Array.getElem?_eq_some_iff.1 hoi).1
        rw [hsz] at this
        omega
      have := last_ready hcl hlast hj hin
      rcases Nat.lt_or_ge i listed.size with h' | h'
      · simp [h'] at hun this; rw [hun] at this; cases this
      · simp [Array.getElem?_eq_none h'] at this
  have hlex := wpAnyG_lex (P := P) (S := S) (md := .any) (D := fun _ _ => False) (Q := fun a' w' => wpList P l.toArray Q' [o] a' w') (fun _ _ h hj => h.set hj) hL (base := fun listed => Region.ready .any l.toArray listed == [n]) (fun listed a w hc hb h => ⟨by simpa using hb, hc, h⟩) hsel (l.take n) 0 (Array.replicate l.toArray.size false) a w.drew hS (fun j oj hj hl => by
      exfalso
      simp only [Array.getD_eq_getD_getElem?, Array.getElem?_replicate] at hl
      split at hl <;> simp at hl)
    (fun j oj hj hl => by
      exfalso
      simp only [Array.getD_eq_getD_getElem?, Array.getElem?_replicate] at hl
      split at hl <;> simp at hl) ?_ ?_ h
  · refine wp_region_any hm ?_
    have hall := wpAny_of_mixG (m := 1) (Q' := Q') (md := .any) (fun _ _ _ h => h.elim) (fun listed a' w' hw' h => ?_) _ _ _ _ hS hlex
    · rw [htl, hsz] at hall
      rw [hsz]
      exact hall
    · exact tail_leaf hll hlast (by rw [hd]; exact h)
  · intro j hj
    rw [htl] at hj
    rw [List.getElem?_take_of_lt hj]; simp
  · rw [htl]; exact hmix
theorem wpMix_nil {a : Act} {w : World} (h : Q a w) : wpMix P ops S Q [] a w := h
theorem wpMix_skip {o : Oper} {rest : List Oper} {a : Act} {w : World} (hw : Region.wanted o (yielded ops a.tmps) = false) (h : wpMix P ops S Q rest (a.put o.dst undef) w) : wpMix P ops S Q (o :: rest) a w := by
  unfold wpMix; rw [if_neg (by rw [hw]; exact Bool.false_ne_true)]; exact h
theorem wpMix_calm {o : Oper} {rest : List Oper} {a : Act} {w : World} (hw : Region.wanted o (yielded ops a.tmps) = true) (hc : calmOp o.op = true)
    (h : ∀ K : Act → Prop, (∀ a, wpMix P ops S Q rest a w → K a) → o.quiet P a S K) : wpMix P ops S Q (o :: rest) a w := by
  unfold wpMix mOper; rw [if_pos hw, if_pos hc]; exact h _ (fun _ h => h)
theorem wpMix_spine {o : Oper} {rest : List Oper} {a : Act} {w : World} (hw : Region.wanted o (yielded ops a.tmps) = true) (hc : calmOp o.op = false)
    (h : ∀ K : Act → World → Prop, (∀ a' w', a'.defers = a.defers → S w' → wpMix P ops S Q rest a' w' → K a' w') → o.wp P a w K noQ) : wpMix P ops S Q (o :: rest) a w := by
  unfold wpMix mOper; rw [if_pos hw, if_neg (by rw [hc]; exact Bool.false_ne_true)]; exact h _ (fun _ _ h1 h2 h3 => ⟨h1, h2, h3⟩)

theorem wpMix_load_at {a : Act} {o : Oper} {rest : List Oper} {w : World} (hgd : o.guard = none) (ty : TypeId) (x : Operand) (ho : o.op = .load ty x)
    (b off : Nat) (hx : a.eval x = .pointer (some ⟨b, off, none⟩)) (cs : List Value) (hc : ∀ w, S w → CellsAt w b off cs) (d : TypeDesc)
    (hu : P.underlying ty = some d) (hd : (match d with | .struct _ | .array _ _ => true | _ => false) = true) (hi : (P.info? ty).map (·.size) = some cs.length)
    (h : wpMix P ops S Q rest (a.put o.dst (.agg cs.toArray)) w) : wpMix P ops S Q (o :: rest) a w := by
  unfold wpMix mOper
  rw [if_pos (by simp [Region.wanted, hgd]), if_pos (by rw [ho]; rfl)]
  refine ⟨_, fun w hw => ?_, h⟩
  unfold Oper.quietAt execOp
  simp only [ho, hx, Instr.loadAt, Instr.sureAddr, Sem.run_bind, Sem.run_pure, Result.andThen_ok, run_loadVar_at w ty b off cs (hc w hw) d hu hd hi]
  exact ⟨rfl, rfl⟩
end

theorem run_buildSlice_as {P : Program} {t e : TypeId} (ht : P.underlying t = some (.slice e)) (z : Value) (size : Nat) (hinfo : (P.info? e).map (fun i => (i.zero, i.size)) = some (some z, size)) (n : Nat) (parts : Array (Nat × Value)) (C : Array Value)
    (hsz : n * size ≤ 2 ^ 24) (h0 : n * size ≠ 0) (hf : Instr.fill (fun j => some (j * size, size)) ((Array.range (n * size)).map (z.cells[· % z.cells.size]!)) parts.toList = some C) (w : World) :
    (Instr.buildSlice t n parts).run P w = .ok (.slice (some ⟨w.heap.size, 0, none⟩) n n) (w.alloc (.cells C e)) := by
  obtain ⟨i, hi, hi2⟩ := Option.map_eq_some_iff.1 hinfo
  simp only [Prod.mk.injEq] at hi2
  obtain ⟨hz, rfl⟩ := hi2
  have hn : ¬ n * i.size > 2 ^ 24 := by omega
  unfold Instr.buildSlice
  simp only [Sem.run_bind, run_underlying ht, Result.andThen_ok, sizeOf, typeInfo, hi]
  simp [Sem.run_bind, typeInfo, hi, hn, h0, zeroValue, hz, hf, newRow]

theorem exec_v {P : Program} {s : Sem Value} {w w' : World} {v : Value} (h : s.run P w = .ok v w') : (do pure (Next.value (← s)) : Sem Next).run P w = .ok (.value v) w' := by
  rw [Sem.run_bind, h]; rfl
theorem exec_u {P : Program} {s : Sem Unit} {w w' : World} (h : s.run P w = .ok () w') : (do s; pure Next.skip : Sem Next).run P w = .ok .skip w' := by
  rw [Sem.run_bind, h]; rfl

section
variable {P : Program} {ops : Array Oper} {S : World → Prop} {Q : Act → World → Prop}
theorem wpMix_run {o : Oper} {rest : List Oper} {a : Act} {w w' : World} {v : Value} (hw : Region.wanted o (yielded ops a.tmps) = true) (hc : calmOp o.op = false)
    (hr : (execOp a.eval o).run P w = .ok (.value v) w') (hS : S w') (h : wpMix P ops S Q rest (a.put o.dst v) w') : wpMix P ops S Q (o :: rest) a w := by
  refine wpMix_spine hw hc (fun K hK => ?_)
  unfold Oper.wp
  rw [hr]
  exact hK _ _ (by cases o.dst <;> rfl) hS h
theorem wpMix_buildSlice {o : Oper} {rest : List Oper} {a : Act} {w : World} (hgd : o.guard = none) (t : TypeId) (n : Nat) (parts : Array (Nat × Operand)) (ho : o.op = .buildSlice t n parts) (vals : Array (Nat × Value))
    (hv : (parts.map fun (i, x) => (i, a.eval x)) = vals) {e : TypeId} (ht : P.underlying t = some (.slice e)) (z : Value) (size : Nat) (hinfo : (P.info? e).map (fun i => (i.zero, i.size)) = some (some z, size)) (C : Array Value)
    (hsz : n * size ≤ 2 ^ 24) (h0 : n * size ≠ 0) (hf : Instr.fill (fun j => some (j * size, size)) ((Array.range (n * size)).map (z.cells[· % z.cells.size]!)) vals.toList = some C)
    (hS : S (w.alloc (.cells C e))) (h : wpMix P ops S Q rest (a.put o.dst (.slice (some ⟨w.heap.size, 0, none⟩) n n)) (w.alloc (.cells C e))) : wpMix P ops S Q (o :: rest) a w := by
  refine wpMix_run (by simp [Region.wanted, hgd]) (by rw [ho]; rfl) (w' := w.alloc (.cells C e)) (v := .slice (some ⟨w.heap.size, 0, none⟩) n n) ?_ hS h
  unfold execOp
  simp only [ho, hv]
  exact exec_v (run_buildSlice_as ht z size hinfo n vals C hsz h0 hf w)
theorem wpList_buildSlice {o : Oper} {rest : List Oper} {a : Act} {w : World} {Q : Exit → Act → World → Prop} (hgd : o.guard = none) (t : TypeId) (n : Nat) (parts : Array (Nat × Operand)) (ho : o.op = .buildSlice t n parts) (vals : Array (Nat × Value))
    (hv : (parts.map fun (i, x) => (i, a.eval x)) = vals) {e : TypeId} (ht : P.underlying t = some (.slice e)) (z : Value) (size : Nat) (hinfo : (P.info? e).map (fun i => (i.zero, i.size)) = some (some z, size)) (C : Array Value)
    (hsz : n * size ≤ 2 ^ 24) (h0 : n * size ≠ 0) (hf : Instr.fill (fun j => some (j * size, size)) ((Array.range (n * size)).map (z.cells[· % z.cells.size]!)) vals.toList = some C)
    (h : wpList P ops Q rest (a.put o.dst (.slice (some ⟨w.heap.size, 0, none⟩) n n)) (w.alloc (.cells C e))) : wpList P ops Q (o :: rest) a w :=
  wpList_plain hgd fun _ hK => by
    unfold Oper.wp execOp
    simp only [ho, hv]
    rw [exec_v (run_buildSlice_as ht z size hinfo n vals C hsz h0 hf w)]
    exact hK _ _ h

theorem wpMix_load_atw {a : Act} {o : Oper} {rest : List Oper} {w : World} (hw : Region.wanted o (yielded ops a.tmps) = true) (ty : TypeId) (x : Operand) (ho : o.op = .load ty x)
    (b off : Nat) (hx : a.eval x = .pointer (some ⟨b, off, none⟩)) (cs : List Value) (hc : ∀ w, S w → CellsAt w b off cs) (d : TypeDesc)
    (hu : P.underlying ty = some d) (hd : (match d with | .struct _ | .array _ _ => true | _ => false) = true) (hi : (P.info? ty).map (·.size) = some cs.length)
    (h : wpMix P ops S Q rest (a.put o.dst (.agg cs.toArray)) w) : wpMix P ops S Q (o :: rest) a w := by
  unfold wpMix mOper
  rw [if_pos hw, if_pos (by rw [ho]; rfl)]
  refine ⟨_, fun w hw => ?_, h⟩
  unfold Oper.quietAt execOp
  simp only [ho, hx, Instr.loadAt, Instr.sureAddr, Sem.run_bind, Sem.run_pure, Result.andThen_ok, run_loadVar_at w ty b off cs (hc w hw) d hu hd hi]
  exact ⟨rfl, rfl⟩
theorem wpList_load_atw {o : Oper} {rest : List Oper} {a : Act} {w : World} {Q : Exit → Act → World → Prop} (hw : Region.wanted o (yielded ops a.tmps) = true) (ty : TypeId) (x : Operand) (ho : o.op = .load ty x)
    (b off : Nat) (hx : a.eval x = .pointer (some ⟨b, off, none⟩)) (cs : List Value) (hc : CellsAt w b off cs) (d : TypeDesc)
    (hu : P.underlying ty = some d) (hd : (match d with | .struct _ | .array _ _ => true | _ => false) = true) (hi : (P.info? ty).map (·.size) = some cs.length)
    (h : wpList P ops Q rest (a.put o.dst (.agg cs.toArray)) w) : wpList P ops Q (o :: rest) a w :=
  wpList_step fun _ hK => by
    rw [if_pos hw]
    unfold Oper.wp execOp
    simp only [ho, hx, Instr.loadAt, Instr.sureAddr, Sem.run_bind, Sem.run_pure, Result.andThen_ok, run_loadVar_at w ty b off cs hc d hu hd hi]
    exact hK _ _ h
end
end Go.Proofs.Ytgjabgneapdbiaa

namespace Go.Proofs.Ytgjabgneapdbiaa
open Go.RowKit
set_option linter.unusedSimpArgs false
set_option linter.unusedVariables false

/-- A slice that is nil, or lies at the head of a block that is known whole: its elements, and what stands behind them. -/
def OwnL {α : Type} (w : World) (e : TypeId) (N : Nat) (cells : α → List Value) (s : SlV) (xs : List α) : Prop :=
  s.len = xs.length ∧ ((s = ⟨none, 0, 0⟩) ∨ ∃ (g : Nat) (junk : List Value), s.a = some ⟨g, 0, none⟩ ∧ Blk w g (xs.flatMap cells ++ junk).toArray e ∧ (xs.flatMap cells ++ junk).length = s.cap * N ∧ s.len ≤ s.cap ∧ s.cap ≤ maxLen)
/-- The block of a slice. -/
def ownB (s : SlV) : Nat → Prop := fun b => ∃ a, s.a = some a ∧ a.block = b

section
variable {α : Type} {w : World} {e : TypeId} {N : Nat} {cells : α → List Value} {s : SlV} {xs : List α}

theorem OwnL.nil (w : World) (e : TypeId) (N : Nat) (cells : α → List Value) : OwnL w e N cells ⟨none, 0, 0⟩ ([] : List α) := ⟨rfl, .inl rfl⟩
theorem OwnL.le (h : OwnL w e N cells s xs) : xs.length ≤ maxLen := by
  obtain ⟨h1, h2⟩ := h
  rcases h2 with rfl | ⟨g, junk, _, _, _, h3, h4⟩
  · rw [← h1]; exact Nat.zero_le _
  · rw [← h1]; exact Nat.le_trans h3 h4
theorem OwnL.slof (h : OwnL w e N cells s xs) (hN : ∀ x, (cells x).length = N) {ok : α → Prop} (hok : ∀ x ∈ xs, ok x) : SlOf w N cells ok s xs := by
  have hle := h.le
  obtain ⟨h1, h2⟩ := h
  rcases h2 with rfl | ⟨g, junk, ha, hb, _, _, _⟩
  · have : xs = [] := List.eq_nil_of_length_eq_zero h1.symm
    exact ⟨h1, Nat.zero_le _, .inl this⟩
  · obtain ⟨a, len, cap⟩ := s
    simp only at ha h1
    subst ha; subst h1
    exact slof_blk hN hb hok cap hle
theorem OwnL.lt (h : OwnL w e N cells s xs) : ∀ b, ownB s b → b < w.heap.size := by
  rintro b ⟨a, ha, rfl⟩
  obtain ⟨h1, h2⟩ := h
  rcases h2 with rfl | ⟨g, junk, ha', hb, _⟩
  · simp at ha
  · rw [ha] at ha'
    obtain rfl := Option.some.inj ha'
    exact hb.lt
theorem OwnL.fr {S : Nat → Prop} {w' : World} (h : OwnL w e N cells s xs) (f : Fr S w w') (hs : ∀ b, ownB s b → ¬ S b) : OwnL w' e N cells s xs := by
  obtain ⟨h1, h2⟩ := h
  refine ⟨h1, ?_⟩
  rcases h2 with h2 | ⟨g, junk, ha, hb, r⟩
  · exact .inl h2
  · exact .inr ⟨g, junk, ha, hb.fr f (hs g ⟨_, ha, rfl⟩), r⟩
theorem OwnL.nilcap (h : OwnL w e N cells s xs) (ha : s.a = none) : s = ⟨none, 0, 0⟩ := by
  obtain ⟨h1, h2⟩ := h
  rcases h2 with h2 | ⟨g, junk, ha', _⟩
  · exact h2
  · rw [ha] at ha'; simp at ha'

/-- What append comes to, on a slice of the call's own. -/
theorem run_append_rows {P : Program} {t ty : TypeId} (ht : P.underlying t = some (.slice e)) (z : Value) (bytes : Nat) (hinfo : (P.info? e).map (fun i => (i.zero, i.size, i.bytes)) = some (some z, N, bytes)) (hzs : z.cells.size = N) (hNp : 0 < N)
    (hN : ∀ x, (cells x).length = N) (h1c : ∀ x, ∀ u ∈ cells x, u.oneCell' = true) (hown : OwnL w e N cells s xs) {ok : α → Prop} {q : SlV} {ys : List α} (hq : SlOf w N cells ok q ys) (hnil : q.a = none → q.cap = 0)
    (hm : xs.length + ys.length ≤ maxLen) (hbytes : (xs.length + ys.length) * bytes ≤ 140737488355328) :
    ∃ s' w', (Builtin.append_ #[t, t] ty #[.slice s.a s.len s.cap, .slice q.a q.len q.cap]).run P w = .ok (.slice s'.a s'.len s'.cap) w' ∧ OwnL w' e N cells s' (xs ++ ys) ∧ Fr (ownB s) w w' ∧
      ((s'.a = s.a ∧ w'.heap.size = w.heap.size) ∨ (∃ g', s'.a = some ⟨g', 0, none⟩ ∧ w.heap.size ≤ g' ∧ Fr noB w w')) := by
  obtain ⟨i, hi, hi2⟩ := Option.map_eq_some_iff.1 hinfo
  simp only [Prod.mk.injEq] at hi2
  obtain ⟨hz, rfl, rfl⟩ := hi2
  have hlx := hown.1
  obtain ⟨hly, _, hq2⟩ := hq
  have hsmall : xs.length + ys.length ≤ 9223372036854775807 := by simp only [maxLen] at hm; omega
  -- a nil source
  cases hqa : q.a with
  | none =>
    have hq0 : ys = [] := by
      rcases hq2 with h | ⟨b, o, h, _⟩
      · exact h
      · rw [hqa] at h; simp at h
    subst hq0
    have hlen0 : q.len = 0 := hly
    rw [hlen0, hnil hqa, List.append_nil]
    refine ⟨s, w, ?_, hown, Fr.refl _ _, .inl ⟨rfl, rfl⟩⟩
    rcases hown.2 with rfl | ⟨g, junk, ha, hb, _, hle, _⟩
    · simp [Builtin.append_, run_underlying ht, sizeOf, typeInfo, hi, Builtin.lenOf, Builtin.firstCells, loadCells, loadCellsFrom]
    · simp [Builtin.append_, run_underlying ht, sizeOf, typeInfo, hi, Builtin.lenOf, Builtin.firstCells, loadCells, loadCellsFrom, ha, hle, storeCells]
  | some ad =>
    have hnews : ∀ j u, (ys.flatMap cells)[j]? = some u → w.cell? (ad.add j) = some u := by
      intro j u hu
      rcases hq2 with h | ⟨b, o, h, hb, hc⟩
      · subst h; simp at hu
      · rw [hqa] at h
        obtain rfl := Option.some.inj h
        have hj : j < ys.length * i.size := by rw [← flat_length hN]; exact (List.getElem?_eq_some_iff.1 hu).1
        have hk : j / i.size < ys.length := Nat.div_lt_of_lt_mul (by rw [Nat.mul_comm]; exact hj)
        have hx : ys[j / i.size]? = some ys[j / i.size] := List.getElem?_eq_getElem hk
        have hr : j % i.size < i.size := Nat.mod_lt _ hNp
        have he : j / i.size * i.size + j % i.size = j := by rw [Nat.mul_comm]; exact Nat.div_add_mod j i.size
        have hg := flat_get hN [] ys (j / i.size) _ (j % i.size) hx hr
        rw [he, List.append_nil, hu] at hg
        have := (hc _ _ hx).1 (j % i.size) u hg.symm
        rw [Addr.add_lit, show o + j = o + j / i.size * i.size + j % i.size by omega]
        exact this
    have h1 : ∀ u ∈ ys.flatMap cells, u.oneCell' = true := fun u hu => by
      obtain ⟨x, _, hx⟩ := List.mem_flatMap.1 hu
      exact h1c x u hx
    have hlen : (ys.flatMap cells).length = q.len * i.size := by rw [flat_length hN, hly]
    have hflat : (xs ++ ys).flatMap cells = xs.flatMap cells ++ ys.flatMap cells := List.flatMap_append
    have grown : ∀ (old c : Nat), old < xs.length + ys.length → c = grownCap w (xs.length + ys.length) old e →
        OwnL (w.drew.alloc (.cells ((xs.flatMap cells).toArray ++ (ys.flatMap cells).toArray ++ Builtin.zeroCells z.cells (c - (xs.length + ys.length))) e)) e i.size cells ⟨some ⟨w.heap.size, 0, none⟩, xs.length + ys.length, c⟩ (xs ++ ys) := by
      intro old c ho hc
      have hge : xs.length + ys.length ≤ c := hc ▸ grownCap_ge w (xs.length + ys.length) old e
      have hcm : c ≤ maxLen := hc ▸ grownCap_le_maxLen w (xs.length + ys.length) old e hm
      refine ⟨by simp, .inr ⟨w.heap.size, (Builtin.zeroCells z.cells (c - (xs.length + ys.length))).toList, rfl, ?_, ?_, hge, hcm⟩⟩
      · have := Blk.alloc_new w.drew ((xs.flatMap cells).toArray ++ (ys.flatMap cells).toArray ++ Builtin.zeroCells z.cells (c - (xs.length + ys.length))) e
        rw [hflat]
        have ea : ((xs.flatMap cells ++ ys.flatMap cells ++ (Builtin.zeroCells z.cells (c - (xs.length + ys.length))).toList).toArray) = (xs.flatMap cells).toArray ++ (ys.flatMap cells).toArray ++ Builtin.zeroCells z.cells (c - (xs.length + ys.length)) := by simp
        rw [ea]
        exact this
      · have ez : (Builtin.zeroCells z.cells (c - (xs.length + ys.length))).toList.length = (c - (xs.length + ys.length)) * i.size := by rw [Array.length_toList, size_zeroCells, hzs]
        rw [List.length_append, flat_length hN, ez, List.length_append, ← Nat.add_mul]
        show _ = c * i.size
        congr 1
        omega
    have frnew : ∀ o, Fr noB w (w.drew.alloc o) := fun o => ((Fr.refl _ _).drew).alloc _
    rcases hown.2 with rfl | ⟨g, junk, ha, hb, hcl, hle, hcm⟩
    · have hx0 : xs = [] := List.eq_nil_of_length_eq_zero hlx.symm
      subst hx0
      by_cases hm0 : q.len = 0
      · have hy0 : ys = [] := List.eq_nil_of_length_eq_zero (by rw [← hly]; exact hm0)
        subst hy0
        refine ⟨⟨none, 0, 0⟩, w, ?_, OwnL.nil _ _ _ _, Fr.refl _ _, .inl ⟨rfl, rfl⟩⟩
        simp [Builtin.append_, run_underlying ht, sizeOf, typeInfo, hi, Builtin.lenOf, Builtin.firstCells, loadCells, loadCellsFrom, hm0]
      · have hr := run_append_nil (P := P) w t ty e i z ht hi hz ad q.len q.cap (ys.flatMap cells) hlen hnews (by omega) (by simp only [List.length_nil] at hsmall; omega) (by simp only [List.length_nil, Nat.zero_add] at hbytes; rw [hly]; omega)
        have hgr := grown 0 (grownCap w q.len 0 e) (by simp only [List.length_nil]; omega) (by simp [hly])
        refine ⟨⟨some ⟨w.heap.size, 0, none⟩, q.len, grownCap w q.len 0 e⟩, _, hr, ?_, (frnew _).mono (fun _ _ h => h.elim), .inr ⟨_, rfl, Nat.le_refl _, frnew _⟩⟩
        simp only [List.nil_append, List.length_nil, Nat.zero_add, List.flatMap_nil, ← hly] at hgr ⊢
        simpa using hgr
    · obtain ⟨sa, slen, scap⟩ := s
      simp only at ha hlx hcl hle hcm
      subst ha
      have hsl : (xs.flatMap cells).length = slen * i.size := by rw [flat_length hN, hlx]
      by_cases hroom : slen + q.len ≤ scap
      · have hfit : slen * i.size + (ys.flatMap cells).length ≤ (xs.flatMap cells ++ junk).toArray.size := by
          rw [List.size_toArray, hcl, hlen, ← Nat.add_mul]; exact Nat.mul_le_mul_right _ hroom
        have hr := run_append_room (P := P) w t ty e i ht hi g slen scap _ hb ad q.len q.cap (ys.flatMap cells) hlen hnews h1 hroom hfit
        refine ⟨⟨some ⟨g, 0, none⟩, slen + q.len, scap⟩, _, hr, ⟨by simp [hlx, hly], .inr ⟨g, (xs.flatMap cells ++ junk).drop (slen * i.size + (ys.flatMap cells).length), rfl, ?_, ?_, hroom, hcm⟩⟩, (Fr.refl _ _).setRow (.inr ⟨_, rfl, rfl⟩) _, .inl ⟨rfl, by rw [size_setRow]⟩⟩
        · have hset := hb.setRow (cs' := ((xs.flatMap cells ++ junk).toArray.toList.take (slen * i.size) ++ ys.flatMap cells ++ (xs.flatMap cells ++ junk).toArray.toList.drop (slen * i.size + (ys.flatMap cells).length)).toArray)
          have et : (xs.flatMap cells ++ junk).toArray.toList.take (slen * i.size) = xs.flatMap cells := by rw [← hsl]; exact List.take_left
          rw [et] at hset
          rw [et, hflat]
          exact hset
        · have hrm := Nat.mul_le_mul_right i.size hroom
          rw [Nat.add_mul] at hrm
          rw [hflat, List.length_append, List.length_append, List.length_drop, hcl, hsl, hlen]
          show _ = scap * i.size
          omega
      · have holds : ∀ j u, (xs.flatMap cells)[j]? = some u → w.cell? ((⟨g, 0, none⟩ : Addr).add j) = some u := fun j u hu => by
          rw [Addr.add_lit, Nat.zero_add, hb.cell, List.getElem?_toArray, List.getElem?_append_left (List.getElem?_eq_some_iff.1 hu).1, hu]
        have hr := run_append_grow (P := P) w t ty e i z ht hi hz ⟨g, 0, none⟩ slen scap (xs.flatMap cells) hsl holds ad q.len q.cap (ys.flatMap cells) hlen hnews (by omega) (by rw [hlx, hly]; omega) (growslice_fits (by omega) (by rw [hlx, hly]; exact hbytes))
        have hgr := grown scap (grownCap w (slen + q.len) scap e) (by omega) (by rw [hlx, hly])
        refine ⟨⟨some ⟨w.heap.size, 0, none⟩, slen + q.len, grownCap w (slen + q.len) scap e⟩, _, hr, ?_, (frnew _).mono (fun _ _ h => h.elim), .inr ⟨_, rfl, Nat.le_refl _, frnew _⟩⟩
        rw [← hlx, ← hly] at hgr
        exact hgr

theorem wpList_append_rows {P : Program} {ops : Array Oper} {rest : List Oper} {o : Oper} {a : Act} {Q : Exit → Act → World → Prop} (hgd : o.guard = none) (sx xx : Operand) (t : TypeId)
    (ho : o.op = .call { callee := .builtin .append, args := #[sx, xx], argTypes := #[t, t] }) (ht : P.underlying t = some (.slice e)) (z : Value) (bytes : Nat)
    (hinfo : (P.info? e).map (fun i => (i.zero, i.size, i.bytes)) = some (some z, N, bytes)) (hzs : z.cells.size = N) (hNp : 0 < N) (hN : ∀ x, (cells x).length = N) (h1c : ∀ x, ∀ u ∈ cells x, u.oneCell' = true)
    (hs : a.eval sx = .slice s.a s.len s.cap) (hown : OwnL w e N cells s xs) {ok : α → Prop} {q : SlV} {ys : List α} (hx : a.eval xx = .slice q.a q.len q.cap) (hq : SlOf w N cells ok q ys) (hnil : q.a = none → q.cap = 0)
    (hm : xs.length + ys.length ≤ maxLen) (hbytes : (xs.length + ys.length) * bytes ≤ 140737488355328)
    (h : ∀ s' w', OwnL w' e N cells s' (xs ++ ys) → Fr (ownB s) w w' → ((s'.a = s.a ∧ w'.heap.size = w.heap.size) ∨ (∃ g', s'.a = some ⟨g', 0, none⟩ ∧ w.heap.size ≤ g' ∧ Fr noB w w')) → wpList P ops Q rest (a.put o.dst (.slice s'.a s'.len s'.cap)) w') :
    wpList P ops Q (o :: rest) a w :=
  wpList_plain hgd fun _ hK => by
    obtain ⟨s', w', hr, h1, h2, h3⟩ := run_append_rows (P := P) (ty := o.type) ht z bytes hinfo hzs hNp hN h1c hown hq hnil hm hbytes
    unfold Oper.wp execOp
    simp only [ho, resolve, invoke, builtin, Sem.run_bind, Sem.run_pure, Result.andThen_ok, List.map_toArray, List.map_cons, List.map_nil, hs, hx, hr]
    exact hK _ _ (h s' w' h1 h2 h3)

theorem wpMix_append_rows {P : Program} {ops : Array Oper} {rest : List Oper} {o : Oper} {a : Act} {S : World → Prop} {Q : Act → World → Prop} (hw : Region.wanted o (yielded ops a.tmps) = true) (sx xx : Operand) (t : TypeId)
    (ho : o.op = .call { callee := .builtin .append, args := #[sx, xx], argTypes := #[t, t] }) (ht : P.underlying t = some (.slice e)) (z : Value) (bytes : Nat)
    (hinfo : (P.info? e).map (fun i => (i.zero, i.size, i.bytes)) = some (some z, N, bytes)) (hzs : z.cells.size = N) (hNp : 0 < N) (hN : ∀ x, (cells x).length = N) (h1c : ∀ x, ∀ u ∈ cells x, u.oneCell' = true)
    (hs : a.eval sx = .slice s.a s.len s.cap) (hown : OwnL w e N cells s xs) {ok : α → Prop} {q : SlV} {ys : List α} (hx : a.eval xx = .slice q.a q.len q.cap) (hq : SlOf w N cells ok q ys) (hnil : q.a = none → q.cap = 0)
    (hm : xs.length + ys.length ≤ maxLen) (hbytes : (xs.length + ys.length) * bytes ≤ 140737488355328)
    (h : ∀ s' w', OwnL w' e N cells s' (xs ++ ys) → Fr (ownB s) w w' → ((s'.a = s.a ∧ w'.heap.size = w.heap.size) ∨ (∃ g', s'.a = some ⟨g', 0, none⟩ ∧ w.heap.size ≤ g' ∧ Fr noB w w')) → S w' ∧ wpMix P ops S Q rest (a.put o.dst (.slice s'.a s'.len s'.cap)) w') :
    wpMix P ops S Q (o :: rest) a w := by
  obtain ⟨s', w', hr, h1, h2, h3⟩ := run_append_rows (P := P) (ty := o.type) ht z bytes hinfo hzs hNp hN h1c hown hq hnil hm hbytes
  refine wpMix_run hw (by rw [ho]; rfl) (v := .slice s'.a s'.len s'.cap) (w' := w') ?_ (h s' w' h1 h2 h3).1 (h s' w' h1 h2 h3).2
  unfold execOp
  simp only [ho, resolve, invoke, builtin, Sem.run_bind, Sem.run_pure, Result.andThen_ok, List.map_toArray, List.map_cons, List.map_nil, hs, hx, hr]

/-! ### A store into an element -/
theorem flat_set1 (hN : ∀ x, (cells x).length = N) {x' : α} {u : Value} {j : Nat} (junk : List Value) : ∀ (xs : List α) (k : Nat) (x : α), xs[k]? = some x → j < N → cells x' = (cells x).set j u →
    (xs.flatMap cells ++ junk).set (k * N + j) u = (xs.set k x').flatMap cells ++ junk
  | [], k, x, h, _, _ => by simp at h
  | y :: ys, 0, x, h, hj, hc => by
    simp only [List.getElem?_cons_zero, Option.some.injEq] at h
    subst h
    rw [Nat.zero_mul, Nat.zero_add, List.set_cons_zero, List.flatMap_cons, List.flatMap_cons, List.append_assoc, List.set_append_left _ _ (by rw [hN]; exact hj), hc, List.append_assoc]
  | y :: ys, k + 1, x, h, hj, hc => by
    simp only [List.getElem?_cons_succ] at h
    rw [List.set_cons_succ, List.flatMap_cons, List.flatMap_cons, List.append_assoc, List.set_append_right _ _ (by rw [hN, Nat.add_mul]; omega), hN, show (k + 1) * N + j - N = k * N + j by rw [Nat.add_mul]; omega,
      flat_set1 hN junk ys k x h hj hc, List.append_assoc]
theorem OwnL.setField (h : OwnL w e N cells s xs) (hN : ∀ x, (cells x).length = N) {g : Nat} (hg : s.a = some ⟨g, 0, none⟩) {k : Nat} {x x' : α} (hx : xs[k]? = some x) {j : Nat} {u : Value} (hj : j < N) (hc : cells x' = (cells x).set j u) :
    OwnL (w.setCell ⟨g, k * N + j, none⟩ u) e N cells s (xs.set k x') := by
  obtain ⟨h1, h2⟩ := h
  refine ⟨by rw [List.length_set]; exact h1, ?_⟩
  rcases h2 with rfl | ⟨g', junk, ha, hb, hl, r⟩
  · simp at hg
  · rw [hg] at ha
    simp only [Option.some.injEq, Addr.mk.injEq, and_true] at ha
    subst ha
    refine .inr ⟨g, junk, hg, ?_, ?_, r⟩
    · have := hb.set (k * N + j) u
      rw [List.setIfInBounds_toArray, flat_set1 hN junk xs k x hx hj hc] at this
      exact this
    · rw [← flat_set1 hN junk xs k x hx hj hc, List.length_set]; exact hl

theorem flat_setN (hN : ∀ x, (cells x).length = N) {x' : α} (junk : List Value) : ∀ (xs : List α) (k : Nat), k < xs.length →
    (xs.flatMap cells ++ junk).take (k * N) ++ cells x' ++ (xs.flatMap cells ++ junk).drop (k * N + N) = (xs.set k x').flatMap cells ++ junk
  | [], k, h => by simp at h
  | y :: ys, 0, h => by
    rw [Nat.zero_mul, Nat.zero_add, List.take_zero, List.nil_append, List.set_cons_zero, List.flatMap_cons, List.flatMap_cons, List.append_assoc, List.drop_append, hN, Nat.sub_self, List.drop_zero, List.drop_of_length_le (by rw [hN]; exact Nat.le_refl _), List.nil_append, List.append_assoc]
  | y :: ys, k + 1, h => by
    have ih := flat_setN hN junk ys k (by simpa using h) (x' := x')
    rw [List.set_cons_succ, List.flatMap_cons, List.flatMap_cons, List.append_assoc, List.append_assoc, List.append_assoc, ← ih, List.take_append, List.drop_append, hN,
      List.take_of_length_le (by rw [hN, Nat.add_mul]; omega), List.drop_of_length_le (by rw [hN, Nat.add_mul]; omega), show (k + 1) * N - N = k * N by rw [Nat.add_mul]; omega, show (k + 1) * N + N - N = k * N + N by rw [Nat.add_mul]; omega]
    simp only [List.nil_append, List.append_assoc]

theorem OwnL.setElem (h : OwnL w e N cells s xs) (hN : ∀ x, (cells x).length = N) {g : Nat} (hg : s.a = some ⟨g, 0, none⟩) {k : Nat} (hk : k < xs.length) {x' : α} {t : TypeId} {P : Program} (hi : (P.info? t).map (·.size) = some N) (h1c : ∀ u ∈ cells x', u.oneCell' = true) :
    ∃ w', (storeVar t ⟨g, k * N, none⟩ (.agg (cells x').toArray)).run P w = .ok () w' ∧ OwnL w' e N cells s (xs.set k x') ∧ Fr (oneB g) w w' ∧ w'.heap.size = w.heap.size := by
  obtain ⟨h1, h2⟩ := h
  rcases h2 with rfl | ⟨g', junk, ha, hb, hl, hle, hcm⟩
  · simp at hg
  · rw [hg] at ha
    simp only [Option.some.injEq, Addr.mk.injEq, and_true] at ha
    subst ha
    have hfl : (xs.flatMap cells).length = xs.length * N := flat_length hN xs
    have hkN : k * N + N ≤ xs.length * N := by rw [← Nat.succ_mul]; exact Nat.mul_le_mul_right _ hk
    have hst := run_storeCells_at P g (k * N) e (cells x') 0 _ w hb (by rw [Nat.add_zero, hN, List.size_toArray, List.length_append, hfl]; omega) h1c
    refine ⟨w.setRow g ((xs.set k x').flatMap cells ++ junk).toArray, ?_, ⟨by rw [List.length_set]; exact h1, .inr ⟨g, junk, hg, hb.setRow, ?_, hle, hcm⟩⟩, (Fr.refl (oneB g) _).setRow (.inr (show oneB g g from rfl)) _, size_setRow _ _ _⟩
    · cases hq : P.info? t with
      | none => simp [hq] at hi
      | some i =>
        have hsz : i.size = N := by simpa [hq] using hi
        simp only [Nat.add_zero, hN] at hst
        rw [flat_setN hN junk xs k hk] at hst
        simp [storeVar, sizeOf, typeInfo, hq, Value.cells, hsz, hN, hst]
    · rw [List.length_append, flat_length hN, List.length_set, ← flat_length hN, ← List.length_append]; exact hl
end
end Go.Proofs.Ytgjabgneapdbiaa

namespace Go.Proofs.Ytgjabgneapdbiaa
open Go.RowKit
set_option linter.unusedVariables false
theorem run_build0 {P : Program} {t e : TypeId} (ht : P.underlying t = some (.slice e)) (hi : (P.info? e).isSome = true) (w : World) :
    (Instr.buildSlice t 0 #[]).run P w = .ok (.slice (some ⟨w.heap.size, 0, none⟩) 0 0) (w.alloc (.cells #[] e)) := by
  obtain ⟨i, hi⟩ := Option.isSome_iff_exists.1 hi
  unfold Instr.buildSlice
  simp only [Sem.run_bind, run_underlying ht, Result.andThen_ok, sizeOf, typeInfo]
  simp [hi, Instr.fill, newRow]
  have : (Array.map (fun _ : Nat => (default : Value)) (Array.range 0)) = #[] := by apply Array.eq_empty_of_size_eq_zero; simp
  rw [this]
theorem ownl_0 {α : Type} (w : World) (e : TypeId) (N : Nat) (cells : α → List Value) : OwnL (w.alloc (.cells #[] e)) e N cells ⟨some ⟨w.heap.size, 0, none⟩, 0, 0⟩ [] :=
  ⟨rfl, .inr ⟨_, [], rfl, Blk.alloc_new _ _ _, by simp, Nat.le_refl _, Nat.zero_le _⟩⟩
section
variable {P : Program} {ops : Array Oper} {S : World → Prop} {Q : Act → World → Prop}
theorem wpMix_build0 {o : Oper} {rest : List Oper} {a : Act} {w : World} (hgd : o.guard = none) (t : TypeId) (ho : o.op = .buildSlice t 0 #[]) {e : TypeId} (ht : P.underlying t = some (.slice e)) (hi : (P.info? e).isSome = true)
    (hS : S (w.alloc (.cells #[] e))) (h : wpMix P ops S Q rest (a.put o.dst (.slice (some ⟨w.heap.size, 0, none⟩) 0 0)) (w.alloc (.cells #[] e))) : wpMix P ops S Q (o :: rest) a w := by
  refine wpMix_run (by simp [Region.wanted, hgd]) (by rw [ho]; rfl) (w' := w.alloc (.cells #[] e)) (v := .slice (some ⟨w.heap.size, 0, none⟩) 0 0) ?_ hS h
  unfold execOp
  simp only [ho, List.map_toArray, List.map_nil]
  exact exec_v (run_build0 ht hi w)
theorem wpList_build0 {o : Oper} {rest : List Oper} {a : Act} {w : World} {Q : Exit → Act → World → Prop} (hgd : o.guard = none) (t : TypeId) (ho : o.op = .buildSlice t 0 #[]) {e : TypeId} (ht : P.underlying t = some (.slice e)) (hi : (P.info? e).isSome = true)
    (h : wpList P ops Q rest (a.put o.dst (.slice (some ⟨w.heap.size, 0, none⟩) 0 0)) (w.alloc (.cells #[] e))) : wpList P ops Q (o :: rest) a w :=
  wpList_plain hgd fun _ hK => by
    unfold Oper.wp execOp
    simp only [ho, List.map_toArray, List.map_nil]
    rw [exec_v (run_build0 ht hi w)]
    exact hK _ _ h
end
end Go.Proofs.Ytgjabgneapdbiaa

namespace Go.Proofs.Ytgjabgneapdbiaa
open Go.RowKit
set_option linter.unusedSimpArgs false
set_option linter.unusedVariables false

/-! ### The last bits of a number -/
theorem i64_and65535 (n : Int) : bits .and .i64 n 65535 = n % 65536 := by
  have hk : (BitVec.ofInt 64 65535).toNat = 2 ^ 16 - 1 := by decide
  have key : (BitVec.ofInt 64 n &&& BitVec.ofInt 64 65535).toNat = (n % ((2 ^ 64 : Nat) : Int)).toNat % 2 ^ 16 := by
    rw [BitVec.toNat_and, BitVec.toNat_ofInt, hk, Nat.and_two_pow_sub_one_eq_mod]
  show IntKind.i64.wrap ((BitVec.ofInt 64 n &&& BitVec.ofInt 64 65535).toNat : Nat) = n % 65536
  rw [key, IntKind.wrap_i64]
  omega
theorem i64_and31 (n : Int) : bits .and .i64 n 31 = n % 32 := by
  have hk : (BitVec.ofInt 64 31).toNat = 2 ^ 5 - 1 := by decide
  have key : (BitVec.ofInt 64 n &&& BitVec.ofInt 64 31).toNat = (n % ((2 ^ 64 : Nat) : Int)).toNat % 2 ^ 5 := by
    rw [BitVec.toNat_and, BitVec.toNat_ofInt, hk, Nat.and_two_pow_sub_one_eq_mod]
  show IntKind.i64.wrap ((BitVec.ofInt 64 n &&& BitVec.ofInt 64 31).toNat : Nat) = n % 32
  rw [key, IntKind.wrap_i64]
  omega
theorem i64_and63 (n : Int) : bits .and .i64 n 63 = n % 64 := by
  have hk : (BitVec.ofInt 64 63).toNat = 2 ^ 6 - 1 := by decide
  have key : (BitVec.ofInt 64 n &&& BitVec.ofInt 64 63).toNat = (n % ((2 ^ 64 : Nat) : Int)).toNat % 2 ^ 6 := by
    rw [BitVec.toNat_and, BitVec.toNat_ofInt, hk, Nat.and_two_pow_sub_one_eq_mod]
  show IntKind.i64.wrap ((BitVec.ofInt 64 n &&& BitVec.ofInt 64 63).toNat : Nat) = n % 64
  rw [key, IntKind.wrap_i64]
  omega
theorem mod_nat (n : Int) (m : Nat) (hm : 0 < m) : ∃ k : Nat, k < m ∧ (bits .and .i64 n 65535).tmod (m : Int) = (k : Int) := by
  rw [i64_and65535, Int.tmod_eq_emod_of_nonneg (Int.emod_nonneg _ (by decide))]
  refine ⟨((n % 65536) % (m : Int)).toNat, ?_, ?_⟩
  · have h1 := Int.emod_nonneg (n % 65536) (b := (m : Int)) (by omega)
    have h2 := Int.emod_lt_of_pos (n % 65536) (b := (m : Int)) (by omega)
    omega
  · have h1 := Int.emod_nonneg (n % 65536) (b := (m : Int)) (by omega)
    omega
section
variable {w : World} {b o : Nat} {cs : List Value}
theorem CellsAt.alloc (h : CellsAt w b o cs) (x : Obj) : CellsAt (w.alloc x) b o cs := h.fr ((Fr.refl noB w).alloc x) (fun h => h)
theorem CellsAt.drew (h : CellsAt w b o cs) : CellsAt w.drew b o cs := h
theorem CellsAt.drewN (h : CellsAt w b o cs) (n : Nat) : CellsAt (w.drewN n) b o cs := h.fr ((Fr.refl noB w).drewN n) (fun h => h)
theorem cells_new (w : World) (cs : List Value) (t : TypeId) {g : Nat} (hg : g = w.heap.size) : CellsAt (w.alloc (.cells cs.toArray t)) g 0 cs := by subst hg; exact (Blk.alloc_new w cs.toArray t).cells
theorem setRow_new (w : World) (c0 cs : Array Value) (t : TypeId) : (w.alloc (.cells c0 t)).setRow w.heap.size cs = w.alloc (.cells cs t) := by
  simp only [World.setRow, ← World.alloc_eq, World.mk.injEq, and_true, true_and]
  apply Array.ext
  · simp
  · intro i h1 h2
    rw [Array.getElem_modify]
    simp only [Array.size_modify, Array.size_push] at h1
    by_cases e : w.heap.size = i
    · subst e; simp
    · rw [if_neg e, Array.getElem_push_lt (by omega), Array.getElem_push_lt (by omega)]
end

theorem slof_fr {α : Type} {S : Nat → Prop} {w w' : World} {N : Nat} {cells : α → List Value} {ok : α → Prop} {s : SlV} {xs : List α} (h : SlOf w N cells ok s xs) (f : Fr S w w') (hs : ∀ a, s.a = some a → ¬ S a.block) : SlOf w' N cells ok s xs := by
  obtain ⟨h1, h3, h2⟩ := h
  refine ⟨h1, h3, ?_⟩
  rcases h2 with h2 | ⟨b, o, e, hb, hk⟩
  · exact .inl h2
  · exact .inr ⟨b, o, e, f.lt hb, fun k x hx => ⟨(hk k x hx).1.fr f (hs _ e), (hk k x hx).2⟩⟩

section
variable {P : Program} {ops : Array Oper}
/-- A store of a whole struct into the variable that was made last. -/
theorem wpList_store_new {rest : List Oper} {o : Oper} {a : Act} {w : World} {Q : Exit → Act → World → Prop} (hgd : o.guard = none) (ty : TypeId) (x y : Operand) (ho : o.op = .store ty x y) (c0 : Array Value) (t : TypeId) (cs : List Value) (g : Nat)
    (hx : a.eval x = .pointer (some ⟨g, 0, none⟩)) (hy : a.eval y = .agg cs.toArray) (hg : g = w.heap.size) (hi : (P.info? ty).map (·.size) = some cs.length) (hold : c0.size = cs.length) (h1 : cs.all (·.oneCell') = true)
    (h : wpList P ops Q rest (a.put o.dst undef) (w.alloc (.cells cs.toArray t))) : wpList P ops Q (o :: rest) a (w.alloc (.cells c0 t)) := by
  subst hg
  refine wpList_store_row hgd ty x y ho _ cs.toArray hx hy t c0 (heap_alloc_new _ _) (by simpa using hi) (by simpa using hold) (by simpa using h1) ?_
  rw [setRow_new]
  exact h

/-- A comparison of two structs. -/
theorem wpList_eqs {rest : List Oper} {o : Oper} {a : Act} {w : World} {Q : Exit → Act → World → Prop} (hw : Region.wanted o (yielded ops a.tmps) = true) (neg : Bool) (t : TypeId) (x y : Operand) (ho : o.op = .binOp (if neg then .neq else .eql) t x y t) (xs ys : Array Value)
    (hx : a.eval x = .agg xs) (hy : a.eval y = .agg ys) (r : Bool) (hm : P.eqGuardType P.depth t = false) (he : (Op.equal t (.agg xs) (.agg ys)).run P w = .ok r w)
    (h : wpList P ops Q rest (a.put o.dst (.bool (neg ^^ r))) w) : wpList P ops Q (o :: rest) a w := by
  refine wpList_step fun K hK => ?_
  rw [if_pos hw]
  have he' : (Op.equalIn 10000 t (.agg xs) (.agg ys)).run P w = .ok r w := he
  cases neg with
  | false =>
    unfold Oper.wp execOp
    simp only [ho, hx, hy, Bool.false_eq_true, if_false]
    rw [exec_v (v := .bool r) (w' := w)]
    · exact hK _ _ (by simpa using h)
    · rw [Sem.run_bind, run_eqGuard_agg _ _ _ _ _ _ _ hm]
      simp only [Result.andThen_ok]
      rw [run_eql_struct, he']
      rfl
  | true =>
    unfold Oper.wp execOp
    simp only [ho, hx, hy, if_true]
    rw [exec_v (v := .bool (!r)) (w' := w)]
    · exact hK _ _ (by simpa using h)
    · rw [Sem.run_bind, run_eqGuard_agg _ _ _ _ _ _ _ hm]
      simp only [Result.andThen_ok]
      rw [run_neq_struct, he']
      rfl
theorem exec_eqs {o : Oper} {a : Act} {w : World} (neg : Bool) (t : TypeId) (x y : Operand) (ho : o.op = .binOp (if neg then .neq else .eql) t x y t) (xs ys : Array Value)
    (hx : a.eval x = .agg xs) (hy : a.eval y = .agg ys) (r : Bool) (hm : P.eqGuardType P.depth t = false) (he : (Op.equal t (.agg xs) (.agg ys)).run P w = .ok r w) : (execOp a.eval o).run P w = .ok (.value (.bool (neg ^^ r))) w := by
  have he' : (Op.equalIn 10000 t (.agg xs) (.agg ys)).run P w = .ok r w := he
  unfold execOp
  cases neg with
  | false =>
    simp only [ho, hx, hy, Bool.false_eq_true, if_false]
    refine exec_v ?_
    rw [Sem.run_bind, run_eqGuard_agg _ _ _ _ _ _ _ hm]
    simp only [Result.andThen_ok]
    rw [run_eql_struct, he']
    simp
  | true =>
    simp only [ho, hx, hy, if_true]
    refine exec_v ?_
    rw [Sem.run_bind, run_eqGuard_agg _ _ _ _ _ _ _ hm]
    simp only [Result.andThen_ok]
    rw [run_neq_struct, he']
    simp
theorem wpMix_eqs {S : World → Prop} {Q : Act → World → Prop} {rest : List Oper} {o : Oper} {a : Act} {w : World} (hw : Region.wanted o (yielded ops a.tmps) = true) (neg : Bool) (t : TypeId) (x y : Operand) (ho : o.op = .binOp (if neg then .neq else .eql) t x y t) (xs ys : Array Value)
    (hx : a.eval x = .agg xs) (hy : a.eval y = .agg ys) (r : Bool) (hm : P.eqGuardType P.depth t = false) (he : ∀ w, (Op.equal t (.agg xs) (.agg ys)).run P w = .ok r w)
    (h : wpMix P ops S Q rest (a.put o.dst (.bool (neg ^^ r))) w) : wpMix P ops S Q (o :: rest) a w := by
  unfold wpMix mOper
  rw [if_pos hw, if_pos (by rw [ho]; cases neg <;> rfl)]
  refine ⟨_, fun w hw => ?_, h⟩
  unfold Oper.quietAt
  rw [exec_eqs neg t x y ho xs ys hx hy r hm (he w)]
  exact ⟨rfl, rfl⟩
theorem wpQuiet_eqs {C : World → Prop} {Q : Act → Prop} {rest : List Oper} {o : Oper} {a : Act} (hg : o.guard = none) (neg : Bool) (t : TypeId) (x y : Operand) (ho : o.op = .binOp (if neg then .neq else .eql) t x y t) (xs ys : Array Value)
    (hx : a.eval x = .agg xs) (hy : a.eval y = .agg ys) (r : Bool) (hm : P.eqGuardType P.depth t = false) (he : ∀ w, (Op.equal t (.agg xs) (.agg ys)).run P w = .ok r w)
    (h : wpQuiet P ops C Q rest (a.put o.dst (.bool (neg ^^ r)))) : wpQuiet P ops C Q (o :: rest) a := by
  unfold wpQuiet
  rw [if_pos (by simp [Region.wanted, hg])]
  refine ⟨_, fun w hw => ?_, h⟩
  unfold Oper.quietAt
  rw [exec_eqs neg t x y ho xs ys hx hy r hm (he w)]
  exact ⟨rfl, rfl⟩
end

/-- A world in which at most the blocks in S have changed. -/
structure GrowS (S : Nat → Prop) (w : World) where
  v : World
  fr : Fr S w v
instance growsNonempty (S : Nat → Prop) (w : World) : Nonempty (GrowS S w) := ⟨⟨w, Fr.refl _ _⟩⟩
theorem inGrowS {S : Nat → Prop} {w w' : World} (h : Fr S w w') : ∃ z : GrowS S w, w' = z.v := ⟨⟨w', h⟩, rfl⟩
/-! ### A slice of the call's own, whose block is younger than a given world -/
/-- Nothing that was there at w0 has changed, and the slice lies in a younger block. -/
def NewL {α : Type} (w0 w : World) (e : TypeId) (N : Nat) (cells : α → List Value) (s : SlV) (xs : List α) : Prop := OwnL w e N cells s xs ∧ ∀ b, ownB s b → w0.heap.size ≤ b
section
variable {α : Type} {w0 w w' : World} {e : TypeId} {N : Nat} {cells : α → List Value} {s : SlV} {xs : List α}
theorem NewL.nil (w0 w : World) (e : TypeId) (N : Nat) (cells : α → List Value) : NewL w0 w e N cells ⟨none, 0, 0⟩ ([] : List α) := ⟨OwnL.nil _ _ _ _, fun b ⟨_, h, _⟩ => by simp at h⟩
theorem NewL.zero (w0 w : World) (h : Fr noB w0 w) (e : TypeId) (N : Nat) (cells : α → List Value) : NewL w0 (w.alloc (.cells #[] e)) e N cells ⟨some ⟨w.heap.size, 0, none⟩, 0, 0⟩ ([] : List α) :=
  ⟨⟨rfl, .inr ⟨_, [], rfl, Blk.alloc_new _ _ _, by simp, Nat.le_refl _, Nat.zero_le _⟩⟩, fun b ⟨a, ha, hb⟩ => by
    simp only [Option.some.injEq] at ha
    subst ha; subst hb
    exact h.size⟩
theorem NewL.fr (h : NewL w0 w e N cells s xs) (f : Fr noB w w') : NewL w0 w' e N cells s xs := ⟨h.1.fr f (fun _ _ h => h), h.2⟩
theorem NewL.frS {S : Nat → Prop} (h : NewL w0 w e N cells s xs) (f : Fr S w w') (hs : ∀ b, ownB s b → ¬ S b) : NewL w0 w' e N cells s xs := ⟨h.1.fr f hs, h.2⟩
theorem NewL.slof {ok : α → Prop} (h : NewL w0 w e N cells s xs) (hN : ∀ x, (cells x).length = N) (hok : ∀ x ∈ xs, ok x) : SlOf w N cells ok s xs := h.1.slof hN hok
theorem NewL.len (h : NewL w0 w e N cells s xs) : s.len = xs.length := h.1.1
theorem NewL.step (h : NewL w0 w e N cells s xs) (h0 : Fr noB w0 w) {s' : SlV} {ys : List α} (ho : OwnL w' e N cells s' ys) (hf : Fr (ownB s) w w')
    (hor : (s'.a = s.a ∧ w'.heap.size = w.heap.size) ∨ (∃ g', s'.a = some ⟨g', 0, none⟩ ∧ w.heap.size ≤ g' ∧ Fr noB w w')) : NewL w0 w' e N cells s' ys ∧ Fr noB w0 w' := by
  refine ⟨⟨ho, ?_⟩, Fr.trans h0 hf (fun _ _ h => h) (fun x hx hs => by have := h.2 x hs; omega)⟩
  rintro b ⟨x, hx, rfl⟩
  rcases hor with ⟨e1, _⟩ | ⟨g', e1, hg, _⟩
  · exact h.2 _ ⟨x, by rw [← e1]; exact hx, rfl⟩
  · rw [e1] at hx
    simp only [Option.some.injEq] at hx
    subst hx
    have := h0.size
    simp only
    omega
variable {P : Program} {ops : Array Oper}
theorem wpMix_append_new {rest : List Oper} {o : Oper} {a : Act} {Q : Act → World → Prop} (hw : Region.wanted o (yielded ops a.tmps) = true) (sx xx : Operand) (t : TypeId)
    (ho : o.op = .call { callee := .builtin .append, args := #[sx, xx], argTypes := #[t, t] }) (ht : P.underlying t = some (.slice e)) (z : Value) (bytes : Nat)
    (hinfo : (P.info? e).map (fun i => (i.zero, i.size, i.bytes)) = some (some z, N, bytes)) (hzs : z.cells.size = N) (hNp : 0 < N) (hN : ∀ x, (cells x).length = N) (h1c : ∀ x, ∀ u ∈ cells x, u.oneCell' = true)
    (hs : a.eval sx = .slice s.a s.len s.cap) (hown : NewL w0 w e N cells s xs) (h0 : Fr noB w0 w) {ok : α → Prop} {q : SlV} {ys : List α} (hx : a.eval xx = .slice q.a q.len q.cap) (hq : SlOf w N cells ok q ys) (hnil : q.a = none → q.cap = 0)
    (hm : xs.length + ys.length ≤ maxLen) (hbytes : (xs.length + ys.length) * bytes ≤ 140737488355328)
    (h : ∀ s' w', NewL w0 w' e N cells s' (xs ++ ys) → Fr noB w0 w' → Fr (ownB s) w w' → wpMix P ops (fun W => ∃ z : Grow w0, W = z.v) Q rest (a.put o.dst (.slice s'.a s'.len s'.cap)) w') :
    wpMix P ops (fun W => ∃ z : Grow w0, W = z.v) Q (o :: rest) a w :=
  wpMix_append_rows hw sx xx t ho ht z bytes hinfo hzs hNp hN h1c hs hown.1 hx hq hnil hm hbytes fun s' w' h1 h2 h3 => by
    obtain ⟨g1, g2⟩ := hown.step h0 h1 h2 h3
    exact ⟨⟨⟨w', g2⟩, rfl⟩, h s' w' g1 g2 h2⟩
theorem wpList_append_new {rest : List Oper} {o : Oper} {a : Act} {Q : Exit → Act → World → Prop} (hgd : o.guard = none) (sx xx : Operand) (t : TypeId)
    (ho : o.op = .call { callee := .builtin .append, args := #[sx, xx], argTypes := #[t, t] }) (ht : P.underlying t = some (.slice e)) (z : Value) (bytes : Nat)
    (hinfo : (P.info? e).map (fun i => (i.zero, i.size, i.bytes)) = some (some z, N, bytes)) (hzs : z.cells.size = N) (hNp : 0 < N) (hN : ∀ x, (cells x).length = N) (h1c : ∀ x, ∀ u ∈ cells x, u.oneCell' = true)
    (hs : a.eval sx = .slice s.a s.len s.cap) (hown : NewL w0 w e N cells s xs) (h0 : Fr noB w0 w) {ok : α → Prop} {q : SlV} {ys : List α} (hx : a.eval xx = .slice q.a q.len q.cap) (hq : SlOf w N cells ok q ys) (hnil : q.a = none → q.cap = 0)
    (hm : xs.length + ys.length ≤ maxLen) (hbytes : (xs.length + ys.length) * bytes ≤ 140737488355328)
    (h : ∀ s' w', NewL w0 w' e N cells s' (xs ++ ys) → Fr noB w0 w' → Fr (ownB s) w w' → wpList P ops Q rest (a.put o.dst (.slice s'.a s'.len s'.cap)) w') : wpList P ops Q (o :: rest) a w :=
  wpList_append_rows hgd sx xx t ho ht z bytes hinfo hzs hNp hN h1c hs hown.1 hx hq hnil hm hbytes fun s' w' h1 h2 h3 => by
    obtain ⟨g1, g2⟩ := hown.step h0 h1 h2 h3
    exact h s' w' g1 g2 h2
/-- .. and where the slice lies then. -/
theorem wpList_append_newD {rest : List Oper} {o : Oper} {a : Act} {Q : Exit → Act → World → Prop} (hgd : o.guard = none) (sx xx : Operand) (t : TypeId)
    (ho : o.op = .call { callee := .builtin .append, args := #[sx, xx], argTypes := #[t, t] }) (ht : P.underlying t = some (.slice e)) (z : Value) (bytes : Nat)
    (hinfo : (P.info? e).map (fun i => (i.zero, i.size, i.bytes)) = some (some z, N, bytes)) (hzs : z.cells.size = N) (hNp : 0 < N) (hN : ∀ x, (cells x).length = N) (h1c : ∀ x, ∀ u ∈ cells x, u.oneCell' = true)
    (hs : a.eval sx = .slice s.a s.len s.cap) (hown : NewL w0 w e N cells s xs) (h0 : Fr noB w0 w) {ok : α → Prop} {q : SlV} {ys : List α} (hx : a.eval xx = .slice q.a q.len q.cap) (hq : SlOf w N cells ok q ys) (hnil : q.a = none → q.cap = 0)
    (hm : xs.length + ys.length ≤ maxLen) (hbytes : (xs.length + ys.length) * bytes ≤ 140737488355328)
    (h : ∀ s' w', NewL w0 w' e N cells s' (xs ++ ys) → Fr noB w0 w' → Fr (ownB s) w w' → (∀ b, ownB s' b → ownB s b ∨ w.heap.size ≤ b) → wpList P ops Q rest (a.put o.dst (.slice s'.a s'.len s'.cap)) w') : wpList P ops Q (o :: rest) a w :=
  wpList_append_rows hgd sx xx t ho ht z bytes hinfo hzs hNp hN h1c hs hown.1 hx hq hnil hm hbytes fun s' w' h1 h2 h3 => by
    obtain ⟨g1, g2⟩ := hown.step h0 h1 h2 h3
    refine h s' w' g1 g2 h2 ?_
    rintro b ⟨x, hx, rfl⟩
    rcases h3 with ⟨e1, _⟩ | ⟨g', e1, hg, _⟩
    · exact .inl ⟨x, by rw [← e1]; exact hx, rfl⟩
    · rw [e1] at hx
      simp only [Option.some.injEq] at hx
      subst hx
      exact .inr hg
/-- A store of a whole element. -/
theorem wpList_store_elem {rest : List Oper} {o : Oper} {a : Act} {Q : Exit → Act → World → Prop} (hgd : o.guard = none) (ty : TypeId) (x y : Operand) (ho : o.op = .store ty x y) (hown : OwnL w e N cells s xs) (hN : ∀ x, (cells x).length = N) {g : Nat} (hg : s.a = some ⟨g, 0, none⟩)
    (k : Nat) (hk : k < xs.length) (v : α) (hx : a.eval x = .pointer (some ⟨g, k * N, none⟩)) (hy : a.eval y = .agg (cells v).toArray) (hi : (P.info? ty).map (·.size) = some N) (h1c : ∀ u ∈ cells v, u.oneCell' = true)
    (h : ∀ w', OwnL w' e N cells s (xs.set k v) → Fr (oneB g) w w' → w'.heap.size = w.heap.size → wpList P ops Q rest (a.put o.dst undef) w') : wpList P ops Q (o :: rest) a w :=
  wpList_plain hgd fun _ hK => by
    obtain ⟨w', hr, h1, h2, h3⟩ := hown.setElem hN hg hk (t := ty) (P := P) hi h1c
    unfold Oper.wp execOp
    simp only [ho, hx, hy, Instr.storeAt, Instr.sureAddr, Sem.run_bind, Sem.run_pure, Result.andThen_ok, hr]
    exact hK _ _ (h w' h1 h2 h3)
/-- One element as a slice literal. -/
theorem slof_one {w : World} {ok : α → Prop} {x : α} (hN : ∀ x, (cells x).length = N) (t : TypeId) (hok : ok x) : SlOf (w.alloc (.cells (cells x).toArray t)) N cells ok ⟨some ⟨w.heap.size, 0, none⟩, 1, 1⟩ [x] := by
  have h := slof_blk (ok := ok) (xs := [x]) (junk := []) hN (by simpa using Blk.alloc_new w (cells x).toArray t) (fun y hy => by simp at hy; subst hy; exact hok) 1 (by simp [maxLen])
  exact h
end
end Go.Proofs.Ytgjabgneapdbiaa

namespace Go.Proofs.Ytgjabgneapdbiaa
open Go.RowKit
set_option linter.unusedSimpArgs false
set_option linter.unusedVariables false

section
variable {P : Program} {ops : Array Oper} {md : Region.Mode} {S : World → Prop} {D : Act → World → Prop} {L : Array Bool → Act → World → Prop} {fuel : Nat} {listed : Array Bool} {a : Act} {w : World}

def closedB (md : Region.Mode) (ops : Array Oper) (listed : Array Bool) : Bool :=
  (List.range ops.size).all fun j => !listed.getD j false || match ops[j]? with | some o => o.after.all (fun e => !Region.binds md e || listed.getD e.on false) | none => true
theorem closed_of {listed : Array Bool} (h : closedB md ops listed = true) : ClosedL md ops listed := fun j oj hj hl e he hb => by
  simp only [closedB, List.all_eq_true, List.mem_range] at h
  have h1 := h j (Array.getElem?_eq_some_iff.1 hj).1
  simp only [hj, hl, Bool.not_true, Bool.false_or] at h1
  have h2 := Array.all_eq_true'.1 h1 e he
  simpa [hb] using h2
theorem any_start {id : Nat} {Q' : Exit → Act → World → Prop} {l : List Oper} (S : World → Prop) (n : Nat) (hn : l.length = n) (hm : P.follows .mixedOrders = true) (hS : S w.drew)
    (h : ∀ L, LastL .any l.toArray (ClosedL .any l.toArray) L → (∀ listed a w, Region.ready .any l.toArray listed = [] → Q' .normal a w → L listed a w) → wpAnyG P .any l.toArray S (fun a' w' => Q' .normal a' w') L n (Array.replicate n false) a w.drew) : (Code.region id l.toArray true).wp P Q' a w := by
  subst hn
  refine wp_region_any hm (wpAny_of_mix (S := S) (Q := fun a' w' => Q' .normal a' w') (fun _ _ _ h => h) _ _ _ _ hS ?_)
  have := h (fun listed a w => Region.ready .any l.toArray listed = [] ∧ Q' .normal a w) (fun listed i a w _ hi h j hj => by
    by_cases e : j = i
    · exact e
    · have := ready_mono hj e
      rw [h.1] at this
      cases this) (fun _ _ _ h1 h2 => ⟨h1, h2⟩)
  simpa using this
/-- .. whose last operation may be whatever it is. -/
theorem any_startT {id : Nat} {Q' : Exit → Act → World → Prop} {l : List Oper} (S : World → Prop) (n : Nat) (hn : l.length = n + 1) (hm : P.follows .mixedOrders = true) (hB : lastB .any l.toArray n = true) (hS : S w.drew)
    (h : ∀ L, LastL .any l.toArray (ClosedL .any l.toArray) L → (∀ listed a w, closedB .any l.toArray listed = true → Region.ready .any l.toArray listed = [n] → wpList P l.toArray Q' (l.drop n) a w → L listed a w) → wpAnyG P .any l.toArray S (fun _ _ => False) L n (Array.replicate (n + 1) false) a w.drew) : (Code.region id l.toArray true).wp P Q' a w := by
  have hsz : l.toArray.size = n + 1 := by simpa using hn
  have hL : LastL .any l.toArray (ClosedL .any l.toArray) (fun listed a w => Region.ready .any l.toArray listed = [n] ∧ ClosedL .any l.toArray listed ∧ wpList P l.toArray Q' (l.drop n) a w) := fun listed i a w hcl hi h j hj => by
    by_cases e : j = i
    · exact e
    · exfalso
      have h1 := ready_mono hj e
      rw [h.1] at h1
      have hjn : j = n := by simpa using h1
      subst hjn
      obtain ⟨hun, oi, hoi, _⟩ := mem_ready.1 hi
      have hin : i < j := by
        have := (Array.getElem?_eq_some_iff.1 hoi).1
        rw [hsz] at this
        omega
      have := last_ready hcl hB hj hin
      rcases Nat.lt_or_ge i listed.size with h' | h'
      · simp [h'] at hun this; rw [hun] at this; cases this
      · simp [Array.getElem?_eq_none h'] at this
  have hall := h _ hL (fun listed a w h1 h2 h3 => ⟨h2, closed_of h1, h3⟩)
  refine wp_region_any hm ?_
  have := wpAny_of_mixG (m := 1) (Q' := Q') (md := .any) (fun _ _ _ h => h.elim) (fun listed a' w' hw' h => tail_leaf hn hB h) _ _ _ _ hS hall
  rw [hsz]
  exact this
theorem any_calm (k : Nat) {o : Oper} (hL : LastL md ops (ClosedL md ops) L) (hk : ops[k]? = some o) (hs : Region.noSelect ops = true) (hcl : closedB md ops listed = true) (hf : Region.free md ops listed k = true) (hr : (Region.ready md ops listed).contains k = true) (hS : S w)
    (hw : Region.wanted o (yielded ops a.tmps) = true) (hc : calmOp o.op = true)
    (h : ∀ K : Act → Prop, (∀ a, wpAnyG P md ops S D L fuel (listed.setIfInBounds k true) a w → K a) → o.quiet P a S K) : wpAnyG P md ops S D L (fuel + 1) listed a w := by
  obtain ⟨v, hv, hn⟩ := h _ (fun _ h => h)
  exact wpAnyG_first (fun _ _ h hj => h.set hj) hL hk (Region.noSelect_spec hs) fuel listed a w hS (closed_of hcl) (Region.free_spec hk hf) (by simpa using hr) (.inl ⟨hw, hc, hv⟩) hn
theorem any_skip (k : Nat) {o : Oper} (hL : LastL md ops (ClosedL md ops) L) (hk : ops[k]? = some o) (hs : Region.noSelect ops = true) (hcl : closedB md ops listed = true) (hf : Region.free md ops listed k = true) (hr : (Region.ready md ops listed).contains k = true) (hS : S w)
    (hw : Region.wanted o (yielded ops a.tmps) = false) (h : wpAnyG P md ops S D L fuel (listed.setIfInBounds k true) (a.put o.dst undef) w) : wpAnyG P md ops S D L (fuel + 1) listed a w :=
  wpAnyG_first (fun _ _ h hj => h.set hj) hL hk (Region.noSelect_spec hs) fuel listed a w hS (closed_of hcl) (Region.free_spec hk hf) (by simpa using hr) (.inr ⟨hw, rfl⟩) h
theorem any_load_at (k : Nat) {o : Oper} (hL : LastL md ops (ClosedL md ops) L) (hk : ops[k]? = some o) (hs : Region.noSelect ops = true) (hcl : closedB md ops listed = true) (hf : Region.free md ops listed k = true) (hr : (Region.ready md ops listed).contains k = true) (hS : S w)
    (hw : Region.wanted o (yielded ops a.tmps) = true) (ty : TypeId) (x : Operand) (ho : o.op = .load ty x)
    (b off : Nat) (hx : a.eval x = .pointer (some ⟨b, off, none⟩)) (cs : List Value) (hc : ∀ w, S w → CellsAt w b off cs) (d : TypeDesc)
    (hu : P.underlying ty = some d) (hd : (match d with | .struct _ | .array _ _ => true | _ => false) = true) (hi : (P.info? ty).map (·.size) = some cs.length)
    (h : wpAnyG P md ops S D L fuel (listed.setIfInBounds k true) (a.put o.dst (.agg cs.toArray)) w) : wpAnyG P md ops S D L (fuel + 1) listed a w := by
  refine any_calm k hL hk hs hcl hf hr hS hw (by rw [ho]; rfl) (fun K hK => ⟨_, fun w hw => ?_, hK _ h⟩)
  unfold Oper.quietAt execOp
  simp only [ho, hx, Instr.loadAt, Instr.sureAddr, Sem.run_bind, Sem.run_pure, Result.andThen_ok, run_loadVar_at w ty b off cs (hc w hw) d hu hd hi]
  exact ⟨rfl, rfl⟩
theorem any_leaf (h : L listed a w) : wpAnyG P md ops S D L 0 listed a w := h
theorem mOp_run {k : Nat} {o : Oper} {K : Act → World → Prop} (hk : ops[k]? = some o) (hg : o.guard = none) (hc : calmOp o.op = false) {v : Value} {w' : World} (hr : (execOp a.eval o).run P w = .ok (.value v) w') (hS : S w') (h : K (a.put o.dst v) w') :
    mOp P ops S k K a w := by
  unfold mOp mOper
  simp only [hk]
  rw [if_pos (by simp [Region.wanted, hg]), if_neg (by rw [hc]; exact Bool.false_ne_true)]
  unfold Oper.wp
  rw [hr]
  exact ⟨by cases o.dst <;> rfl, hS, h⟩
theorem any_one (k : Nat) {o : Oper} (hk : ops[k]? = some o) (hr : Region.ready md ops listed = [k]) (h : mOp P ops S k (wpAnyG P md ops S D L fuel (listed.setIfInBounds k true)) a w) : wpAnyG P md ops S D L (fuel + 1) listed a w :=
  ⟨fun h0 => by rw [hr] at h0; simp at h0, fun i hi => by rw [hr] at hi; simp at hi; subst hi; exact h⟩
theorem any_two (i j : Nat) (hr : Region.ready md ops listed = [i, j]) (h1 : mOp P ops S i (wpAnyG P md ops S D L fuel (listed.setIfInBounds i true)) a w) (h2 : mOp P ops S j (wpAnyG P md ops S D L fuel (listed.setIfInBounds j true)) a w) : wpAnyG P md ops S D L (fuel + 1) listed a w :=
  ⟨fun h0 => by rw [hr] at h0; simp at h0, fun x hx => by rw [hr] at hx; simp at hx; rcases hx with rfl | rfl <;> assumption⟩
theorem mOp_spine {k : Nat} {o : Oper} {K : Act → World → Prop} (hk : ops[k]? = some o) (hg : Region.wanted o (yielded ops a.tmps) = true) (hc : calmOp o.op = false)
    (h : ∀ K' : Act → World → Prop, (∀ a' w', a'.defers = a.defers → S w' → K a' w' → K' a' w') → o.wp P a w K' noQ) : mOp P ops S k K a w := by
  unfold mOp mOper
  simp only [hk]
  rw [if_pos hg, if_neg (by rw [hc]; exact Bool.false_ne_true)]
  exact h _ (fun _ _ h1 h2 h3 => ⟨h1, h2, h3⟩)
end

theorem any_append_new {α : Type} {P : Program} {ops : Array Oper} {md : Region.Mode} {D : Act → World → Prop} {L : Array Bool → Act → World → Prop} {fuel : Nat} {listed : Array Bool} {a : Act} {w w0 : World} {e t : TypeId} {N : Nat} {cells : α → List Value} {ok : α → Prop} {s q : SlV} {xs ys : List α}
    (k : Nat) {o : Oper} (hk : ops[k]? = some o) (hr : Region.ready md ops listed = [k]) (hg : o.guard = none) (sx xx : Operand)
    (ho : o.op = .call { callee := .builtin .append, args := #[sx, xx], argTypes := #[t, t] }) (ht : P.underlying t = some (.slice e)) (z : Value) (bytes : Nat)
    (hinfo : (P.info? e).map (fun i => (i.zero, i.size, i.bytes)) = some (some z, N, bytes)) (hzs : z.cells.size = N) (hNp : 0 < N) (hN : ∀ x, (cells x).length = N) (h1c : ∀ x, ∀ u ∈ cells x, u.oneCell' = true)
    (hs : a.eval sx = .slice s.a s.len s.cap) (hown : NewL w0 w e N cells s xs) (h0 : Fr noB w0 w) (hx : a.eval xx = .slice q.a q.len q.cap) (hq : SlOf w N cells ok q ys) (hnil : q.a = none → q.cap = 0)
    (hm : xs.length + ys.length ≤ maxLen) (hbytes : (xs.length + ys.length) * bytes ≤ 140737488355328)
    (h : ∀ s' w', NewL w0 w' e N cells s' (xs ++ ys) → Fr noB w0 w' → Fr (ownB s) w w' → wpAnyG P md ops (fun W => ∃ z : Grow w0, W = z.v) D L fuel (listed.setIfInBounds k true) (a.put o.dst (.slice s'.a s'.len s'.cap)) w') :
    wpAnyG P md ops (fun W => ∃ z : Grow w0, W = z.v) D L (fuel + 1) listed a w := by
  obtain ⟨s', w', hr', h1, h2, h3⟩ := run_append_rows (P := P) (ty := o.type) ht z bytes hinfo hzs hNp hN h1c hown.1 hq hnil hm hbytes
  obtain ⟨g1, g2⟩ := hown.step h0 h1 h2 h3
  refine any_one k hk hr (mOp_run hk hg (by rw [ho]; rfl) (v := .slice s'.a s'.len s'.cap) (w' := w') ?_ ⟨⟨w', g2⟩, rfl⟩ (h s' w' g1 g2 h2))
  unfold execOp
  simp only [ho, resolve, invoke, builtin, Sem.run_bind, Sem.run_pure, Result.andThen_ok, List.map_toArray, List.map_cons, List.map_nil, hs, hx, hr']

theorem run_build1 {P : Program} {t e : TypeId} (ht : P.underlying t = some (.slice e)) (z : Value) (size : Nat) (hinfo : (P.info? e).map (fun i => (i.zero, i.size)) = some (some z, size)) (u : Value) (C : Array Value)
    (hsz : size ≤ 2 ^ 24) (h0 : size ≠ 0) (hf : Instr.fill (fun j => some (j * size, size)) ((Array.range (1 * size)).map (z.cells[· % z.cells.size]!)) [(0, u)] = some C) (w : World) :
    (Instr.buildSlice t 1 #[(0, u)]).run P w = .ok (.slice (some ⟨w.heap.size, 0, none⟩) 1 1) (w.alloc (.cells C e)) :=
  run_buildSlice_as ht z size hinfo 1 #[(0, u)] C (by omega) (by omega) hf w

theorem eval_put_ne (a : Act) (d x : Tmp) (v : Value) (h : d ≠ x) : (a.put (some d) v).eval (.tmp x) = a.eval (.tmp x) := by
  show (a.tmps.setIfInBounds d v).getD x undef = a.tmps.getD x undef
  rw [Array.getD_eq_getD_getElem?, Array.getD_eq_getD_getElem?, Array.getElem?_setIfInBounds_ne h]
theorem eval_put_eq (a : Act) (d : Tmp) (v : Value) (h : d < a.tmps.size) : (a.put (some d) v).eval (.tmp d) = v := by
  show (a.tmps.setIfInBounds d v).getD d undef = v
  rw [Array.getD_eq_getD_getElem?, Array.getElem?_setIfInBounds_self_of_lt h]
  rfl
theorem size_put (a : Act) (d : Tmp) (v : Value) : (a.put (some d) v).tmps.size = a.tmps.size := by
  show (a.tmps.setIfInBounds d v).size = a.tmps.size
  simp

theorem put_swap (a : Act) {d d' : Tmp} (v v' : Value) (h : d ≠ d') : (a.put (some d) v).put (some d') v' = (a.put (some d') v').put (some d) v := by
  show { a with tmps := (a.tmps.setIfInBounds d v).setIfInBounds d' v' } = { a with tmps := (a.tmps.setIfInBounds d' v').setIfInBounds d v }
  rw [Array.setIfInBounds_comm _ _ h]
/-- append(append([]T{}, q...), v) -/
theorem any_app2 {α : Type} {P : Program} {ops : Array Oper} {md : Region.Mode} {D : Act → World → Prop} {L : Array Bool → Act → World → Prop} {fuel : Nat} {listed : Array Bool} {a : Act} {w w0 : World} {e t : TypeId} {N : Nat} {cells : α → List Value} {ok : α → Prop}
    (i0 i1 i2 i3 : Nat) (d0 d1 d2 d3 x y : Tmp) {o0 o1 o2 o3 : Oper} (h0 : ops[i0]? = some o0) (h1 : ops[i1]? = some o1) (h2 : ops[i2]? = some o2) (h3 : ops[i3]? = some o3)
    (g0 : o0.guard = none) (g1 : o1.guard = none) (g2 : o2.guard = none) (g3 : o3.guard = none) (e0 : o0.dst = some d0) (e1 : o1.dst = some d1) (e2 : o2.dst = some d2) (e3 : o3.dst = some d3)
    (p0 : o0.op = .buildSlice t 0 #[]) (p1 : o1.op = .call { callee := .builtin .append, args := #[.tmp d0, .tmp x], argTypes := #[t, t] }) (p2 : o2.op = .buildSlice t 1 #[(0, .tmp y)]) (p3 : o3.op = .call { callee := .builtin .append, args := #[.tmp d1, .tmp d2], argTypes := #[t, t] })
    (r1 : Region.ready md ops listed = [i0, i2]) (r2 : Region.ready md ops (listed.setIfInBounds i0 true) = [i1, i2]) (r3 : Region.ready md ops ((listed.setIfInBounds i0 true).setIfInBounds i1 true) = [i2])
    (r4 : Region.ready md ops ((listed.setIfInBounds i0 true).setIfInBounds i2 true) = [i1]) (r5 : Region.ready md ops (listed.setIfInBounds i2 true) = [i0]) (r7 : Region.ready md ops (((listed.setIfInBounds i0 true).setIfInBounds i1 true).setIfInBounds i2 true) = [i3])
    (hne : i0 ≠ i1 ∧ i0 ≠ i2 ∧ i1 ≠ i2 ∧ d0 ≠ d1 ∧ d0 ≠ d2 ∧ d1 ≠ d2 ∧ d0 ≠ x ∧ d2 ≠ x ∧ d0 ≠ y ∧ d1 ≠ y) (hd0 : d0 < a.tmps.size) (hd1 : d1 < a.tmps.size) (hd2 : d2 < a.tmps.size)
    (ht : P.underlying t = some (.slice e)) (z : Value) (bytes : Nat) (hinfo : (P.info? e).map (fun i => (i.zero, i.size, i.bytes)) = some (some z, N, bytes)) (hzs : z.cells.size = N) (hNp : 0 < N) (hNs : N ≤ 2 ^ 24) (hN : ∀ x, (cells x).length = N) (h1c : ∀ x, ∀ u ∈ cells x, u.oneCell' = true)
    (v : α) (hok : ok v) (hfill : Instr.fill (fun j => some (j * N, N)) ((Array.range (1 * N)).map (z.cells[· % z.cells.size]!)) [(0, .agg (cells v).toArray)] = some (cells v).toArray)
    {q : SlV} {ys : List α} (hx : a.eval (.tmp x) = .slice q.a q.len q.cap) (hy : a.eval (.tmp y) = .agg (cells v).toArray) (hq : ∀ W, Fr noB w0 W → SlOf W N cells ok q ys) (hnil : q.a = none → q.cap = 0)
    (hbytes : (ys.length + 1) * bytes ≤ 140737488355328) (hm : ys.length + 1 ≤ maxLen) (hw0 : Fr noB w0 w)
    (h : ∀ v0 v1 v2 s' w', NewL w0 w' e N cells s' (ys ++ [v]) → Fr noB w0 w' →
      wpAnyG P md ops (fun W => ∃ z : Grow w0, W = z.v) D L fuel ((((listed.setIfInBounds i0 true).setIfInBounds i1 true).setIfInBounds i2 true).setIfInBounds i3 true) ((((a.put (some d0) v0).put (some d1) v1).put (some d2) v2).put (some d3) (.slice s'.a s'.len s'.cap)) w') :
    wpAnyG P md ops (fun W => ∃ z : Grow w0, W = z.v) D L (fuel + 1 + 1 + 1 + 1) listed a w := by
  obtain ⟨n01, n02, n12, m01, m02, m12, mx0, mx2, my0, my1⟩ := hne
  have hinfo2 : (P.info? e).map (fun i => (i.zero, i.size)) = some (some z, N) := by
    obtain ⟨i, hi, hi2⟩ := Option.map_eq_some_iff.1 hinfo
    simp only [Prod.mk.injEq] at hi2
    rw [hi]; simp [hi2.1, hi2.2.1]
  have hinf : (P.info? e).isSome = true := by
    obtain ⟨i, hi, hi2⟩ := Option.map_eq_some_iff.1 hinfo
    rw [hi]; rfl
  have c0 : calmOp o0.op = false := by rw [p0]; rfl
  have c1 : calmOp o1.op = false := by rw [p1]; rfl
  have c2 : calmOp o2.op = false := by rw [p2]; rfl
  have c3 : calmOp o3.op = false := by rw [p3]; rfl
  have inG : ∀ {W : World}, Fr noB w0 W → ∃ z : Grow w0, W = z.v := fun h => ⟨⟨_, h⟩, rfl⟩
  -- the first literal
  have b0 : ∀ (a : Act) (W : World), (execOp a.eval o0).run P W = .ok (.value (.slice (some ⟨W.heap.size, 0, none⟩) 0 0)) (W.alloc (.cells #[] e)) := fun a W => by
    unfold execOp
    simp only [p0, List.map_toArray, List.map_nil]
    exact exec_v (run_build0 ht hinf W)
  have b2 : ∀ (a : Act) (W : World), a.eval (.tmp y) = .agg (cells v).toArray → (execOp a.eval o2).run P W = .ok (.value (.slice (some ⟨W.heap.size, 0, none⟩) 1 1)) (W.alloc (.cells (cells v).toArray e)) := fun a W hy => by
    unfold execOp
    simp only [p2, List.map_toArray, List.map_cons, List.map_nil, hy]
    exact exec_v (run_build1 ht z N hinfo2 _ _ hNs (by omega) hfill W)
  have b1 : ∀ (a : Act) (W : World) (s : SlV), NewL w0 W e N cells s ([] : List α) → Fr noB w0 W → a.eval (.tmp d0) = .slice s.a s.len s.cap → a.eval (.tmp x) = .slice q.a q.len q.cap →
      ∃ s' W', (execOp a.eval o1).run P W = .ok (.value (.slice s'.a s'.len s'.cap)) W' ∧ NewL w0 W' e N cells s' ys ∧ Fr noB w0 W' ∧ Fr (ownB s) W W' ∧ (∀ b, ownB s' b → ownB s b ∨ W.heap.size ≤ b) := fun a W s hn hf hs hx => by
    obtain ⟨s', W', hr, j1, j2, j3⟩ := run_append_rows (P := P) (ty := o1.type) ht z bytes hinfo hzs hNp hN h1c hn.1 (hq W hf) hnil (by simp; omega) (by simp; exact Nat.le_trans (Nat.mul_le_mul_right _ (Nat.le_succ _)) hbytes)
    obtain ⟨k1, k2⟩ := hn.step hf j1 j2 j3
    refine ⟨s', W', ?_, by simpa using k1, k2, j2, ?_⟩
    · unfold execOp
      simp only [p1, resolve, invoke, builtin, Sem.run_bind, Sem.run_pure, Result.andThen_ok, List.map_toArray, List.map_cons, List.map_nil, hs, hx, hr]
    · rintro b ⟨x, hx, rfl⟩
      rcases j3 with ⟨e1, _⟩ | ⟨g', e1, hg, _⟩
      · exact .inl ⟨x, by rw [← e1]; exact hx, rfl⟩
      · rw [e1] at hx
        simp only [Option.some.injEq] at hx
        subst hx
        exact .inr hg
  have fin : ∀ (v0 : Value) (s1 q2 : SlV) (W : World), NewL w0 W e N cells s1 ys → Fr noB w0 W → SlOf W N cells ok q2 [v] → q2.a ≠ none →
      wpAnyG P md ops (fun W => ∃ z : Grow w0, W = z.v) D L (fuel + 1) (((listed.setIfInBounds i0 true).setIfInBounds i1 true).setIfInBounds i2 true) (((a.put (some d0) v0).put (some d1) (.slice s1.a s1.len s1.cap)).put (some d2) (.slice q2.a q2.len q2.cap)) W := fun v0 s1 q2 W hn hf hq2 hne => by
    have ev1 : (((a.put (some d0) v0).put (some d1) (.slice s1.a s1.len s1.cap)).put (some d2) (.slice q2.a q2.len q2.cap)).eval (.tmp d1) = .slice s1.a s1.len s1.cap := by
      rw [eval_put_ne _ _ _ _ (fun h => m12 h.symm), eval_put_eq _ _ _ (by rw [size_put]; exact hd1)]
    have ev2 : (((a.put (some d0) v0).put (some d1) (.slice s1.a s1.len s1.cap)).put (some d2) (.slice q2.a q2.len q2.cap)).eval (.tmp d2) = .slice q2.a q2.len q2.cap := by
      rw [eval_put_eq _ _ _ (by rw [size_put, size_put]; exact hd2)]
    obtain ⟨s', W', hr, j1, j2, j3⟩ := run_append_rows (P := P) (ty := o3.type) ht z bytes hinfo hzs hNp hN h1c hn.1 hq2 (fun h => absurd h hne) (by simpa using hm) (by simpa using hbytes)
    obtain ⟨k1, k2⟩ := hn.step hf j1 j2 j3
    refine any_one i3 h3 r7 (mOp_run h3 g3 c3 (v := .slice s'.a s'.len s'.cap) (w' := W') ?_ (inG k2) ?_)
    · unfold execOp
      simp only [p3, resolve, invoke, builtin, Sem.run_bind, Sem.run_pure, Result.andThen_ok, List.map_toArray, List.map_cons, List.map_nil, ev1, ev2, hr]
    · rw [e3]
      exact h _ _ _ s' W' k1 k2
  refine any_two i0 i2 r1 (mOp_run h0 g0 c0 (b0 a w) (inG (hw0.alloc _)) ?_) (mOp_run h2 g2 c2 (b2 a w hy) (inG (hw0.alloc _)) ?_)
  · -- the empty literal first
    rw [e0]
    have hn0 := NewL.zero w0 w hw0 e N cells (α := α)
    have hf0 := hw0.alloc (.cells #[] e)
    refine any_two i1 i2 r2 ?_ ?_
    · obtain ⟨s1, W1, hr, k1, k2, k3, k4⟩ := b1 (a.put (some d0) (.slice (some ⟨w.heap.size, 0, none⟩) 0 0)) _ _ hn0 hf0 (eval_put_eq _ _ _ hd0) (by rw [eval_put_ne _ _ _ _ mx0]; exact hx)
      refine mOp_run h1 g1 c1 hr (inG k2) ?_
      rw [e1]
      refine any_one i2 h2 r3 (mOp_run h2 g2 c2 (b2 _ W1 (by rw [eval_put_ne _ _ _ _ my1, eval_put_ne _ _ _ _ my0]; exact hy)) (inG (k2.alloc _)) ?_)
      rw [e2]
      exact fin _ s1 ⟨some ⟨W1.heap.size, 0, none⟩, 1, 1⟩ _ (k1.fr ((Fr.refl _ _).alloc _)) (k2.alloc _) (slof_one hN e hok) (by simp)
    · refine mOp_run h2 g2 c2 (b2 _ _ (by rw [eval_put_ne _ _ _ _ my0]; exact hy)) (inG (hf0.alloc _)) ?_
      rw [e2]
      have hn1 := hn0.fr ((Fr.refl noB _).alloc (.cells (cells v).toArray e))
      have hone := slof_one (w := w.alloc (.cells #[] e)) (ok := ok) (x := v) hN e hok
      obtain ⟨s1, W1, hr, k1, k2, k3, k4⟩ := b1 ((a.put (some d0) (.slice (some ⟨w.heap.size, 0, none⟩) 0 0)).put (some d2) (.slice (some ⟨(w.alloc (.cells #[] e)).heap.size, 0, none⟩) 1 1)) _ _ hn1 (hf0.alloc _)
        (by rw [eval_put_ne _ _ _ _ (fun h => m02 h.symm)]; exact eval_put_eq _ _ _ hd0) (by rw [eval_put_ne _ _ _ _ mx2, eval_put_ne _ _ _ _ mx0]; exact hx)
      refine any_one i1 h1 r4 (mOp_run h1 g1 c1 hr (inG k2) ?_)
      rw [e1, Array.setIfInBounds_comm _ _ (fun h => n12 h.symm), put_swap _ _ _ (fun h => m12 h.symm)]
      refine fin _ s1 ⟨some ⟨(w.alloc (.cells #[] e)).heap.size, 0, none⟩, 1, 1⟩ _ k1 k2 (slof_fr hone k3 ?_) (by simp)
      rintro x hx ⟨y, hy, hb⟩
      simp only [Option.some.injEq] at hx hy
      subst hx; subst hy
      simp at hb
  · -- the literal of one first
    rw [e2]
    have hf0 := hw0.alloc (.cells (cells v).toArray e)
    have hone := slof_one (w := w) (ok := ok) (x := v) hN e hok
    have hn0 := NewL.zero w0 _ hf0 e N cells (α := α)
    refine any_one i0 h0 r5 (mOp_run h0 g0 c0 (b0 _ _) (inG (hf0.alloc _)) ?_)
    rw [e0]
    have hone' := slof_fr hone ((Fr.refl noB _).alloc (.cells #[] e)) (fun _ _ h => h)
    obtain ⟨s1, W1, hr, k1, k2, k3, k4⟩ := b1 ((a.put (some d2) (.slice (some ⟨w.heap.size, 0, none⟩) 1 1)).put (some d0) (.slice (some ⟨(w.alloc (.cells (cells v).toArray e)).heap.size, 0, none⟩) 0 0)) _ _ hn0 (hf0.alloc _)
      (eval_put_eq _ _ _ (by rw [size_put]; exact hd0)) (by rw [eval_put_ne _ _ _ _ mx0, eval_put_ne _ _ _ _ mx2]; exact hx)
    have r4' : Region.ready md ops ((listed.setIfInBounds i2 true).setIfInBounds i0 true) = [i1] := by rw [Array.setIfInBounds_comm _ _ (fun h => n02 h.symm)]; exact r4
    refine any_one i1 h1 r4' (mOp_run h1 g1 c1 hr (inG k2) ?_)
    rw [e1, put_swap _ _ _ (fun h => m02 h.symm), put_swap _ _ _ (fun h => m12 h.symm), Array.setIfInBounds_comm _ _ (fun h => n02 h.symm), Array.setIfInBounds_comm _ _ (fun h => n12 h.symm)]
    refine fin _ s1 ⟨some ⟨w.heap.size, 0, none⟩, 1, 1⟩ _ k1 k2 (slof_fr hone' k3 ?_) (by simp)
    rintro x hx ⟨y, hy, hb⟩
    simp only [Option.some.injEq] at hx hy
    subst hx; subst hy
    simp at hb
end Go.Proofs.Ytgjabgneapdbiaa

namespace Go.Proofs.Ytgjabgneapdbiaa
open Go.RowKit
set_option linter.unusedSimpArgs false
set_option linter.unusedVariables false

section
variable {P : Program} {S S1 S2 : World → Prop}
def upTo (n k : Nat) : Array Bool := (List.range k).foldl (fun acc i => acc.setIfInBounds i true) (Array.replicate n false)
def mix2B (md : Region.Mode) (ops : Array Oper) (k : Nat) : Bool :=
  Region.noSelect ops && decide (k < ops.size) && (match ops[k]? with | some o => o.guard == none | none => false) && (List.range k).all (fun i => (blkArr md ops i).getD k false) && (List.range ops.size).all (fun i => decide (i ≤ k) || (blkArr md ops k).getD i false) &&
    mixFromG md ops (fun listed => Region.ready md ops listed == [k] && listed == upTo ops.size k) k 0 (Array.replicate ops.size false) &&
    mixFromG md ops (fun listed => (Region.ready md ops listed).isEmpty) (ops.size - (k + 1)) (k + 1) ((upTo ops.size k).setIfInBounds k true)

theorem wp_toNo {o : Oper} {a : Act} {w : World} {K : Act → World → Prop} {Q : Exit → Act → World → Prop} (hq : ∀ x a w, Q x a w → x = .normal) (h : o.wp P a w K Q) : o.wp P a w K noQ := by
  have hp : ∀ c a w, ¬ Q (.panic c) a w := fun c a w h => by have := hq _ _ _ h; cases this
  have ho : ¬ LetsOut Q := fun ⟨a, w, h⟩ => by have := hq _ _ _ h; cases this
  unfold Oper.wp at *
  generalize (execOp a.eval o).run P w = r at *
  cases r with
  | ok n w' =>
    cases n <;> simp only [Oper.upon] at h ⊢ <;>
      first
        | exact h
        | exact Calls.mono h (fun e w'' he => by
            cases e
            · exact he
            · exact (hp _ _ _ he).elim
            · exact (ho he).elim)
  | halt x w' => cases x <;> simp only [Oper.upon] at h ⊢ <;> first | exact h | exact (hp _ _ _ h).elim
theorem wp_region_mix2 {id : Nat} {Q' : Exit → Act → World → Prop} {a : Act} {w : World} {l : List Oper} (k : Nat) (S1 : World → Prop) (hm : P.follows .mixedOrders = true) (hB : mix2B .any l.toArray k = true) (hS : S1 w.drew)
    (h : wpMix P l.toArray S1 (fun a' w' => wpList P l.toArray (fun x a2 w2 => x = .normal ∧ ∃ S2 : World → Prop, S2 w2 ∧ wpMix P l.toArray S2 (fun a3 w3 => Q' .normal a3 w3) (l.drop (k + 1)) a2 w2) ((l.drop k).take 1) a' w') (l.take k) a w.drew) : (Code.region id l.toArray true).wp P Q' a w := by
  simp only [mix2B, Bool.and_eq_true, decide_eq_true_eq] at hB
  obtain ⟨⟨⟨⟨⟨⟨hsel, hk⟩, hg⟩, hb1⟩, hb2⟩, hm1⟩, hm2⟩ := hB
  have hkl : k < l.length := by simpa using hk
  have htl : (l.take k).length = k := by simp; omega
  obtain ⟨o, ho⟩ : ∃ o, l.toArray[k]? = some o := ⟨l[k], by simp⟩
  have hlo : l[k]? = some o := by simpa using ho
  have hd : (l.drop k).take 1 = [o] := by
    rw [List.drop_eq_getElem_cons hkl, List.take_succ_cons, List.take_zero]
    have := List.getElem?_eq_getElem hkl
    rw [hlo] at this
    rw [Option.some.inj this]
  rw [hd] at h
  simp only [ho] at hg
  have hg' : o.guard = none := by simpa using hg
  have hL : LastL .any l.toArray (ClosedL .any l.toArray) (fun listed a w => (Region.ready .any l.toArray listed = [k] ∧ listed = upTo l.toArray.size k) ∧ ClosedL .any l.toArray listed ∧ wpList P l.toArray (fun x a2 w2 => x = .normal ∧ ∃ S2 : World → Prop, S2 w2 ∧ wpMix P l.toArray S2 (fun a3 w3 => Q' .normal a3 w3) (l.drop (k + 1)) a2 w2) [o] a w) := fun listed i a w hcl hi h j hj => by
    by_cases e : j = i
    · exact e
    · exfalso
      have h1 := ready_mono hj e
      rw [h.1.1] at h1
      have hjk : j = k := by simpa using h1
      subst hjk
      obtain ⟨hun, oi, hoi, _⟩ := mem_ready.1 hi
      have hun' := getD_both' hun
      by_cases hij : i < j
      · simp only [List.all_eq_true, List.mem_range] at hb1
        exact blk_ready hcl hun' (hb1 i hij) hj
      · have hij2 : j < i := by omega
        have hil := (Array.getElem?_eq_some_iff.1 hoi).1
        simp only [List.all_eq_true, List.mem_range, Bool.or_eq_true, decide_eq_true_eq] at hb2
        have h2 := (hb2 i hil).resolve_left (by omega)
        exact blk_ready hcl (getD_both' (mem_ready.1 hj).1) h2 hi
  have hlex := wpAnyG_lex (P := P) (S := S1) (md := .any) (D := fun _ _ => False) (Q := fun a' w' => wpList P l.toArray (fun x a2 w2 => x = .normal ∧ ∃ S2 : World → Prop, S2 w2 ∧ wpMix P l.toArray S2 (fun a3 w3 => Q' .normal a3 w3) (l.drop (k + 1)) a2 w2) [o] a' w') (fun _ _ h hj => h.set hj) hL
    (base := fun listed => Region.ready .any l.toArray listed == [k] && listed == upTo l.toArray.size k) (fun listed a w hc hb h => ⟨by simpa using hb, hc, h⟩) hsel (l.take k) 0 (Array.replicate l.toArray.size false) a w.drew hS (fun j oj hj hl => by
      exfalso
      simp only [Array.getD_eq_getD_getElem?, Array.getElem?_replicate] at hl
      split at hl <;> simp at hl)
    (fun j oj hj hl => by
      exfalso
      simp only [Array.getD_eq_getD_getElem?, Array.getElem?_replicate] at hl
      split at hl <;> simp at hl) ?_ ?_ h
  · refine wp_region_any hm ?_
    have hall := wpAny_of_mixG (m := l.toArray.size - (k + 1) + 1) (Q' := Q') (md := .any) (fun _ _ _ h => h.elim) (fun listed a' w' hw' h => ?_) _ _ _ _ hS hlex
    · rw [htl] at hall
      have e : k + (l.toArray.size - (k + 1) + 1) = l.toArray.size := by omega
      rw [e] at hall
      exact hall
    · obtain ⟨⟨hr, hle⟩, hcl, hw2⟩ := h
      refine ⟨fun h0 => by rw [hr] at h0; simp at h0, fun i hi => ?_⟩
      rw [hr] at hi
      have hik : i = k := by simpa using hi
      subst hik
      have hir : i ∈ Region.ready .any l.toArray listed := by rw [hr]; simp
      unfold wpOp
      simp only [ho]
      unfold wpList at hw2
      have hwt : Region.wanted o (yielded l.toArray a'.tmps) = true := by simp [Region.wanted, hg']
      rw [if_pos hwt] at hw2 ⊢
      left
      have cont : ∀ (S2 : World → Prop) a2 w2, S2 w2 → wpMix P l.toArray S2 (fun a3 w3 => Q' .normal a3 w3) (l.drop (i + 1)) a2 w2 → wpAny P .any l.toArray Q' (l.toArray.size - (i + 1)) (listed.setIfInBounds i true) a2 w2 := fun S2 a2 w2 h2 hx => by
        have hlex2 := wpAnyG_lex (P := P) (S := S2) (md := .any) (D := fun a' w' => Q' .normal a' w') (L := fun listed a w => Region.ready .any l.toArray listed = [] ∧ Q' .normal a w) (Q := fun a3 w3 => Q' .normal a3 w3) (C := fun _ => True) (fun _ _ _ _ => trivial) (fun listed i a w _ hi h j hj => by
          by_cases e : j = i
          · exact e
          · have := ready_mono hj e
            rw [h.1] at this
            cases this) (base := fun listed => (Region.ready .any l.toArray listed).isEmpty) (fun listed a w _ hb h => ⟨by simpa using hb, h⟩) hsel (l.drop (i + 1)) (i + 1) (listed.setIfInBounds i true) a2 w2 h2 trivial (hcl.set hir) (fun j hj => by simp [List.getElem?_drop]) (by
            rw [hle]
            have e : (l.drop (i + 1)).length = l.toArray.size - (i + 1) := by simp
            rw [e]
            exact hm2) hx
        have e : (l.drop (i + 1)).length = l.toArray.size - (i + 1) := by simp
        rw [e] at hlex2
        exact wpAny_of_mix (S := S2) (Q := fun a' w' => Q' .normal a' w') (fun _ _ _ h => h) _ _ _ _ h2 hlex2
      rcases hw2 with hw2 | ⟨_, hw2⟩
      · have h0 := wp_toNo (fun x a w h => h.1) hw2
        exact Oper.wp_noQ (Oper.wp_mono (fun a2 w2 hx => by obtain ⟨_, S2, h1, h2⟩ := hx; exact cont S2 a2 w2 h1 h2) h0)
      · obtain ⟨_, _, hx⟩ := hw2
        cases hx.1
  · intro j hj
    rw [htl] at hj
    rw [List.getElem?_take_of_lt hj]; simp
  · rw [htl]; exact hm1
end
end Go.Proofs.Ytgjabgneapdbiaa

namespace Go.Proofs.Ytgjabgneapdbiaa
open Go.RowKit
set_option linter.unusedSimpArgs false
set_option linter.unusedVariables false

section
variable {P : Program} {S S1 S2 : World → Prop} {ops : Array Oper} {md : Region.Mode} {Q : Exit → Act → World → Prop}
theorem no_out (hq : ∀ x a w, Q x a w → x = .normal) : ¬ LetsOut Q := fun ⟨a, w, h⟩ => by have := hq _ _ _ h; cases this
theorem wp_put2 {oj : Oper} {a : Act} {w : World} {x : Option Tmp} {v : Value} (hsj : ∀ cs b, oj.op ≠ .select cs b) (h1 : ∀ d, x = some d → d ∉ oj.looksAt ops) (h2 : ∀ d, x = some d → oj.dst ≠ some d)
    {K : Act → World → Prop} {Y : Act → Prop} (hY : ∀ u, Y (a.put oj.dst u)) (hYd : ∀ d, Y (({ a with defers := d :: a.defers } : Act).put oj.dst undef)) (h : oj.wp P (a.put x v) w K noQ) : oj.wp P a w (fun a' w' => Y a' ∧ K (a'.put x v) w') noQ := by
  unfold Oper.wp at *
  rw [execOp_put oj hsj a x v h1] at h
  generalize (execOp a.eval oj).run P w = r at *
  cases r with
  | ok n w' =>
    cases n <;> simp only [Oper.upon] at h ⊢
    case value u => exact ⟨hY _, by rw [← Act.put_comm a v u h2]; exact h⟩
    case skip => exact ⟨hY _, by rw [← Act.put_comm a v undef h2]; exact h⟩
    case defer d =>
      have e : ({ a.put x v with defers := d :: (a.put x v).defers } : Act) = ({ a with defers := d :: a.defers } : Act).put x v := by cases x <;> rfl
      refine ⟨hYd d, ?_⟩
      rw [← Act.put_comm _ v undef h2, ← e]
      exact h
    case enter f args =>
      refine Calls.mono h fun e w'' he => ?_
      cases e with
      | returned u => exact ⟨hY _, by rw [← Act.put_comm a v u h2]; exact he⟩
      | panicked c => exact he
      | outgrown => exact he
    case row row args => exact Rows.mono h fun u w'' he => ⟨hY _, by rw [← Act.put_comm a v u h2]; exact he⟩
  | halt x w' => cases x <;> simp only [Oper.upon] at h ⊢ <;> exact h
theorem YieldsM.plain {i : Nat} {o : Oper} {v : Value} {a : Act} {w : World} (hi : ops[i]? = some o) (hy : YieldsM P ops (fun _ => True) o v a) {K : Act → World → Prop} (h : K (a.put o.dst v) w) : wpOp P ops Q i K a w := by
  unfold wpOp
  simp only [hi]
  rcases hy with ⟨hw, hc, hv⟩ | ⟨hw, rfl⟩
  · rw [if_pos hw]
    left
    unfold Oper.wp
    rcases calm_same hc (hv w trivial) with e | ⟨e, rfl⟩
    · rw [e]; exact h
    · rw [e]; exact h
  · rw [if_neg (by rw [hw]; simp)]
    exact h
/-- A calm operation whose value hangs on no world may be taken first. -/
theorem wpAny_first (hQ : ∀ x a w, Q x a w → x = .normal) {i : Nat} {oi : Oper} {v : Value} (hi : ops[i]? = some oi) (hsel : ∀ (j : Nat) (o : Oper) cs b, ops[j]? = some o → o.op ≠ .select cs b) :
    ∀ (fuel : Nat) (listed : Array Bool) (a : Act) (w : World),
      (∀ j oj, ops[j]? = some oj → j ≠ i → listed.getD j true = false → (∀ e ∈ oj.after, Region.binds md e = true → e.on ≠ i) → oi.apart ops oj = true) →
      i ∈ Region.ready md ops listed → YieldsM P ops (fun _ => True) oi v a →
      wpAny P md ops Q fuel (listed.setIfInBounds i true) (a.put oi.dst v) w → wpAny P md ops Q (fuel + 1) listed a w := by
  intro fuel
  induction fuel with
  | zero =>
    intro listed a w _ hr hy H
    refine ⟨fun h => (by rw [h] at hr; cases hr), fun j hj => ?_⟩
    by_cases hji : j = i
    · subst hji; exact hy.plain hi H
    · have := ready_mono hj hji
      rw [H.1] at this
      cases this
  | succ fuel ih =>
    intro listed a w hfree hr hy H
    refine ⟨fun h => (by rw [h] at hr; cases hr), fun j hj => ?_⟩
    by_cases hji : j = i
    · subst hji; exact hy.plain hi H
    · have h1 := H.2 j (ready_mono hj hji)
      obtain ⟨hjun, oj, hoj, hall⟩ := mem_ready.1 hj
      have hnot : ∀ e ∈ oj.after, Region.binds md e = true → e.on ≠ i := fun e he hb heq => by
        have h1 := hall e he hb
        have h0 := (mem_ready.1 hr).1
        rw [heq] at h1
        rcases Nat.lt_or_ge i listed.size with h' | h'
        · simp [h'] at h0 h1; rw [h0] at h1; cases h1
        · simp [Array.getElem?_eq_none h'] at h1
      have hap := hfree j oj hoj hji hjun hnot
      obtain ⟨p1, p2, p3⟩ := Oper.apart_spec hap
      have keep : ∀ u, YieldsM P ops (fun _ => True) oi v (a.put oj.dst u) := fun u =>
        hy.of_same (execOp_put oi (fun cs b => hsel i oi cs b hi) a oj.dst u p3) (wanted_put oi a oj.dst u p3)
      have hfree' : ∀ k ok, ops[k]? = some ok → k ≠ i → (listed.setIfInBounds j true).getD k true = false →
          (∀ e ∈ ok.after, Region.binds md e = true → e.on ≠ i) → oi.apart ops ok = true := fun k ok hk hki hun hno => by
        refine hfree k ok hk hki ?_ hno
        by_cases hjk : j = k
        · subst hjk; exact hjun
        · rw [getD_set_ne true hjk] at hun; exact hun
      have hcomm : (listed.setIfInBounds j true).setIfInBounds i true = (listed.setIfInBounds i true).setIfInBounds j true := by rw [Array.setIfInBounds_comm _ _ hji]
      have cont : ∀ a' w', YieldsM P ops (fun _ => True) oi v a' → wpAny P md ops Q fuel ((listed.setIfInBounds i true).setIfInBounds j true) (a'.put oi.dst v) w' → wpAny P md ops Q (fuel + 1) (listed.setIfInBounds j true) a' w' := fun a' w' hy' h' =>
        ih (listed.setIfInBounds j true) a' w' hfree' (ready_mono hr (Ne.symm hji)) hy' (by rw [hcomm]; exact h')
      unfold wpOp at *
      simp only [hoj] at h1 ⊢
      rw [wanted_put oj a oi.dst v p1] at h1
      split
      · rename_i hw
        rw [if_pos hw] at h1
        left
        rcases h1 with h1 | ⟨_, h1⟩
        · have h0 := wp_toNo hQ h1
          exact Oper.wp_noQ (Oper.wp_mono (fun a' w' hx => cont a' w' hx.1 hx.2) (wp_put2 (Y := fun a' => YieldsM P ops (fun _ => True) oi v a') (fun cs b => hsel j oj cs b hoj) p1 p2 keep (fun d => YieldsM.of_same (a := a.put oj.dst undef) (keep undef) (by cases oj.dst <;> rfl) (by cases oj.dst <;> rfl)) h0))
        · exact absurd h1 (no_out hQ)
      · rename_i hw
        rw [if_neg hw] at h1
        exact cont _ _ (keep _) (by rw [← Act.put_comm a v undef p2]; exact h1)
theorem wpAny_toQ {Q1 : Exit → Act → World → Prop} (hQ : ∀ x a w, Q1 x a w → x = .normal) (h1 : ∀ a w, Q1 .normal a w → Q .normal a w) : ∀ (fuel : Nat) (listed : Array Bool) (a : Act) (w : World), wpAny P md ops Q1 fuel listed a w → wpAny P md ops Q fuel listed a w
  | 0, _, _, _, h => ⟨h.1, h1 _ _ h.2⟩
  | fuel + 1, listed, a, w, h => ⟨fun e => h1 _ _ (h.1 e), fun i hi => by
    have hh := h.2 i hi
    unfold wpOp at *
    split
    · rename_i hn
      simp only [hn] at hh
      exact wpAny_toQ hQ h1 fuel _ _ _ hh
    · rename_i o ho
      simp only [ho] at hh
      split
      · rename_i hw
        rw [if_pos hw] at hh
        left
        rcases hh with hh | ⟨_, hh⟩
        · exact Oper.wp_noQ (Oper.wp_mono (fun a w hx => wpAny_toQ hQ h1 fuel _ _ _ hx) (wp_toNo hQ hh))
        · exact absurd hh (no_out hQ)
      · rename_i hw
        rw [if_neg hw] at hh
        exact wpAny_toQ hQ h1 fuel _ _ _ hh⟩

/-- What is listed at the start of the walk: the two moves. -/
def two (n : Nat) : Array Bool := ((Array.replicate n false).setIfInBounds 1 true).setIfInBounds 0 true
def mix3B (ops : Array Oper) (k : Nat) : Bool :=
  Region.noSelect ops && decide (k < ops.size) && decide (2 ≤ k) && (match ops[k]? with | some o => o.guard == none | none => false) && (List.range k).all (fun i => (i == 1) || (blkArr .any ops i).getD k false) && (List.range ops.size).all (fun i => decide (i ≤ k) || (blkArr .any ops k).getD i false) &&
    mixFromG .any ops (fun listed => Region.ready .any ops listed == [k] && listed == upTo ops.size k) (k - 2) 2 (two ops.size) &&
    mixFromG .any ops (fun listed => (Region.ready .any ops listed).isEmpty) (ops.size - (k + 1)) (k + 1) ((upTo ops.size k).setIfInBounds k true) &&
    Region.free .any ops (Array.replicate ops.size false) 1 && Region.free .any ops ((Array.replicate ops.size false).setIfInBounds 1 true) 0 && (Region.ready .any ops (Array.replicate ops.size false)).contains 1 && (Region.ready .any ops ((Array.replicate ops.size false).setIfInBounds 1 true)).contains 0
theorem YieldsM.move {o : Oper} {a : Act} {x : Operand} (ho : o.op = .move x) (hg : o.guard = none) {v : Value} (hv : a.eval x = v) : YieldsM P ops (fun _ => True) o v a := by
  refine .inl ⟨by simp [Region.wanted, hg], by rw [ho]; rfl, fun w _ => ?_⟩
  unfold Oper.quietAt execOp
  simp only [ho, hv]
  exact ⟨rfl, rfl⟩
theorem wp_region_mix3 {id : Nat} {Q' : Exit → Act → World → Prop} {a : Act} {w : World} {o0 o1 : Oper} {l : List Oper} (k : Nat) (S1 : World → Prop) (hm : P.follows .mixedOrders = true) (hB : mix3B (o0 :: o1 :: l).toArray k = true) (hS : S1 w.drew)
    (x0 x1 : Operand) (v0 v1 : Value) (e0 : o0.op = .move x0) (g0 : o0.guard = none) (e1 : o1.op = .move x1) (g1 : o1.guard = none) (q1 : a.eval x1 = v1) (q0 : (a.put o1.dst v1).eval x0 = v0)
    (h : wpMix P (o0 :: o1 :: l).toArray S1 (fun a' w' => wpList P (o0 :: o1 :: l).toArray (fun x a2 w2 => x = .normal ∧ ∃ S2 : World → Prop, S2 w2 ∧ wpMix P (o0 :: o1 :: l).toArray S2 (fun a3 w3 => Q' .normal a3 w3) ((o0 :: o1 :: l).drop (k + 1)) a2 w2) (((o0 :: o1 :: l).drop k).take 1) a' w') (((o0 :: o1 :: l).take k).drop 2) ((a.put o1.dst v1).put o0.dst v0) w.drew) : (Code.region id (o0 :: o1 :: l).toArray true).wp P Q' a w := by
  have y1 : YieldsM P (o0 :: o1 :: l).toArray (fun _ => True) o1 v1 a := YieldsM.move e1 g1 q1
  have y0 : YieldsM P (o0 :: o1 :: l).toArray (fun _ => True) o0 v0 (a.put o1.dst v1) := YieldsM.move e0 g0 q0
  have t0 : (o0 :: o1 :: l).toArray[0]? = some o0 := by simp
  have t1 : (o0 :: o1 :: l).toArray[1]? = some o1 := by simp
  have hll : (o0 :: o1 :: l).length = l.length + 2 := rfl
  generalize o0 :: o1 :: l = L at *
  simp only [mix3B, Bool.and_eq_true, decide_eq_true_eq] at hB
  obtain ⟨⟨⟨⟨⟨⟨⟨⟨⟨⟨⟨hsel, hk⟩, hk2⟩, hg⟩, hb1⟩, hb2⟩, hm1⟩, hm2⟩, hf1⟩, hf0⟩, hr1⟩, hr0⟩ := hB
  have hsz : L.toArray.size = L.length := by simp
  have hkl : k < L.length := by simpa using hk
  have htl : ((L.take k).drop 2).length = k - 2 := by simp; omega
  obtain ⟨o, ho⟩ : ∃ o, L.toArray[k]? = some o := ⟨L[k], by simp⟩
  have hlo : L[k]? = some o := by simpa using ho
  have hd : (L.drop k).take 1 = [o] := by
    rw [List.drop_eq_getElem_cons hkl, List.take_succ_cons, List.take_zero]
    have := List.getElem?_eq_getElem hkl
    rw [hlo] at this
    rw [Option.some.inj this]
  rw [hd] at h
  simp only [ho] at hg
  have hg' : o.guard = none := by simpa using hg
  have hQ1 : ∀ x a w, (fun (x : Exit) (a : Act) (w : World) => x = Exit.normal ∧ Q' .normal a w) x a w → x = .normal := fun _ _ _ h => h.1
  have hC0 : ClosedL .any L.toArray (Array.replicate L.toArray.size false) := fun j oj hj hl => by
    exfalso
    simp only [Array.getD_eq_getD_getElem?, Array.getElem?_replicate] at hl
    split at hl <;> simp at hl
  have hr1' : 1 ∈ Region.ready .any L.toArray (Array.replicate L.toArray.size false) := by simpa using hr1
  have hr0' : 0 ∈ Region.ready .any L.toArray ((Array.replicate L.toArray.size false).setIfInBounds 1 true) := by simpa using hr0
  have hC2 : ClosedL .any L.toArray (two L.toArray.size) := (hC0.set hr1').set hr0'
  have hone : (two L.toArray.size).getD 1 false = true := by
    unfold two
    rw [hsz, hll]
    simp [Array.getD_eq_getD_getElem?]
  refine wp_region_any hm (wpAny_toQ (Q1 := fun x a w => x = .normal ∧ Q' .normal a w) hQ1 (fun _ _ h => h.2) _ _ _ _ ?_)
  have key : wpAny P .any L.toArray (fun x a w => x = .normal ∧ Q' .normal a w) (l.length + 1 + 1) (Array.replicate L.toArray.size false) a w.drew := by
    refine wpAny_first hQ1 t1 (Region.noSelect_spec hsel) (l.length + 1) _ a _ (Region.free_spec t1 hf1) hr1' y1 ?_
    refine wpAny_first hQ1 t0 (Region.noSelect_spec hsel) l.length _ _ _ (Region.free_spec t0 hf0) hr0' y0 ?_
    have hC : StepC .any L.toArray (fun listed => ClosedL .any L.toArray listed ∧ listed.getD 1 false = true) := fun listed j h hj => ⟨h.1.set hj, by
      by_cases e : j = 1
      · subst e
        simp only [Array.getD_eq_getD_getElem?, Array.getElem?_setIfInBounds]
        have := h.2
        simp only [Array.getD_eq_getD_getElem?] at this
        rcases Nat.lt_or_ge 1 listed.size with hs | hs
        · simp [hs]
        · rw [Array.getElem?_eq_none hs] at this; cases this
      · rw [getD_set_ne false e]; exact h.2⟩
    have hL : LastL .any L.toArray (fun listed => ClosedL .any L.toArray listed ∧ listed.getD 1 false = true) (fun listed a w => (Region.ready .any L.toArray listed = [k] ∧ listed = upTo L.toArray.size k) ∧ ClosedL .any L.toArray listed ∧ wpList P L.toArray (fun x a2 w2 => x = .normal ∧ ∃ S2 : World → Prop, S2 w2 ∧ wpMix P L.toArray S2 (fun a3 w3 => Q' .normal a3 w3) (L.drop (k + 1)) a2 w2) [o] a w) := fun listed i a w hcl hi h j hj => by
      by_cases e : j = i
      · exact e
      · exfalso
        have h1 := ready_mono hj e
        rw [h.1.1] at h1
        have hjk : j = k := by simpa using h1
        subst hjk
        obtain ⟨hun, oi, hoi, _⟩ := mem_ready.1 hi
        have hun' := getD_both' hun
        have hi1 : i ≠ 1 := by rintro rfl; rw [hcl.2] at hun'; cases hun'
        by_cases hij : i < j
        · simp only [List.all_eq_true, List.mem_range, Bool.or_eq_true, beq_iff_eq] at hb1
          exact blk_ready hcl.1 hun' ((hb1 i hij).resolve_left hi1) hj
        · have hj2 : j < i := by omega
          have hil := (Array.getElem?_eq_some_iff.1 hoi).1
          simp only [List.all_eq_true, List.mem_range, Bool.or_eq_true, decide_eq_true_eq] at hb2
          have h2 := (hb2 i hil).resolve_left (by omega)
          exact blk_ready hcl.1 (getD_both' (mem_ready.1 hj).1) h2 hi
    have hlex := wpAnyG_lex (P := P) (S := S1) (md := .any) (D := fun _ _ => False) (Q := fun a' w' => wpList P L.toArray (fun x a2 w2 => x = .normal ∧ ∃ S2 : World → Prop, S2 w2 ∧ wpMix P L.toArray S2 (fun a3 w3 => Q' .normal a3 w3) (L.drop (k + 1)) a2 w2) [o] a' w') hC hL
      (base := fun listed => Region.ready .any L.toArray listed == [k] && listed == upTo L.toArray.size k) (fun listed a w hc hb h => ⟨by simpa using hb, hc, h⟩) hsel ((L.take k).drop 2) 2 (two L.toArray.size) _ w.drew hS ⟨hC2, hone⟩ hC2 (fun j hj => by
        rw [htl] at hj
        rw [List.getElem?_drop, List.getElem?_take_of_lt (by omega)]
        simp) (by rw [htl]; exact hm1) h
    have hall := wpAny_of_mixG (m := L.toArray.size - (k + 1) + 1) (Q' := fun x a w => x = .normal ∧ Q' .normal a w) (md := .any) (fun _ _ _ h => h.elim) (fun listed a' w' hw' h => ?_) _ _ _ _ hS hlex
    · rw [htl] at hall
      have e : (k - 2) + (L.toArray.size - (k + 1) + 1) = l.length := by omega
      rw [e] at hall
      exact hall
    · obtain ⟨⟨hr, hle⟩, hcl, hw2⟩ := h
      refine ⟨fun h0 => by rw [hr] at h0; simp at h0, fun i hi => ?_⟩
      rw [hr] at hi
      have hik : i = k := by simpa using hi
      subst hik
      have hir : i ∈ Region.ready .any L.toArray listed := by rw [hr]; simp
      unfold wpOp
      simp only [ho]
      unfold wpList at hw2
      have hwt : Region.wanted o (yielded L.toArray a'.tmps) = true := by simp [Region.wanted, hg']
      rw [if_pos hwt] at hw2 ⊢
      left
      have cont : ∀ (S2 : World → Prop) a2 w2, S2 w2 → wpMix P L.toArray S2 (fun a3 w3 => Q' .normal a3 w3) (L.drop (i + 1)) a2 w2 → wpAny P .any L.toArray (fun x a w => x = .normal ∧ Q' .normal a w) (L.toArray.size - (i + 1)) (listed.setIfInBounds i true) a2 w2 := fun S2 a2 w2 h2 hx => by
        have hlex2 := wpAnyG_lex (P := P) (S := S2) (md := .any) (D := fun a' w' => Q' .normal a' w') (L := fun listed a w => Region.ready .any L.toArray listed = [] ∧ Q' .normal a w) (Q := fun a3 w3 => Q' .normal a3 w3) (C := fun _ => True) (fun _ _ _ _ => trivial) (fun listed i a w _ hi h j hj => by
          by_cases e : j = i
          · exact e
          · have := ready_mono hj e
            rw [h.1] at this
            cases this) (base := fun listed => (Region.ready .any L.toArray listed).isEmpty) (fun listed a w _ hb h => ⟨by simpa using hb, h⟩) hsel (L.drop (i + 1)) (i + 1) (listed.setIfInBounds i true) a2 w2 h2 trivial (hcl.set hir) (fun j hj => by simp [List.getElem?_drop]) (by
            rw [hle]
            have e : (L.drop (i + 1)).length = L.toArray.size - (i + 1) := by simp
            rw [e]
            exact hm2) hx
        have e : (L.drop (i + 1)).length = L.toArray.size - (i + 1) := by simp
        rw [e] at hlex2
        exact wpAny_of_mix (S := S2) (Q := fun a' w' => Q' .normal a' w') (fun _ _ _ h => ⟨rfl, h⟩) _ _ _ _ h2 hlex2
      rcases hw2 with hw2 | ⟨_, hw2⟩
      · have h0 := wp_toNo (fun x a w h => h.1) hw2
        exact Oper.wp_noQ (Oper.wp_mono (fun a2 w2 hx => by obtain ⟨_, S2, h1, h2⟩ := hx; exact cont S2 a2 w2 h1 h2) h0)
      · obtain ⟨_, _, hx⟩ := hw2
        cases hx.1
  have e2 : L.toArray.size = l.length + 1 + 1 := by rw [hsz, hll]
  have key2 := key
  rw [← e2] at key2
  exact key2
end
end Go.Proofs.Ytgjabgneapdbiaa

namespace Go.Proofs.Ytgjabgneapdbiaa
open Go.RowKit
set_option linter.unusedSimpArgs false
set_option linter.unusedVariables false
section
variable {P : Program} {ops : Array Oper} {S : World → Prop} {Q : Act → World → Prop}
theorem run_store_blk {P : Program} {w : World} {ty : TypeId} {g : Nat} {cs : List Value} {old : Array Value} {t : TypeId} (hb : Blk w g old t) (hlen : old.size = cs.length) (hi : (P.info? ty).map (·.size) = some cs.length) (h1c : ∀ u ∈ cs, u.oneCell' = true) :
    (storeVar ty ⟨g, 0, none⟩ (.agg cs.toArray)).run P w = .ok () (w.setRow g cs.toArray) := by
  have hst := run_storeCells_at P g 0 t cs 0 _ w hb (by omega) h1c
  simp only [Nat.add_zero, Nat.zero_add] at hst
  rw [show old.toList.drop cs.length = [] from by rw [List.drop_eq_nil_iff]; simp [hlen], List.take_zero, List.nil_append, List.append_nil] at hst
  cases hq : P.info? ty with
  | none => simp [hq] at hi
  | some i =>
    have hsz : i.size = cs.length := by simpa [hq] using hi
    simp [storeVar, sizeOf, typeInfo, hq, Value.cells, hsz, hst]
theorem wpMix_store_blk {o : Oper} {rest : List Oper} {a : Act} {w : World} (hw : Region.wanted o (yielded ops a.tmps) = true) (ty : TypeId) (x y : Operand) (ho : o.op = .store ty x y) (g : Nat) (cs : List Value)
    (hx : a.eval x = .pointer (some ⟨g, 0, none⟩)) (hy : a.eval y = .agg cs.toArray) (old : Array Value) (t : TypeId) (hb : Blk w g old t) (hlen : old.size = cs.length) (hi : (P.info? ty).map (·.size) = some cs.length) (h1c : ∀ u ∈ cs, u.oneCell' = true)
    (hS : S (w.setRow g cs.toArray)) (h : wpMix P ops S Q rest (a.put o.dst undef) (w.setRow g cs.toArray)) : wpMix P ops S Q (o :: rest) a w := by
  refine wpMix_spine hw (by rw [ho]; rfl) (fun K hK => ?_)
  have hr := run_store_blk (P := P) hb hlen hi h1c
  unfold Oper.wp execOp
  simp only [ho, hx, hy, Instr.storeAt, Instr.sureAddr, Sem.run_bind, Sem.run_pure, Result.andThen_ok, hr]
  exact hK _ _ (by cases o.dst <;> rfl) hS h
end
end Go.Proofs.Ytgjabgneapdbiaa

namespace Go.Proofs.Ytgjabgneapdbiaa
open Go.RowKit
set_option linter.unusedSimpArgs false
set_option linter.unusedVariables false
section
variable {P : Program} {ops : Array Oper}
/-- A store of a struct into a part of a block that is known whole. -/
theorem wpList_store_sub {rest : List Oper} {o : Oper} {a : Act} {w : World} {Q : Exit → Act → World → Prop} (hgd : o.guard = none) (ty : TypeId) (x y : Operand) (ho : o.op = .store ty x y) (g off : Nat) (cs : Array Value) (t : TypeId) (ns : List Value)
    (hx : a.eval x = .pointer (some ⟨g, off, none⟩)) (hy : a.eval y = .agg ns.toArray) (hb : Blk w g cs t) (hlen : off + ns.length ≤ cs.size) (hi : (P.info? ty).map (·.size) = some ns.length) (h1c : ∀ u ∈ ns, u.oneCell' = true)
    (h : ∀ w', Blk w' g (cs.toList.take off ++ ns ++ cs.toList.drop (off + ns.length)).toArray t → Fr (oneB g) w w' → w'.heap.size = w.heap.size → wpList P ops Q rest (a.put o.dst undef) w') : wpList P ops Q (o :: rest) a w :=
  wpList_plain hgd fun _ hK => by
    have hst := run_storeCells_at P g off t ns 0 _ w hb (by rw [Nat.add_zero]; exact hlen) h1c
    simp only [Nat.add_zero] at hst
    have hr : (storeVar ty ⟨g, off, none⟩ (.agg ns.toArray)).run P w = .ok () (w.setRow g (cs.toList.take off ++ ns ++ cs.toList.drop (off + ns.length)).toArray) := by
      cases hq : P.info? ty with
      | none => simp [hq] at hi
      | some i =>
        have hsz : i.size = ns.length := by simpa [hq] using hi
        simp [storeVar, sizeOf, typeInfo, hq, Value.cells, hsz, hst]
    unfold Oper.wp execOp
    simp only [ho, hx, hy, Instr.storeAt, Instr.sureAddr, Sem.run_bind, Sem.run_pure, Result.andThen_ok, hr]
    exact hK _ _ (h _ hb.setRow ((Fr.refl (oneB g) _).setRow (.inr (show oneB g g from rfl)) _) (size_setRow _ _ _))
end
end Go.Proofs.Ytgjabgneapdbiaa

/- Small general lemmas about memory: frames with a set of blocks that may be written, and blocks that are known whole. -/
import Derived.Test.YtgjabgneapdbiaaRows
import Derived.WalkKit
import Derived.WalkSpells
import Derived.WalkLawsBesides
import Derived.Deep.QuietTactic
import Derived.BigQuiet
import Derived.StillTailTactics
import Derived.RowKit3
namespace Go.Proofs.Ytgjabgneapdbiaa
open Go.RowKit

theorem hide {p : Prop} (h : p) : Hid p := h

/-- From w to w' only the blocks in S, and new ones, may differ. -/
structure Fr (S : Nat → Prop) (w w' : World) : Prop where
  os : w'.os = w.os
  tape : w'.tape = w.tape
  output : w'.output = w.output
  size : w.heap.size ≤ w'.heap.size
  same : ∀ b, b < w.heap.size → ¬ S b → w'.heap[b]? = w.heap[b]?

def noB : Nat → Prop := fun _ => False
def oneB (g : Nat) : Nat → Prop := fun b => b = g

theorem Fr.refl (S : Nat → Prop) (w : World) : Fr S w w := ⟨rfl, rfl, rfl, Nat.le_refl _, fun _ _ _ => rfl⟩
theorem Fr.trans {S T U : Nat → Prop} {a b c : World} (h : Fr S a b) (k : Fr T b c) (hs : ∀ x, x < a.heap.size → S x → U x) (ht : ∀ x, x < a.heap.size → T x → U x) : Fr U a c :=
  ⟨k.os.trans h.os, k.tape.trans h.tape, k.output.trans h.output, Nat.le_trans h.size k.size,
   fun x hx hn => (k.same x (Nat.lt_of_lt_of_le hx h.size) (fun c => hn (ht x hx c))).trans (h.same x hx (fun c => hn (hs x hx c)))⟩
theorem Fr.tr {S : Nat → Prop} {a b c : World} (h : Fr S a b) (k : Fr S b c) : Fr S a c := h.trans k (fun _ _ h => h) (fun _ _ h => h)
theorem Fr.mono {S T : Nat → Prop} {a b : World} (h : Fr S a b) (hs : ∀ x, x < a.heap.size → S x → T x) : Fr T a b :=
  ⟨h.os, h.tape, h.output, h.size, fun x hx hn => h.same x hx (fun c => hn (hs x hx c))⟩
theorem Fr.drew {S : Nat → Prop} {a b : World} (h : Fr S a b) : Fr S a b.drew := ⟨h.os, h.tape, h.output, h.size, h.same⟩
theorem Fr.drewN {S : Nat → Prop} {a b : World} (h : Fr S a b) (n : Nat) : Fr S a (b.drewN n) := ⟨h.os, h.tape, h.output, h.size, h.same⟩
theorem Fr.alloc {S : Nat → Prop} {a b : World} (h : Fr S a b) (o : Obj) : Fr S a (b.alloc o) :=
  ⟨h.os, h.tape, h.output, Nat.le_trans h.size (by simp), fun x hx hn => (Below.heap_alloc b o x (Nat.lt_of_lt_of_le hx h.size)).trans (h.same x hx hn)⟩
theorem Fr.setCell {S : Nat → Prop} {a b : World} (h : Fr S a b) {p : Addr} (hp : a.heap.size ≤ p.block ∨ S p.block) (u : Value) : Fr S a (b.setCell p u) :=
  ⟨h.os, h.tape, h.output, by simpa using h.size, fun x hx hn => (Below.heap_setCell b p u x (by
    rintro rfl
    rcases hp with hp | hp
    · omega
    · exact hn hp)).trans (h.same x hx hn)⟩
theorem Fr.below {w w' : World} (h : Fr noB w w') : Below w.heap.size w w' :=
  ⟨h.os, h.tape, h.output, h.size, fun k hk => h.same k hk (fun c => c)⟩
theorem Fr.of_below {w w' : World} (h : Below w.heap.size w w') (S : Nat → Prop) : Fr S w w' :=
  ⟨h.os, h.tape, h.output, h.size, fun k hk _ => h.block k hk⟩
theorem Fr.lt {S : Nat → Prop} {w w' : World} (h : Fr S w w') {g : Nat} (hg : g < w.heap.size) : g < w'.heap.size := Nat.lt_of_lt_of_le hg h.size

/-- A block is known whole. -/
def Blk (w : World) (g : Nat) (cs : Array Value) (t : TypeId) : Prop := w.heap[g]? = some (.cells cs t (0, 0))

theorem Blk.lt {w : World} {g : Nat} {cs : Array Value} {t : TypeId} (h : Blk w g cs t) : g < w.heap.size := (Array.getElem?_eq_some_iff.1 h).1
theorem Blk.cell {w : World} {g : Nat} {cs : Array Value} {t : TypeId} (h : Blk w g cs t) (i : Nat) : w.cell? ⟨g, i, none⟩ = cs[i]? := by
  unfold Blk at h; simp [World.cell?, h]
theorem Blk.free {w : World} {g : Nat} {cs : Array Value} {t : TypeId} (h : Blk w g cs t) (i : Nat) : w.frozen? ⟨g, i, none⟩ = false := by
  unfold Blk at h; simp [World.frozen?, h]
theorem Blk.shape {w : World} {g : Nat} {cs : Array Value} {t : TypeId} (h : Blk w g cs t) : w.shape? g = some (t, cs.size) := by
  unfold Blk at h; simp [World.shape?, h]
theorem Blk.fr {w w' : World} {g : Nat} {cs : Array Value} {t : TypeId} (h : Blk w g cs t) {S : Nat → Prop} (f : Fr S w w') (hs : ¬ S g) : Blk w' g cs t := by
  have hl := h.lt
  unfold Blk at *; rw [f.same g hl hs]; exact h
theorem Blk.drew {w : World} {g : Nat} {cs : Array Value} {t : TypeId} (h : Blk w g cs t) : Blk w.drew g cs t := h
theorem Blk.alloc_new (w : World) (cs : Array Value) (t : TypeId) : Blk (w.alloc (.cells cs t)) w.heap.size cs t := by
  unfold Blk; simp [← World.alloc_eq]
theorem Blk.set {w : World} {g : Nat} {cs : Array Value} {t : TypeId} (h : Blk w g cs t) (i : Nat) (v : Value) : Blk (w.setCell ⟨g, i, none⟩ v) g (cs.setIfInBounds i v) t := by
  unfold Blk at *; simp [World.setCell, Array.getElem?_modify, h]

theorem region_tail {P : Program} {id : Nat} {Q : Exit → Act → World → Prop} {a : Act} {w : World} {l : List Oper} (n : Nat) (hm : P.follows .mixedOrders = true) (hB : Region.lexTailB .any l.toArray n = true)
    (h : wpStill P l.toArray w.drew (fun a' => wpList P l.toArray Q (l.drop n) a' w.drew) (l.take n) a) : (Code.region id l.toArray true).wp P Q a w := wp_region_still_tail n hm hB h

theorem Fr.cell {S : Nat → Prop} {w w' : World} (h : Fr S w w') {b o : Nat} (hb : b < w.heap.size) (hs : ¬ S b) : w'.cell? ⟨b, o, none⟩ = w.cell? ⟨b, o, none⟩ :=
  World.cell?_of_block (w := w) (h.same b hb hs)

theorem spot_of_cell {w : World} {a : Addr} {v : Value} (h : w.cell? a = some v) : a = ⟨a.block, a.off, none⟩ := by
  obtain ⟨b, o, s⟩ := a
  cases s with
  | none => rfl
  | some t =>
    exfalso
    unfold World.cell? at h
    split at h <;> simp at h
theorem block_of_cell {w : World} {a : Addr} {v : Value} (h : w.cell? a = some v) : a.block < w.heap.size := World.block_lt_of_cell? _ _ h

/-- A world in which nothing that was there has changed. -/
structure Grow (w : World) where
  v : World
  fr : Fr noB w v

theorem Grow.blk {w : World} {g : Nat} {cs : Array Value} {t : TypeId} (h : Blk w g cs t) (z : Grow w) (j : Nat) : z.v.cell? ⟨g, j, none⟩ = cs[j]? := (h.fr z.fr (fun h => h)).cell j
theorem Grow.cell {w : World} {b o : Nat} {v : Value} (h : w.cell? ⟨b, o, none⟩ = some v) (z : Grow w) : z.v.cell? ⟨b, o, none⟩ = some v := (z.fr.cell (World.block_lt_of_cell? _ _ h) (fun h => h)).trans h

/-- A region that draws its order, whose operations only read, and whose callees change nothing that was there: one walk in the order of the text. -/
theorem wp_region_grow {P : Program} {id : Nat} {Q : Exit → Act → World → Prop} {a : Act} {w : World} {l : List Oper} (hm : P.follows .mixedOrders = true) (hB : Region.lexB .any l.toArray = true)
    (h : wpQuiet P l.toArray (fun w' => ∃ z : Grow w, w' = z.v) (fun a' => ∀ w', (∃ z : Grow w, w' = z.v) → Q .normal a' w') l a) : (Code.region id l.toArray true).wp P Q a w :=
  wp_region_quiet (C := fun w' => ∃ z : Grow w, w' = z.v) hm hB ⟨⟨w.drew, (Fr.refl _ _).drew⟩, rfl⟩ (by simpa using h)

theorem grow_call {P : Program} {f : FuncId} {args : Array Value} {w : World} {v : Value} (z : Grow w) (h : Calls P f args z.v fun e w' => e = .returned v ∧ Fr noB z.v w') :
    Calls P f args z.v fun e w'' => e = .returned v ∧ ∃ z : Grow w, w'' = z.v :=
  h.mono fun _ w' ⟨he, hf⟩ => ⟨he, ⟨w', z.fr.tr hf⟩, rfl⟩

theorem ret_int {k : IntKind} {a b : Int} (h : a = b) : Ending.returned (.int k a) = .returned (.int k b) := by rw [h]
theorem ret_bool {a b : Bool} (h : a = b) : Ending.returned (.bool a) = .returned (.bool b) := by rw [h]

theorem run_max_int (P : Program) (k : IntKind) (ats : Array TypeId) (ty : TypeId) (x y : Int) (w : World) : (Builtin.max_ ats ty #[.int k x, .int k y]).run P w = .ok (.int k (max x y)) w := by
  have e : (if y > x then y else x) = max x y := by
    by_cases h : y > x
    · rw [if_pos h]; omega
    · rw [if_neg h]; omega
  simp [Builtin.max_, Builtin.max2, e]
theorem run_min_int (P : Program) (k : IntKind) (ats : Array TypeId) (ty : TypeId) (x y : Int) (w : World) : (Builtin.min_ ats ty #[.int k x, .int k y]).run P w = .ok (.int k (min x y)) w := by
  have e : (if y < x then y else x) = min x y := by
    by_cases h : y < x
    · rw [if_pos h]; omega
    · rw [if_neg h]; omega
  simp [Builtin.min_, Builtin.min2, e]

end Go.Proofs.Ytgjabgneapdbiaa

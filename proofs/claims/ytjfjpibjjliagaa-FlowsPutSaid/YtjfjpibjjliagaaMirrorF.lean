/- Go's structs mirrored in Lean, and the theorems that open a value that came in. Written by a program (mirror.py). -/
import Derived.Test.YtjfjpibjjliagaaData
namespace Go.Proofs.Ytjfjpibjjliagaa
open Go.ChangeShapes Go.WideShapes Go.Deep Go.RowKit
set_option linter.unusedSimpArgs false
set_option linter.unusedVariables false

structure KeyM where
  proto : Int
  src : Nat
  dst : Nat
  a : Int
  b : Int
  deriving Inhabited, DecidableEq

def KeyM.cells (x : KeyM) : List Value := [.int .i64 x.proto, .int .u32 (x.src : Nat), .int .u32 (x.dst : Nat), .int .i64 x.a, .int .i64 x.b]
def KeyM.val (x : KeyM) : Value := .agg #[.int .i64 x.proto, .int .u32 (x.src : Nat), .int .u32 (x.dst : Nat), .int .i64 x.a, .int .i64 x.b]
def KeyM.wf (x : KeyM) : Prop := i64b x.proto ∧ x.src < 4294967296 ∧ x.dst < 4294967296 ∧ i64b x.a ∧ i64b x.b
theorem KeyM.length (x : KeyM) : x.cells.length = 5 := rfl
theorem cellsOf_Key : Try.prog.cellsOf 25 = 5 := by kernel_rfl

theorem open_Key {H : Type} {enc : TypeId × Value → H} {w : World} {base : Nat} {spare : Nat → Bool} {held : Bool} {fuel : Nat} {cs : List Value} {y : DataW H × List MemPlace}
    (h : DataW.trod enc Try.prog w base spare held fuel 25 cs = some y) : ∃ x : KeyM, cs = x.cells ∧ x.wf := by
  obtain ⟨xs, n, _, _, hlen, hxl, hf⟩ := DataW.trod_struct Try.underlying25 h
  rw [cellsOf_Key] at hlen
  clear h
  match cs, hlen with
  | [c0, c1, c2, c3, c4], _ =>
    have g0 : DataW.trod enc Try.prog w base spare held n 3 (List.take (Try.prog.cellsOf 3) (List.drop 0 [c0, c1, c2, c3, c4])) = xs[0]? := hf 0 _ rfl
    have z0 : ∃ y, xs[0]? = some y := ⟨_, List.getElem?_eq_getElem (by rw [hxl]; decide)⟩
    obtain ⟨z0, hz0⟩ := z0
    rw [hz0] at g0; rw [show Try.prog.cellsOf 3 = 1 from by kernel_rfl] at g0; simp only [List.drop_succ_cons, List.drop_zero, List.take_succ_cons, List.take_zero] at g0; clear hz0
    have g1 : DataW.trod enc Try.prog w base spare held n 23 (List.take (Try.prog.cellsOf 23) (List.drop 1 [c0, c1, c2, c3, c4])) = xs[1]? := hf 1 _ rfl
    have z1 : ∃ y, xs[1]? = some y := ⟨_, List.getElem?_eq_getElem (by rw [hxl]; decide)⟩
    obtain ⟨z1, hz1⟩ := z1
    rw [hz1] at g1; rw [show Try.prog.cellsOf 23 = 1 from by kernel_rfl] at g1; simp only [List.drop_succ_cons, List.drop_zero, List.take_succ_cons, List.take_zero] at g1; clear hz1
    have g2 : DataW.trod enc Try.prog w base spare held n 23 (List.take (Try.prog.cellsOf 23) (List.drop 2 [c0, c1, c2, c3, c4])) = xs[2]? := hf 2 _ rfl
    have z2 : ∃ y, xs[2]? = some y := ⟨_, List.getElem?_eq_getElem (by rw [hxl]; decide)⟩
    obtain ⟨z2, hz2⟩ := z2
    rw [hz2] at g2; rw [show Try.prog.cellsOf 23 = 1 from by kernel_rfl] at g2; simp only [List.drop_succ_cons, List.drop_zero, List.take_succ_cons, List.take_zero] at g2; clear hz2
    have g3 : DataW.trod enc Try.prog w base spare held n 3 (List.take (Try.prog.cellsOf 3) (List.drop 3 [c0, c1, c2, c3, c4])) = xs[3]? := hf 3 _ rfl
    have z3 : ∃ y, xs[3]? = some y := ⟨_, List.getElem?_eq_getElem (by rw [hxl]; decide)⟩
    obtain ⟨z3, hz3⟩ := z3
    rw [hz3] at g3; rw [show Try.prog.cellsOf 3 = 1 from by kernel_rfl] at g3; simp only [List.drop_succ_cons, List.drop_zero, List.take_succ_cons, List.take_zero] at g3; clear hz3
    have g4 : DataW.trod enc Try.prog w base spare held n 3 (List.take (Try.prog.cellsOf 3) (List.drop 4 [c0, c1, c2, c3, c4])) = xs[4]? := hf 4 _ rfl
    have z4 : ∃ y, xs[4]? = some y := ⟨_, List.getElem?_eq_getElem (by rw [hxl]; decide)⟩
    obtain ⟨z4, hz4⟩ := z4
    rw [hz4] at g4; rw [show Try.prog.cellsOf 3 = 1 from by kernel_rfl] at g4; simp only [List.drop_succ_cons, List.drop_zero, List.take_succ_cons, List.take_zero] at g4; clear hz4
    obtain ⟨x0, e0, _, w0⟩ := DataW.trod_int Try.underlying3 g0
    obtain rfl := (List.cons.inj e0).1
    obtain ⟨x1, e1, _, w1⟩ := DataW.trod_int Try.underlying23 g1
    obtain rfl := (List.cons.inj e1).1
    obtain ⟨x1, rfl, b1⟩ := u32_of w1
    obtain ⟨x2, e2, _, w2⟩ := DataW.trod_int Try.underlying23 g2
    obtain rfl := (List.cons.inj e2).1
    obtain ⟨x2, rfl, b2⟩ := u32_of w2
    obtain ⟨x3, e3, _, w3⟩ := DataW.trod_int Try.underlying3 g3
    obtain rfl := (List.cons.inj e3).1
    obtain ⟨x4, e4, _, w4⟩ := DataW.trod_int Try.underlying3 g4
    obtain rfl := (List.cons.inj e4).1
    exact ⟨⟨x0, x1, x2, x3, x4⟩, rfl, ⟨(i64b_of w0), b1, b2, (i64b_of w3), (i64b_of w4)⟩⟩

theorem open_Key_val {H : Type} {enc : TypeId × Value → H} {w : World} {base b0 : Nat} {spare : Nat → Bool} {held : Bool} {r : Reach} {v : Value} {d : DataW H} {p : List MemPlace}
    (hv : Value.okWide Try.prog w r b0 25 v) (h : DataW.Trod enc Try.prog w base spare held 25 v d p) : ∃ x : KeyM, v = x.val ∧ x.wf := by
  obtain ⟨cs, rfl, _⟩ := okWide_struct Try.underlying25 hv
  obtain ⟨fuel, hf⟩ := h
  obtain ⟨x, e, w⟩ := open_Key hf
  refine ⟨x, ?_, w⟩
  have e' : cs.toList = x.cells := e
  obtain ⟨l⟩ := cs
  simp only at e'
  subst e'
  rfl

structure PinM where
  on : Bool
  iface : ByteArray
  gate : Nat
  deriving Inhabited, DecidableEq

def PinM.cells (x : PinM) : List Value := [.bool x.on, .string x.iface, .int .u32 (x.gate : Nat)]
def PinM.val (x : PinM) : Value := .agg #[.bool x.on, .string x.iface, .int .u32 (x.gate : Nat)]
def PinM.wf (x : PinM) : Prop := x.iface.size ≤ maxLen ∧ x.gate < 4294967296
theorem PinM.length (x : PinM) : x.cells.length = 3 := rfl
theorem cellsOf_Pin : Try.prog.cellsOf 27 = 3 := by kernel_rfl

theorem open_Pin {H : Type} {enc : TypeId × Value → H} {w : World} {base : Nat} {spare : Nat → Bool} {held : Bool} {fuel : Nat} {cs : List Value} {y : DataW H × List MemPlace}
    (h : DataW.trod enc Try.prog w base spare held fuel 27 cs = some y) : ∃ x : PinM, cs = x.cells ∧ x.wf := by
  obtain ⟨xs, n, _, _, hlen, hxl, hf⟩ := DataW.trod_struct Try.underlying27 h
  rw [cellsOf_Pin] at hlen
  clear h
  match cs, hlen with
  | [c0, c1, c2], _ =>
    have g0 : DataW.trod enc Try.prog w base spare held n 4 (List.take (Try.prog.cellsOf 4) (List.drop 0 [c0, c1, c2])) = xs[0]? := hf 0 _ rfl
    have z0 : ∃ y, xs[0]? = some y := ⟨_, List.getElem?_eq_getElem (by rw [hxl]; decide)⟩
    obtain ⟨z0, hz0⟩ := z0
    rw [hz0] at g0; rw [show Try.prog.cellsOf 4 = 1 from by kernel_rfl] at g0; simp only [List.drop_succ_cons, List.drop_zero, List.take_succ_cons, List.take_zero] at g0; clear hz0
    have g1 : DataW.trod enc Try.prog w base spare held n 9 (List.take (Try.prog.cellsOf 9) (List.drop 1 [c0, c1, c2])) = xs[1]? := hf 1 _ rfl
    have z1 : ∃ y, xs[1]? = some y := ⟨_, List.getElem?_eq_getElem (by rw [hxl]; decide)⟩
    obtain ⟨z1, hz1⟩ := z1
    rw [hz1] at g1; rw [show Try.prog.cellsOf 9 = 1 from by kernel_rfl] at g1; simp only [List.drop_succ_cons, List.drop_zero, List.take_succ_cons, List.take_zero] at g1; clear hz1
    have g2 : DataW.trod enc Try.prog w base spare held n 23 (List.take (Try.prog.cellsOf 23) (List.drop 2 [c0, c1, c2])) = xs[2]? := hf 2 _ rfl
    have z2 : ∃ y, xs[2]? = some y := ⟨_, List.getElem?_eq_getElem (by rw [hxl]; decide)⟩
    obtain ⟨z2, hz2⟩ := z2
    rw [hz2] at g2; rw [show Try.prog.cellsOf 23 = 1 from by kernel_rfl] at g2; simp only [List.drop_succ_cons, List.drop_zero, List.take_succ_cons, List.take_zero] at g2; clear hz2
    obtain ⟨x0, e0, _⟩ := DataW.trod_bool Try.underlying4 g0
    obtain rfl := (List.cons.inj e0).1
    obtain ⟨x1, e1, _, w1⟩ := DataW.trod_string Try.underlying9 g1
    obtain rfl := (List.cons.inj e1).1
    obtain ⟨x2, e2, _, w2⟩ := DataW.trod_int Try.underlying23 g2
    obtain rfl := (List.cons.inj e2).1
    obtain ⟨x2, rfl, b2⟩ := u32_of w2
    exact ⟨⟨x0, x1, x2⟩, rfl, ⟨w1, b2⟩⟩

theorem open_Pin_val {H : Type} {enc : TypeId × Value → H} {w : World} {base b0 : Nat} {spare : Nat → Bool} {held : Bool} {r : Reach} {v : Value} {d : DataW H} {p : List MemPlace}
    (hv : Value.okWide Try.prog w r b0 27 v) (h : DataW.Trod enc Try.prog w base spare held 27 v d p) : ∃ x : PinM, v = x.val ∧ x.wf := by
  obtain ⟨cs, rfl, _⟩ := okWide_struct Try.underlying27 hv
  obtain ⟨fuel, hf⟩ := h
  obtain ⟨x, e, w⟩ := open_Pin hf
  refine ⟨x, ?_, w⟩
  have e' : cs.toList = x.cells := e
  obtain ⟨l⟩ := cs
  simp only at e'
  subst e'
  rfl

structure FlowM where
  key : KeyM
  state : Int
  due : Int
  routeTo : PinM
  replyTo : PinM
  table : Int
  deriving Inhabited, DecidableEq

def FlowM.cells (x : FlowM) : List Value := [.int .i64 x.key.proto, .int .u32 (x.key.src : Nat), .int .u32 (x.key.dst : Nat), .int .i64 x.key.a, .int .i64 x.key.b, .int .i64 x.state, .int .i64 x.due, .bool x.routeTo.on, .string x.routeTo.iface, .int .u32 (x.routeTo.gate : Nat), .bool x.replyTo.on, .string x.replyTo.iface, .int .u32 (x.replyTo.gate : Nat), .int .i64 x.table]
def FlowM.val (x : FlowM) : Value := .agg #[.int .i64 x.key.proto, .int .u32 (x.key.src : Nat), .int .u32 (x.key.dst : Nat), .int .i64 x.key.a, .int .i64 x.key.b, .int .i64 x.state, .int .i64 x.due, .bool x.routeTo.on, .string x.routeTo.iface, .int .u32 (x.routeTo.gate : Nat), .bool x.replyTo.on, .string x.replyTo.iface, .int .u32 (x.replyTo.gate : Nat), .int .i64 x.table]
def FlowM.wf (x : FlowM) : Prop := x.key.wf ∧ i64b x.state ∧ i64b x.due ∧ x.routeTo.wf ∧ x.replyTo.wf ∧ i64b x.table
theorem FlowM.length (x : FlowM) : x.cells.length = 14 := rfl
theorem cellsOf_Flow : Try.prog.cellsOf 29 = 14 := by kernel_rfl

theorem open_Flow {H : Type} {enc : TypeId × Value → H} {w : World} {base : Nat} {spare : Nat → Bool} {held : Bool} {fuel : Nat} {cs : List Value} {y : DataW H × List MemPlace}
    (h : DataW.trod enc Try.prog w base spare held fuel 29 cs = some y) : ∃ x : FlowM, cs = x.cells ∧ x.wf := by
  obtain ⟨xs, n, _, _, hlen, hxl, hf⟩ := DataW.trod_struct Try.underlying29 h
  rw [cellsOf_Flow] at hlen
  clear h
  match cs, hlen with
  | [c0, c1, c2, c3, c4, c5, c6, c7, c8, c9, c10, c11, c12, c13], _ =>
    have g0 : DataW.trod enc Try.prog w base spare held n 25 (List.take (Try.prog.cellsOf 25) (List.drop 0 [c0, c1, c2, c3, c4, c5, c6, c7, c8, c9, c10, c11, c12, c13])) = xs[0]? := hf 0 _ rfl
    have z0 : ∃ y, xs[0]? = some y := ⟨_, List.getElem?_eq_getElem (by rw [hxl]; decide)⟩
    obtain ⟨z0, hz0⟩ := z0
    rw [hz0] at g0; rw [show Try.prog.cellsOf 25 = 5 from by kernel_rfl] at g0; simp only [List.drop_succ_cons, List.drop_zero, List.take_succ_cons, List.take_zero] at g0; clear hz0
    have g1 : DataW.trod enc Try.prog w base spare held n 3 (List.take (Try.prog.cellsOf 3) (List.drop 5 [c0, c1, c2, c3, c4, c5, c6, c7, c8, c9, c10, c11, c12, c13])) = xs[1]? := hf 1 _ rfl
    have z1 : ∃ y, xs[1]? = some y := ⟨_, List.getElem?_eq_getElem (by rw [hxl]; decide)⟩
    obtain ⟨z1, hz1⟩ := z1
    rw [hz1] at g1; rw [show Try.prog.cellsOf 3 = 1 from by kernel_rfl] at g1; simp only [List.drop_succ_cons, List.drop_zero, List.take_succ_cons, List.take_zero] at g1; clear hz1
    have g2 : DataW.trod enc Try.prog w base spare held n 3 (List.take (Try.prog.cellsOf 3) (List.drop 6 [c0, c1, c2, c3, c4, c5, c6, c7, c8, c9, c10, c11, c12, c13])) = xs[2]? := hf 2 _ rfl
    have z2 : ∃ y, xs[2]? = some y := ⟨_, List.getElem?_eq_getElem (by rw [hxl]; decide)⟩
    obtain ⟨z2, hz2⟩ := z2
    rw [hz2] at g2; rw [show Try.prog.cellsOf 3 = 1 from by kernel_rfl] at g2; simp only [List.drop_succ_cons, List.drop_zero, List.take_succ_cons, List.take_zero] at g2; clear hz2
    have g3 : DataW.trod enc Try.prog w base spare held n 27 (List.take (Try.prog.cellsOf 27) (List.drop 7 [c0, c1, c2, c3, c4, c5, c6, c7, c8, c9, c10, c11, c12, c13])) = xs[3]? := hf 3 _ rfl
    have z3 : ∃ y, xs[3]? = some y := ⟨_, List.getElem?_eq_getElem (by rw [hxl]; decide)⟩
    obtain ⟨z3, hz3⟩ := z3
    rw [hz3] at g3; rw [show Try.prog.cellsOf 27 = 3 from by kernel_rfl] at g3; simp only [List.drop_succ_cons, List.drop_zero, List.take_succ_cons, List.take_zero] at g3; clear hz3
    have g4 : DataW.trod enc Try.prog w base spare held n 27 (List.take (Try.prog.cellsOf 27) (List.drop 10 [c0, c1, c2, c3, c4, c5, c6, c7, c8, c9, c10, c11, c12, c13])) = xs[4]? := hf 4 _ rfl
    have z4 : ∃ y, xs[4]? = some y := ⟨_, List.getElem?_eq_getElem (by rw [hxl]; decide)⟩
    obtain ⟨z4, hz4⟩ := z4
    rw [hz4] at g4; rw [show Try.prog.cellsOf 27 = 3 from by kernel_rfl] at g4; simp only [List.drop_succ_cons, List.drop_zero, List.take_succ_cons, List.take_zero] at g4; clear hz4
    have g5 : DataW.trod enc Try.prog w base spare held n 3 (List.take (Try.prog.cellsOf 3) (List.drop 13 [c0, c1, c2, c3, c4, c5, c6, c7, c8, c9, c10, c11, c12, c13])) = xs[5]? := hf 5 _ rfl
    have z5 : ∃ y, xs[5]? = some y := ⟨_, List.getElem?_eq_getElem (by rw [hxl]; decide)⟩
    obtain ⟨z5, hz5⟩ := z5
    rw [hz5] at g5; rw [show Try.prog.cellsOf 3 = 1 from by kernel_rfl] at g5; simp only [List.drop_succ_cons, List.drop_zero, List.take_succ_cons, List.take_zero] at g5; clear hz5
    obtain ⟨x0, e0, w0⟩ := open_Key g0
    simp only [KeyM.cells, List.cons.injEq, and_true] at e0
    obtain ⟨rfl, rfl, rfl, rfl, rfl⟩ := e0
    obtain ⟨x1, e1, _, w1⟩ := DataW.trod_int Try.underlying3 g1
    obtain rfl := (List.cons.inj e1).1
    obtain ⟨x2, e2, _, w2⟩ := DataW.trod_int Try.underlying3 g2
    obtain rfl := (List.cons.inj e2).1
    obtain ⟨x3, e3, w3⟩ := open_Pin g3
    simp only [PinM.cells, List.cons.injEq, and_true] at e3
    obtain ⟨rfl, rfl, rfl⟩ := e3
    obtain ⟨x4, e4, w4⟩ := open_Pin g4
    simp only [PinM.cells, List.cons.injEq, and_true] at e4
    obtain ⟨rfl, rfl, rfl⟩ := e4
    obtain ⟨x5, e5, _, w5⟩ := DataW.trod_int Try.underlying3 g5
    obtain rfl := (List.cons.inj e5).1
    exact ⟨⟨x0, x1, x2, x3, x4, x5⟩, rfl, ⟨w0, (i64b_of w1), (i64b_of w2), w3, w4, (i64b_of w5)⟩⟩

theorem open_Flow_val {H : Type} {enc : TypeId × Value → H} {w : World} {base b0 : Nat} {spare : Nat → Bool} {held : Bool} {r : Reach} {v : Value} {d : DataW H} {p : List MemPlace}
    (hv : Value.okWide Try.prog w r b0 29 v) (h : DataW.Trod enc Try.prog w base spare held 29 v d p) : ∃ x : FlowM, v = x.val ∧ x.wf := by
  obtain ⟨cs, rfl, _⟩ := okWide_struct Try.underlying29 hv
  obtain ⟨fuel, hf⟩ := h
  obtain ⟨x, e, w⟩ := open_Flow hf
  refine ⟨x, ?_, w⟩
  have e' : cs.toList = x.cells := e
  obtain ⟨l⟩ := cs
  simp only at e'
  subst e'
  rfl

structure ActM where
  kind : Int
  f : FlowM
  n : Int
  deriving Inhabited, DecidableEq

def ActM.cells (x : ActM) : List Value := [.int .i64 x.kind, .int .i64 x.f.key.proto, .int .u32 (x.f.key.src : Nat), .int .u32 (x.f.key.dst : Nat), .int .i64 x.f.key.a, .int .i64 x.f.key.b, .int .i64 x.f.state, .int .i64 x.f.due, .bool x.f.routeTo.on, .string x.f.routeTo.iface, .int .u32 (x.f.routeTo.gate : Nat), .bool x.f.replyTo.on, .string x.f.replyTo.iface, .int .u32 (x.f.replyTo.gate : Nat), .int .i64 x.f.table, .int .i64 x.n]
def ActM.val (x : ActM) : Value := .agg #[.int .i64 x.kind, .int .i64 x.f.key.proto, .int .u32 (x.f.key.src : Nat), .int .u32 (x.f.key.dst : Nat), .int .i64 x.f.key.a, .int .i64 x.f.key.b, .int .i64 x.f.state, .int .i64 x.f.due, .bool x.f.routeTo.on, .string x.f.routeTo.iface, .int .u32 (x.f.routeTo.gate : Nat), .bool x.f.replyTo.on, .string x.f.replyTo.iface, .int .u32 (x.f.replyTo.gate : Nat), .int .i64 x.f.table, .int .i64 x.n]
def ActM.wf (x : ActM) : Prop := i64b x.kind ∧ x.f.wf ∧ i64b x.n
theorem ActM.length (x : ActM) : x.cells.length = 16 := rfl
theorem cellsOf_Act : Try.prog.cellsOf 48 = 16 := by kernel_rfl

theorem open_Act {H : Type} {enc : TypeId × Value → H} {w : World} {base : Nat} {spare : Nat → Bool} {held : Bool} {fuel : Nat} {cs : List Value} {y : DataW H × List MemPlace}
    (h : DataW.trod enc Try.prog w base spare held fuel 48 cs = some y) : ∃ x : ActM, cs = x.cells ∧ x.wf := by
  obtain ⟨xs, n, _, _, hlen, hxl, hf⟩ := DataW.trod_struct Try.underlying48 h
  rw [cellsOf_Act] at hlen
  clear h
  match cs, hlen with
  | [c0, c1, c2, c3, c4, c5, c6, c7, c8, c9, c10, c11, c12, c13, c14, c15], _ =>
    have g0 : DataW.trod enc Try.prog w base spare held n 3 (List.take (Try.prog.cellsOf 3) (List.drop 0 [c0, c1, c2, c3, c4, c5, c6, c7, c8, c9, c10, c11, c12, c13, c14, c15])) = xs[0]? := hf 0 _ rfl
    have z0 : ∃ y, xs[0]? = some y := ⟨_, List.getElem?_eq_getElem (by rw [hxl]; decide)⟩
    obtain ⟨z0, hz0⟩ := z0
    rw [hz0] at g0; rw [show Try.prog.cellsOf 3 = 1 from by kernel_rfl] at g0; simp only [List.drop_succ_cons, List.drop_zero, List.take_succ_cons, List.take_zero] at g0; clear hz0
    have g1 : DataW.trod enc Try.prog w base spare held n 29 (List.take (Try.prog.cellsOf 29) (List.drop 1 [c0, c1, c2, c3, c4, c5, c6, c7, c8, c9, c10, c11, c12, c13, c14, c15])) = xs[1]? := hf 1 _ rfl
    have z1 : ∃ y, xs[1]? = some y := ⟨_, List.getElem?_eq_getElem (by rw [hxl]; decide)⟩
    obtain ⟨z1, hz1⟩ := z1
    rw [hz1] at g1; rw [show Try.prog.cellsOf 29 = 14 from by kernel_rfl] at g1; simp only [List.drop_succ_cons, List.drop_zero, List.take_succ_cons, List.take_zero] at g1; clear hz1
    have g2 : DataW.trod enc Try.prog w base spare held n 3 (List.take (Try.prog.cellsOf 3) (List.drop 15 [c0, c1, c2, c3, c4, c5, c6, c7, c8, c9, c10, c11, c12, c13, c14, c15])) = xs[2]? := hf 2 _ rfl
    have z2 : ∃ y, xs[2]? = some y := ⟨_, List.getElem?_eq_getElem (by rw [hxl]; decide)⟩
    obtain ⟨z2, hz2⟩ := z2
    rw [hz2] at g2; rw [show Try.prog.cellsOf 3 = 1 from by kernel_rfl] at g2; simp only [List.drop_succ_cons, List.drop_zero, List.take_succ_cons, List.take_zero] at g2; clear hz2
    obtain ⟨x0, e0, _, w0⟩ := DataW.trod_int Try.underlying3 g0
    obtain rfl := (List.cons.inj e0).1
    obtain ⟨x1, e1, w1⟩ := open_Flow g1
    simp only [FlowM.cells, List.cons.injEq, and_true] at e1
    obtain ⟨rfl, rfl, rfl, rfl, rfl, rfl, rfl, rfl, rfl, rfl, rfl, rfl, rfl, rfl⟩ := e1
    obtain ⟨x2, e2, _, w2⟩ := DataW.trod_int Try.underlying3 g2
    obtain rfl := (List.cons.inj e2).1
    exact ⟨⟨x0, x1, x2⟩, rfl, ⟨(i64b_of w0), w1, (i64b_of w2)⟩⟩

theorem open_Act_val {H : Type} {enc : TypeId × Value → H} {w : World} {base b0 : Nat} {spare : Nat → Bool} {held : Bool} {r : Reach} {v : Value} {d : DataW H} {p : List MemPlace}
    (hv : Value.okWide Try.prog w r b0 48 v) (h : DataW.Trod enc Try.prog w base spare held 48 v d p) : ∃ x : ActM, v = x.val ∧ x.wf := by
  obtain ⟨cs, rfl, _⟩ := okWide_struct Try.underlying48 hv
  obtain ⟨fuel, hf⟩ := h
  obtain ⟨x, e, w⟩ := open_Act hf
  refine ⟨x, ?_, w⟩
  have e' : cs.toList = x.cells := e
  obtain ⟨l⟩ := cs
  simp only at e'
  subst e'
  rfl

end Go.Proofs.Ytjfjpibjjliagaa

/- Go's structs mirrored in Lean, and the theorems that open a value that came in. Written by a program (mirror.py). -/
import Derived.Test.YtgjabgneapdbiaaData
namespace Go.Proofs.Ytgjabgneapdbiaa
open Go.ChangeShapes Go.WideShapes Go.Deep Go.RowKit
set_option linter.unusedSimpArgs false
set_option linter.unusedVariables false
set_option maxRecDepth 100000

structure PrefixM where
  addr : Nat
  len : Int
  deriving Inhabited, DecidableEq

def PrefixM.cells (x : PrefixM) : List Value := [.int .u32 (x.addr : Nat), .int .i64 x.len]
def PrefixM.val (x : PrefixM) : Value := .agg #[.int .u32 (x.addr : Nat), .int .i64 x.len]
def PrefixM.wf (x : PrefixM) : Prop := x.addr < 4294967296 ∧ i64b x.len
theorem PrefixM.length (x : PrefixM) : x.cells.length = 2 := rfl
theorem cellsOf_Prefix : Try.prog.cellsOf 28 = 2 := by kernel_rfl

theorem open_Prefix {H : Type} {enc : TypeId × Value → H} {w : World} {base : Nat} {spare : Nat → Bool} {held : Bool} {fuel : Nat} {cs : List Value} {y : DataW H × List MemPlace}
    (h : DataW.trod enc Try.prog w base spare held fuel 28 cs = some y) : ∃ x : PrefixM, cs = x.cells ∧ x.wf := by
  obtain ⟨xs, n, _, _, hlen, hxl, hf⟩ := DataW.trod_struct Try.underlying28 h
  rw [cellsOf_Prefix] at hlen
  clear h
  match cs, hlen with
  | [c0, c1], _ =>
    have g0 : DataW.trod enc Try.prog w base spare held n 22 (List.take (Try.prog.cellsOf 22) (List.drop 0 [c0, c1])) = xs[0]? := hf 0 _ rfl
    have z0 : ∃ y, xs[0]? = some y := ⟨_, List.getElem?_eq_getElem (by rw [hxl]; decide)⟩
    obtain ⟨z0, hz0⟩ := z0
    rw [hz0] at g0; rw [show Try.prog.cellsOf 22 = 1 from by kernel_rfl] at g0; simp only [List.drop_succ_cons, List.drop_zero, List.take_succ_cons, List.take_zero] at g0; clear hz0
    have g1 : DataW.trod enc Try.prog w base spare held n 3 (List.take (Try.prog.cellsOf 3) (List.drop 1 [c0, c1])) = xs[1]? := hf 1 _ rfl
    have z1 : ∃ y, xs[1]? = some y := ⟨_, List.getElem?_eq_getElem (by rw [hxl]; decide)⟩
    obtain ⟨z1, hz1⟩ := z1
    rw [hz1] at g1; rw [show Try.prog.cellsOf 3 = 1 from by kernel_rfl] at g1; simp only [List.drop_succ_cons, List.drop_zero, List.take_succ_cons, List.take_zero] at g1; clear hz1
    obtain ⟨x0, e0, _, w0⟩ := DataW.trod_int Try.underlying22 g0
    obtain rfl := (List.cons.inj e0).1
    obtain ⟨x0, rfl, b0⟩ := u32_of w0
    obtain ⟨x1, e1, _, w1⟩ := DataW.trod_int Try.underlying3 g1
    obtain rfl := (List.cons.inj e1).1
    exact ⟨⟨x0, x1⟩, rfl, ⟨b0, (i64b_of w1)⟩⟩

theorem open_Prefix_val {H : Type} {enc : TypeId × Value → H} {w : World} {base b0 : Nat} {spare : Nat → Bool} {held : Bool} {r : Reach} {v : Value} {d : DataW H} {p : List MemPlace}
    (hv : Value.okWide Try.prog w r b0 28 v) (h : DataW.Trod enc Try.prog w base spare held 28 v d p) : ∃ x : PrefixM, v = x.val ∧ x.wf := by
  obtain ⟨cs, rfl, _⟩ := okWide_struct Try.underlying28 hv
  obtain ⟨fuel, hf⟩ := h
  obtain ⟨x, e, w⟩ := open_Prefix hf
  refine ⟨x, ?_, w⟩
  have e' : cs.toList = x.cells := e
  obtain ⟨l⟩ := cs
  simp only at e'
  subst e'
  rfl

structure TActM where
  del : Bool
  p : PrefixM
  v : Int
  deriving Inhabited, DecidableEq

def TActM.cells (x : TActM) : List Value := [.bool x.del, .int .u32 (x.p.addr : Nat), .int .i64 x.p.len, .int .i64 x.v]
def TActM.val (x : TActM) : Value := .agg #[.bool x.del, .int .u32 (x.p.addr : Nat), .int .i64 x.p.len, .int .i64 x.v]
def TActM.wf (x : TActM) : Prop := x.p.wf ∧ i64b x.v
theorem TActM.length (x : TActM) : x.cells.length = 4 := rfl
theorem cellsOf_TAct : Try.prog.cellsOf 54 = 4 := by kernel_rfl

theorem open_TAct {H : Type} {enc : TypeId × Value → H} {w : World} {base : Nat} {spare : Nat → Bool} {held : Bool} {fuel : Nat} {cs : List Value} {y : DataW H × List MemPlace}
    (h : DataW.trod enc Try.prog w base spare held fuel 54 cs = some y) : ∃ x : TActM, cs = x.cells ∧ x.wf := by
  obtain ⟨xs, n, _, _, hlen, hxl, hf⟩ := DataW.trod_struct Try.underlying54 h
  rw [cellsOf_TAct] at hlen
  clear h
  match cs, hlen with
  | [c0, c1, c2, c3], _ =>
    have g0 : DataW.trod enc Try.prog w base spare held n 4 (List.take (Try.prog.cellsOf 4) (List.drop 0 [c0, c1, c2, c3])) = xs[0]? := hf 0 _ rfl
    have z0 : ∃ y, xs[0]? = some y := ⟨_, List.getElem?_eq_getElem (by rw [hxl]; decide)⟩
    obtain ⟨z0, hz0⟩ := z0
    rw [hz0] at g0; rw [show Try.prog.cellsOf 4 = 1 from by kernel_rfl] at g0; simp only [List.drop_succ_cons, List.drop_zero, List.take_succ_cons, List.take_zero] at g0; clear hz0
    have g1 : DataW.trod enc Try.prog w base spare held n 28 (List.take (Try.prog.cellsOf 28) (List.drop 1 [c0, c1, c2, c3])) = xs[1]? := hf 1 _ rfl
    have z1 : ∃ y, xs[1]? = some y := ⟨_, List.getElem?_eq_getElem (by rw [hxl]; decide)⟩
    obtain ⟨z1, hz1⟩ := z1
    rw [hz1] at g1; rw [show Try.prog.cellsOf 28 = 2 from by kernel_rfl] at g1; simp only [List.drop_succ_cons, List.drop_zero, List.take_succ_cons, List.take_zero] at g1; clear hz1
    have g2 : DataW.trod enc Try.prog w base spare held n 3 (List.take (Try.prog.cellsOf 3) (List.drop 3 [c0, c1, c2, c3])) = xs[2]? := hf 2 _ rfl
    have z2 : ∃ y, xs[2]? = some y := ⟨_, List.getElem?_eq_getElem (by rw [hxl]; decide)⟩
    obtain ⟨z2, hz2⟩ := z2
    rw [hz2] at g2; rw [show Try.prog.cellsOf 3 = 1 from by kernel_rfl] at g2; simp only [List.drop_succ_cons, List.drop_zero, List.take_succ_cons, List.take_zero] at g2; clear hz2
    obtain ⟨x0, e0, _⟩ := DataW.trod_bool Try.underlying4 g0
    obtain rfl := (List.cons.inj e0).1
    obtain ⟨x1, e1, w1⟩ := open_Prefix g1
    simp only [PrefixM.cells, List.cons.injEq, and_true] at e1
    obtain ⟨rfl, rfl⟩ := e1
    obtain ⟨x2, e2, _, w2⟩ := DataW.trod_int Try.underlying3 g2
    obtain rfl := (List.cons.inj e2).1
    exact ⟨⟨x0, x1, x2⟩, rfl, ⟨w1, (i64b_of w2)⟩⟩

theorem open_TAct_val {H : Type} {enc : TypeId × Value → H} {w : World} {base b0 : Nat} {spare : Nat → Bool} {held : Bool} {r : Reach} {v : Value} {d : DataW H} {p : List MemPlace}
    (hv : Value.okWide Try.prog w r b0 54 v) (h : DataW.Trod enc Try.prog w base spare held 54 v d p) : ∃ x : TActM, v = x.val ∧ x.wf := by
  obtain ⟨cs, rfl, _⟩ := okWide_struct Try.underlying54 hv
  obtain ⟨fuel, hf⟩ := h
  obtain ⟨x, e, w⟩ := open_TAct hf
  refine ⟨x, ?_, w⟩
  have e' : cs.toList = x.cells := e
  obtain ⟨l⟩ := cs
  simp only at e'
  subst e'
  rfl

structure DActM where
  del : Bool
  p : PrefixM
  v : Int
  deriving Inhabited, DecidableEq

def DActM.cells (x : DActM) : List Value := [.bool x.del, .int .u32 (x.p.addr : Nat), .int .i64 x.p.len, .int .i64 x.v]
def DActM.val (x : DActM) : Value := .agg #[.bool x.del, .int .u32 (x.p.addr : Nat), .int .i64 x.p.len, .int .i64 x.v]
def DActM.wf (x : DActM) : Prop := x.p.wf ∧ i64b x.v
theorem DActM.length (x : DActM) : x.cells.length = 4 := rfl
theorem cellsOf_DAct : Try.prog.cellsOf 63 = 4 := by kernel_rfl

theorem open_DAct {H : Type} {enc : TypeId × Value → H} {w : World} {base : Nat} {spare : Nat → Bool} {held : Bool} {fuel : Nat} {cs : List Value} {y : DataW H × List MemPlace}
    (h : DataW.trod enc Try.prog w base spare held fuel 63 cs = some y) : ∃ x : DActM, cs = x.cells ∧ x.wf := by
  obtain ⟨xs, n, _, _, hlen, hxl, hf⟩ := DataW.trod_struct Try.underlying63 h
  rw [cellsOf_DAct] at hlen
  clear h
  match cs, hlen with
  | [c0, c1, c2, c3], _ =>
    have g0 : DataW.trod enc Try.prog w base spare held n 4 (List.take (Try.prog.cellsOf 4) (List.drop 0 [c0, c1, c2, c3])) = xs[0]? := hf 0 _ rfl
    have z0 : ∃ y, xs[0]? = some y := ⟨_, List.getElem?_eq_getElem (by rw [hxl]; decide)⟩
    obtain ⟨z0, hz0⟩ := z0
    rw [hz0] at g0; rw [show Try.prog.cellsOf 4 = 1 from by kernel_rfl] at g0; simp only [List.drop_succ_cons, List.drop_zero, List.take_succ_cons, List.take_zero] at g0; clear hz0
    have g1 : DataW.trod enc Try.prog w base spare held n 28 (List.take (Try.prog.cellsOf 28) (List.drop 1 [c0, c1, c2, c3])) = xs[1]? := hf 1 _ rfl
    have z1 : ∃ y, xs[1]? = some y := ⟨_, List.getElem?_eq_getElem (by rw [hxl]; decide)⟩
    obtain ⟨z1, hz1⟩ := z1
    rw [hz1] at g1; rw [show Try.prog.cellsOf 28 = 2 from by kernel_rfl] at g1; simp only [List.drop_succ_cons, List.drop_zero, List.take_succ_cons, List.take_zero] at g1; clear hz1
    have g2 : DataW.trod enc Try.prog w base spare held n 3 (List.take (Try.prog.cellsOf 3) (List.drop 3 [c0, c1, c2, c3])) = xs[2]? := hf 2 _ rfl
    have z2 : ∃ y, xs[2]? = some y := ⟨_, List.getElem?_eq_getElem (by rw [hxl]; decide)⟩
    obtain ⟨z2, hz2⟩ := z2
    rw [hz2] at g2; rw [show Try.prog.cellsOf 3 = 1 from by kernel_rfl] at g2; simp only [List.drop_succ_cons, List.drop_zero, List.take_succ_cons, List.take_zero] at g2; clear hz2
    obtain ⟨x0, e0, _⟩ := DataW.trod_bool Try.underlying4 g0
    obtain rfl := (List.cons.inj e0).1
    obtain ⟨x1, e1, w1⟩ := open_Prefix g1
    simp only [PrefixM.cells, List.cons.injEq, and_true] at e1
    obtain ⟨rfl, rfl⟩ := e1
    obtain ⟨x2, e2, _, w2⟩ := DataW.trod_int Try.underlying3 g2
    obtain rfl := (List.cons.inj e2).1
    exact ⟨⟨x0, x1, x2⟩, rfl, ⟨w1, (i64b_of w2)⟩⟩

theorem open_DAct_val {H : Type} {enc : TypeId × Value → H} {w : World} {base b0 : Nat} {spare : Nat → Bool} {held : Bool} {r : Reach} {v : Value} {d : DataW H} {p : List MemPlace}
    (hv : Value.okWide Try.prog w r b0 63 v) (h : DataW.Trod enc Try.prog w base spare held 63 v d p) : ∃ x : DActM, v = x.val ∧ x.wf := by
  obtain ⟨cs, rfl, _⟩ := okWide_struct Try.underlying63 hv
  obtain ⟨fuel, hf⟩ := h
  obtain ⟨x, e, w⟩ := open_DAct hf
  refine ⟨x, ?_, w⟩
  have e' : cs.toList = x.cells := e
  obtain ⟨l⟩ := cs
  simp only at e'
  subst e'
  rfl

end Go.Proofs.Ytgjabgneapdbiaa

/- Go's structs mirrored in Lean, and the theorems that open a value that came in. Written by a program (mirror.py). -/
import Derived.Test.YtdmghildjadjeaaData
namespace Go.Proofs.Ytdmghildjadjeaa
open Go.ChangeShapes Go.WideShapes Go.Deep Go.RowKit
set_option linter.unusedSimpArgs false
set_option linter.unusedVariables false

structure PrefixM where
  addr : Nat
  len : Int
  deriving Inhabited, DecidableEq

def PrefixM.cells (x : PrefixM) : List Value := [.int .u32 (x.addr : Nat), .int .i64 x.len]
def PrefixM.val (x : PrefixM) : Value := .agg #[.int .u32 (x.addr : Nat), .int .i64 x.len]
def PrefixM.wf (x : PrefixM) : Prop := x.addr < 4294967296 ∧ i64b x.len
theorem PrefixM.length (x : PrefixM) : x.cells.length = 2 := rfl
theorem cellsOf_Prefix : Try.prog.cellsOf 24 = 2 := by kernel_rfl

theorem open_Prefix {H : Type} {enc : TypeId × Value → H} {w : World} {base : Nat} {spare : Nat → Bool} {held : Bool} {fuel : Nat} {cs : List Value} {y : DataW H × List MemPlace}
    (h : DataW.trod enc Try.prog w base spare held fuel 24 cs = some y) : ∃ x : PrefixM, cs = x.cells ∧ x.wf := by
  obtain ⟨xs, n, _, _, hlen, hxl, hf⟩ := DataW.trod_struct Try.underlying24 h
  rw [cellsOf_Prefix] at hlen
  clear h
  match cs, hlen with
  | [c0, c1], _ =>
    have g0 : DataW.trod enc Try.prog w base spare held n 22 (List.take (Try.prog.cellsOf 22) (List.drop 0 [c0, c1])) = xs[0]? := hf 0 _ rfl
    have z0 : ∃ y, xs[0]? = some y := ⟨_, List.getElem?_eq_getElem (by rw [hxl]; decide)⟩
    obtain ⟨z0, hz0⟩ := z0
    rw [hz0] at g0; rw [show Try.prog.cellsOf 22 = 1 from by kernel_rfl] at g0; simp only [List.drop_succ_cons, List.drop_zero, List.take_succ_cons, List.take_zero] at g0; clear hz0
    have g1 : DataW.trod enc Try.prog w base spare held n 3 (List.take (Try.prog.cellsOf 3) (List.drop 1 [c0, c1])) = xs[1]? := hf 1 _ rfl
    have z1 : ∃ y, xs[1]? = some y := ⟨_, List.getElem?_eq_getElem (by rw [hxl]; decide)⟩
    obtain ⟨z1, hz1⟩ := z1
    rw [hz1] at g1; rw [show Try.prog.cellsOf 3 = 1 from by kernel_rfl] at g1; simp only [List.drop_succ_cons, List.drop_zero, List.take_succ_cons, List.take_zero] at g1; clear hz1
    obtain ⟨x0, e0, _, w0⟩ := DataW.trod_int Try.underlying22 g0
    obtain rfl := (List.cons.inj e0).1
    obtain ⟨x0, rfl, b0⟩ := u32_of w0
    obtain ⟨x1, e1, _, w1⟩ := DataW.trod_int Try.underlying3 g1
    obtain rfl := (List.cons.inj e1).1
    exact ⟨⟨x0, x1⟩, rfl, ⟨b0, (i64b_of w1)⟩⟩

theorem open_Prefix_val {H : Type} {enc : TypeId × Value → H} {w : World} {base b0 : Nat} {spare : Nat → Bool} {held : Bool} {r : Reach} {v : Value} {d : DataW H} {p : List MemPlace}
    (hv : Value.okWide Try.prog w r b0 24 v) (h : DataW.Trod enc Try.prog w base spare held 24 v d p) : ∃ x : PrefixM, v = x.val ∧ x.wf := by
  obtain ⟨cs, rfl, _⟩ := okWide_struct Try.underlying24 hv
  obtain ⟨fuel, hf⟩ := h
  obtain ⟨x, e, w⟩ := open_Prefix hf
  refine ⟨x, ?_, w⟩
  have e' : cs.toList = x.cells := e
  obtain ⟨l⟩ := cs
  simp only at e'
  subst e'
  rfl

structure RouteM where
  table : Int
  pfx : PrefixM
  iface : Int
  gate : Nat
  metric : Int
  deriving Inhabited, DecidableEq

def RouteM.cells (x : RouteM) : List Value := [.int .i64 x.table, .int .u32 (x.pfx.addr : Nat), .int .i64 x.pfx.len, .int .i64 x.iface, .int .u32 (x.gate : Nat), .int .i64 x.metric]
def RouteM.val (x : RouteM) : Value := .agg #[.int .i64 x.table, .int .u32 (x.pfx.addr : Nat), .int .i64 x.pfx.len, .int .i64 x.iface, .int .u32 (x.gate : Nat), .int .i64 x.metric]
def RouteM.wf (x : RouteM) : Prop := i64b x.table ∧ x.pfx.wf ∧ i64b x.iface ∧ x.gate < 4294967296 ∧ i64b x.metric
theorem RouteM.length (x : RouteM) : x.cells.length = 6 := rfl
theorem cellsOf_Route : Try.prog.cellsOf 26 = 6 := by kernel_rfl

theorem open_Route {H : Type} {enc : TypeId × Value → H} {w : World} {base : Nat} {spare : Nat → Bool} {held : Bool} {fuel : Nat} {cs : List Value} {y : DataW H × List MemPlace}
    (h : DataW.trod enc Try.prog w base spare held fuel 26 cs = some y) : ∃ x : RouteM, cs = x.cells ∧ x.wf := by
  obtain ⟨xs, n, _, _, hlen, hxl, hf⟩ := DataW.trod_struct Try.underlying26 h
  rw [cellsOf_Route] at hlen
  clear h
  match cs, hlen with
  | [c0, c1, c2, c3, c4, c5], _ =>
    have g0 : DataW.trod enc Try.prog w base spare held n 3 (List.take (Try.prog.cellsOf 3) (List.drop 0 [c0, c1, c2, c3, c4, c5])) = xs[0]? := hf 0 _ rfl
    have z0 : ∃ y, xs[0]? = some y := ⟨_, List.getElem?_eq_getElem (by rw [hxl]; decide)⟩
    obtain ⟨z0, hz0⟩ := z0
    rw [hz0] at g0; rw [show Try.prog.cellsOf 3 = 1 from by kernel_rfl] at g0; simp only [List.drop_succ_cons, List.drop_zero, List.take_succ_cons, List.take_zero] at g0; clear hz0
    have g1 : DataW.trod enc Try.prog w base spare held n 24 (List.take (Try.prog.cellsOf 24) (List.drop 1 [c0, c1, c2, c3, c4, c5])) = xs[1]? := hf 1 _ rfl
    have z1 : ∃ y, xs[1]? = some y := ⟨_, List.getElem?_eq_getElem (by rw [hxl]; decide)⟩
    obtain ⟨z1, hz1⟩ := z1
    rw [hz1] at g1; rw [show Try.prog.cellsOf 24 = 2 from by kernel_rfl] at g1; simp only [List.drop_succ_cons, List.drop_zero, List.take_succ_cons, List.take_zero] at g1; clear hz1
    have g2 : DataW.trod enc Try.prog w base spare held n 3 (List.take (Try.prog.cellsOf 3) (List.drop 3 [c0, c1, c2, c3, c4, c5])) = xs[2]? := hf 2 _ rfl
    have z2 : ∃ y, xs[2]? = some y := ⟨_, List.getElem?_eq_getElem (by rw [hxl]; decide)⟩
    obtain ⟨z2, hz2⟩ := z2
    rw [hz2] at g2; rw [show Try.prog.cellsOf 3 = 1 from by kernel_rfl] at g2; simp only [List.drop_succ_cons, List.drop_zero, List.take_succ_cons, List.take_zero] at g2; clear hz2
    have g3 : DataW.trod enc Try.prog w base spare held n 22 (List.take (Try.prog.cellsOf 22) (List.drop 4 [c0, c1, c2, c3, c4, c5])) = xs[3]? := hf 3 _ rfl
    have z3 : ∃ y, xs[3]? = some y := ⟨_, List.getElem?_eq_getElem (by rw [hxl]; decide)⟩
    obtain ⟨z3, hz3⟩ := z3
    rw [hz3] at g3; rw [show Try.prog.cellsOf 22 = 1 from by kernel_rfl] at g3; simp only [List.drop_succ_cons, List.drop_zero, List.take_succ_cons, List.take_zero] at g3; clear hz3
    have g4 : DataW.trod enc Try.prog w base spare held n 3 (List.take (Try.prog.cellsOf 3) (List.drop 5 [c0, c1, c2, c3, c4, c5])) = xs[4]? := hf 4 _ rfl
    have z4 : ∃ y, xs[4]? = some y := ⟨_, List.getElem?_eq_getElem (by rw [hxl]; decide)⟩
    obtain ⟨z4, hz4⟩ := z4
    rw [hz4] at g4; rw [show Try.prog.cellsOf 3 = 1 from by kernel_rfl] at g4; simp only [List.drop_succ_cons, List.drop_zero, List.take_succ_cons, List.take_zero] at g4; clear hz4
    obtain ⟨x0, e0, _, w0⟩ := DataW.trod_int Try.underlying3 g0
    obtain rfl := (List.cons.inj e0).1
    obtain ⟨x1, e1, w1⟩ := open_Prefix g1
    simp only [PrefixM.cells, List.cons.injEq, and_true] at e1
    obtain ⟨rfl, rfl⟩ := e1
    obtain ⟨x2, e2, _, w2⟩ := DataW.trod_int Try.underlying3 g2
    obtain rfl := (List.cons.inj e2).1
    obtain ⟨x3, e3, _, w3⟩ := DataW.trod_int Try.underlying22 g3
    obtain rfl := (List.cons.inj e3).1
    obtain ⟨x3, rfl, b3⟩ := u32_of w3
    obtain ⟨x4, e4, _, w4⟩ := DataW.trod_int Try.underlying3 g4
    obtain rfl := (List.cons.inj e4).1
    exact ⟨⟨x0, x1, x2, x3, x4⟩, rfl, ⟨(i64b_of w0), w1, (i64b_of w2), b3, (i64b_of w4)⟩⟩

theorem open_Route_val {H : Type} {enc : TypeId × Value → H} {w : World} {base b0 : Nat} {spare : Nat → Bool} {held : Bool} {r : Reach} {v : Value} {d : DataW H} {p : List MemPlace}
    (hv : Value.okWide Try.prog w r b0 26 v) (h : DataW.Trod enc Try.prog w base spare held 26 v d p) : ∃ x : RouteM, v = x.val ∧ x.wf := by
  obtain ⟨cs, rfl, _⟩ := okWide_struct Try.underlying26 hv
  obtain ⟨fuel, hf⟩ := h
  obtain ⟨x, e, w⟩ := open_Route hf
  refine ⟨x, ?_, w⟩
  have e' : cs.toList = x.cells := e
  obtain ⟨l⟩ := cs
  simp only at e'
  subst e'
  rfl

structure ActM where
  del : Bool
  r : RouteM
  deriving Inhabited, DecidableEq

def ActM.cells (x : ActM) : List Value := [.bool x.del, .int .i64 x.r.table, .int .u32 (x.r.pfx.addr : Nat), .int .i64 x.r.pfx.len, .int .i64 x.r.iface, .int .u32 (x.r.gate : Nat), .int .i64 x.r.metric]
def ActM.val (x : ActM) : Value := .agg #[.bool x.del, .int .i64 x.r.table, .int .u32 (x.r.pfx.addr : Nat), .int .i64 x.r.pfx.len, .int .i64 x.r.iface, .int .u32 (x.r.gate : Nat), .int .i64 x.r.metric]
def ActM.wf (x : ActM) : Prop := x.r.wf
theorem ActM.length (x : ActM) : x.cells.length = 7 := rfl
theorem cellsOf_Act : Try.prog.cellsOf 66 = 7 := by kernel_rfl

theorem open_Act {H : Type} {enc : TypeId × Value → H} {w : World} {base : Nat} {spare : Nat → Bool} {held : Bool} {fuel : Nat} {cs : List Value} {y : DataW H × List MemPlace}
    (h : DataW.trod enc Try.prog w base spare held fuel 66 cs = some y) : ∃ x : ActM, cs = x.cells ∧ x.wf := by
  obtain ⟨xs, n, _, _, hlen, hxl, hf⟩ := DataW.trod_struct Try.underlying66 h
  rw [cellsOf_Act] at hlen
  clear h
  match cs, hlen with
  | [c0, c1, c2, c3, c4, c5, c6], _ =>
    have g0 : DataW.trod enc Try.prog w base spare held n 4 (List.take (Try.prog.cellsOf 4) (List.drop 0 [c0, c1, c2, c3, c4, c5, c6])) = xs[0]? := hf 0 _ rfl
    have z0 : ∃ y, xs[0]? = some y := ⟨_, List.getElem?_eq_getElem (by rw [hxl]; decide)⟩
    obtain ⟨z0, hz0⟩ := z0
    rw [hz0] at g0; rw [show Try.prog.cellsOf 4 = 1 from by kernel_rfl] at g0; simp only [List.drop_succ_cons, List.drop_zero, List.take_succ_cons, List.take_zero] at g0; clear hz0
    have g1 : DataW.trod enc Try.prog w base spare held n 26 (List.take (Try.prog.cellsOf 26) (List.drop 1 [c0, c1, c2, c3, c4, c5, c6])) = xs[1]? := hf 1 _ rfl
    have z1 : ∃ y, xs[1]? = some y := ⟨_, List.getElem?_eq_getElem (by rw [hxl]; decide)⟩
    obtain ⟨z1, hz1⟩ := z1
    rw [hz1] at g1; rw [show Try.prog.cellsOf 26 = 6 from by kernel_rfl] at g1; simp only [List.drop_succ_cons, List.drop_zero, List.take_succ_cons, List.take_zero] at g1; clear hz1
    obtain ⟨x0, e0, _⟩ := DataW.trod_bool Try.underlying4 g0
    obtain rfl := (List.cons.inj e0).1
    obtain ⟨x1, e1, w1⟩ := open_Route g1
    simp only [RouteM.cells, List.cons.injEq, and_true] at e1
    obtain ⟨rfl, rfl, rfl, rfl, rfl, rfl⟩ := e1
    exact ⟨⟨x0, x1⟩, rfl, w1⟩

theorem open_Act_val {H : Type} {enc : TypeId × Value → H} {w : World} {base b0 : Nat} {spare : Nat → Bool} {held : Bool} {r : Reach} {v : Value} {d : DataW H} {p : List MemPlace}
    (hv : Value.okWide Try.prog w r b0 66 v) (h : DataW.Trod enc Try.prog w base spare held 66 v d p) : ∃ x : ActM, v = x.val ∧ x.wf := by
  obtain ⟨cs, rfl, _⟩ := okWide_struct Try.underlying66 hv
  obtain ⟨fuel, hf⟩ := h
  obtain ⟨x, e, w⟩ := open_Act hf
  refine ⟨x, ?_, w⟩
  have e' : cs.toList = x.cells := e
  obtain ⟨l⟩ := cs
  simp only at e'
  subst e'
  rfl

end Go.Proofs.Ytdmghildjadjeaa

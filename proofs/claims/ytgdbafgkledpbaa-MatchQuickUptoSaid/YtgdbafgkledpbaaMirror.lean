/- Go's structs mirrored in Lean, and the theorems that open a value that came in. Written by a program (mirror.py). -/
import Derived.Test.YtgdbafgkledpbaaData
namespace Go.Proofs.Ytgdbafgkledpbaa
open Go.ChangeShapes Go.WideShapes Go.Deep Go.RowKit
set_option linter.unusedSimpArgs false
set_option linter.unusedVariables false

structure PrefixM where
  addr : Nat
  len : Int
  deriving Inhabited

def PrefixM.cells (x : PrefixM) : List Value := [.int .u32 (x.addr : Nat), .int .i64 x.len]
def PrefixM.val (x : PrefixM) : Value := .agg #[.int .u32 (x.addr : Nat), .int .i64 x.len]
def PrefixM.wf (x : PrefixM) : Prop := x.addr < 4294967296 ∧ i64b x.len
theorem PrefixM.length (x : PrefixM) : x.cells.length = 2 := rfl
theorem cellsOf_Prefix : Try.prog.cellsOf 32 = 2 := by kernel_rfl

theorem open_Prefix {H : Type} {enc : TypeId × Value → H} {w : World} {base : Nat} {spare : Nat → Bool} {held : Bool} {fuel : Nat} {cs : List Value} {y : DataW H × List MemPlace}
    (h : DataW.trod enc Try.prog w base spare held fuel 32 cs = some y) : ∃ x : PrefixM, cs = x.cells ∧ x.wf := by
  obtain ⟨xs, n, _, _, hlen, hxl, hf⟩ := DataW.trod_struct Try.underlying32 h
  rw [cellsOf_Prefix] at hlen
  clear h
  match cs, hlen with
  | [c0, c1], _ =>
    have g0 : DataW.trod enc Try.prog w base spare held n 24 (List.take (Try.prog.cellsOf 24) (List.drop 0 [c0, c1])) = xs[0]? := hf 0 _ rfl
    have z0 : ∃ y, xs[0]? = some y := ⟨_, List.getElem?_eq_getElem (by rw [hxl]; decide)⟩
    obtain ⟨z0, hz0⟩ := z0
    rw [hz0] at g0; rw [show Try.prog.cellsOf 24 = 1 from by kernel_rfl] at g0; simp only [List.drop_succ_cons, List.drop_zero, List.take_succ_cons, List.take_zero] at g0; clear hz0
    have g1 : DataW.trod enc Try.prog w base spare held n 3 (List.take (Try.prog.cellsOf 3) (List.drop 1 [c0, c1])) = xs[1]? := hf 1 _ rfl
    have z1 : ∃ y, xs[1]? = some y := ⟨_, List.getElem?_eq_getElem (by rw [hxl]; decide)⟩
    obtain ⟨z1, hz1⟩ := z1
    rw [hz1] at g1; rw [show Try.prog.cellsOf 3 = 1 from by kernel_rfl] at g1; simp only [List.drop_succ_cons, List.drop_zero, List.take_succ_cons, List.take_zero] at g1; clear hz1
    obtain ⟨x0, e0, _, w0⟩ := DataW.trod_int Try.underlying24 g0
    obtain rfl := (List.cons.inj e0).1
    obtain ⟨x0, rfl, b0⟩ := u32_of w0
    obtain ⟨x1, e1, _, w1⟩ := DataW.trod_int Try.underlying3 g1
    obtain rfl := (List.cons.inj e1).1
    exact ⟨⟨x0, x1⟩, rfl, ⟨b0, (i64b_of w1)⟩⟩

theorem open_Prefix_val {H : Type} {enc : TypeId × Value → H} {w : World} {base b0 : Nat} {spare : Nat → Bool} {held : Bool} {r : Reach} {v : Value} {d : DataW H} {p : List MemPlace}
    (hv : Value.okWide Try.prog w r b0 32 v) (h : DataW.Trod enc Try.prog w base spare held 32 v d p) : ∃ x : PrefixM, v = x.val ∧ x.wf := by
  obtain ⟨cs, rfl, _⟩ := okWide_struct Try.underlying32 hv
  obtain ⟨fuel, hf⟩ := h
  obtain ⟨x, e, w⟩ := open_Prefix hf
  refine ⟨x, ?_, w⟩
  have e' : cs.toList = x.cells := e
  obtain ⟨l⟩ := cs
  simp only at e'
  subst e'
  rfl

structure PortsM where
  low : Int
  high : Int
  deriving Inhabited

def PortsM.cells (x : PortsM) : List Value := [.int .i64 x.low, .int .i64 x.high]
def PortsM.val (x : PortsM) : Value := .agg #[.int .i64 x.low, .int .i64 x.high]
def PortsM.wf (x : PortsM) : Prop := i64b x.low ∧ i64b x.high
theorem PortsM.length (x : PortsM) : x.cells.length = 2 := rfl
theorem cellsOf_Ports : Try.prog.cellsOf 34 = 2 := by kernel_rfl

theorem open_Ports {H : Type} {enc : TypeId × Value → H} {w : World} {base : Nat} {spare : Nat → Bool} {held : Bool} {fuel : Nat} {cs : List Value} {y : DataW H × List MemPlace}
    (h : DataW.trod enc Try.prog w base spare held fuel 34 cs = some y) : ∃ x : PortsM, cs = x.cells ∧ x.wf := by
  obtain ⟨xs, n, _, _, hlen, hxl, hf⟩ := DataW.trod_struct Try.underlying34 h
  rw [cellsOf_Ports] at hlen
  clear h
  match cs, hlen with
  | [c0, c1], _ =>
    have g0 : DataW.trod enc Try.prog w base spare held n 3 (List.take (Try.prog.cellsOf 3) (List.drop 0 [c0, c1])) = xs[0]? := hf 0 _ rfl
    have z0 : ∃ y, xs[0]? = some y := ⟨_, List.getElem?_eq_getElem (by rw [hxl]; decide)⟩
    obtain ⟨z0, hz0⟩ := z0
    rw [hz0] at g0; rw [show Try.prog.cellsOf 3 = 1 from by kernel_rfl] at g0; simp only [List.drop_succ_cons, List.drop_zero, List.take_succ_cons, List.take_zero] at g0; clear hz0
    have g1 : DataW.trod enc Try.prog w base spare held n 3 (List.take (Try.prog.cellsOf 3) (List.drop 1 [c0, c1])) = xs[1]? := hf 1 _ rfl
    have z1 : ∃ y, xs[1]? = some y := ⟨_, List.getElem?_eq_getElem (by rw [hxl]; decide)⟩
    obtain ⟨z1, hz1⟩ := z1
    rw [hz1] at g1; rw [show Try.prog.cellsOf 3 = 1 from by kernel_rfl] at g1; simp only [List.drop_succ_cons, List.drop_zero, List.take_succ_cons, List.take_zero] at g1; clear hz1
    obtain ⟨x0, e0, _, w0⟩ := DataW.trod_int Try.underlying3 g0
    obtain rfl := (List.cons.inj e0).1
    obtain ⟨x1, e1, _, w1⟩ := DataW.trod_int Try.underlying3 g1
    obtain rfl := (List.cons.inj e1).1
    exact ⟨⟨x0, x1⟩, rfl, ⟨(i64b_of w0), (i64b_of w1)⟩⟩

theorem open_Ports_val {H : Type} {enc : TypeId × Value → H} {w : World} {base b0 : Nat} {spare : Nat → Bool} {held : Bool} {r : Reach} {v : Value} {d : DataW H} {p : List MemPlace}
    (hv : Value.okWide Try.prog w r b0 34 v) (h : DataW.Trod enc Try.prog w base spare held 34 v d p) : ∃ x : PortsM, v = x.val ∧ x.wf := by
  obtain ⟨cs, rfl, _⟩ := okWide_struct Try.underlying34 hv
  obtain ⟨fuel, hf⟩ := h
  obtain ⟨x, e, w⟩ := open_Ports hf
  refine ⟨x, ?_, w⟩
  have e' : cs.toList = x.cells := e
  obtain ⟨l⟩ := cs
  simp only at e'
  subst e'
  rfl

structure SideM where
  any : Bool
  table : ByteArray
  pfx : PrefixM
  ports : PortsM
  deriving Inhabited

def SideM.cells (x : SideM) : List Value := [.bool x.any, .string x.table, .int .u32 (x.pfx.addr : Nat), .int .i64 x.pfx.len, .int .i64 x.ports.low, .int .i64 x.ports.high]
def SideM.val (x : SideM) : Value := .agg #[.bool x.any, .string x.table, .int .u32 (x.pfx.addr : Nat), .int .i64 x.pfx.len, .int .i64 x.ports.low, .int .i64 x.ports.high]
def SideM.wf (x : SideM) : Prop := x.table.size ≤ maxLen ∧ x.pfx.wf ∧ x.ports.wf
theorem SideM.length (x : SideM) : x.cells.length = 6 := rfl
theorem cellsOf_Side : Try.prog.cellsOf 36 = 6 := by kernel_rfl

theorem open_Side {H : Type} {enc : TypeId × Value → H} {w : World} {base : Nat} {spare : Nat → Bool} {held : Bool} {fuel : Nat} {cs : List Value} {y : DataW H × List MemPlace}
    (h : DataW.trod enc Try.prog w base spare held fuel 36 cs = some y) : ∃ x : SideM, cs = x.cells ∧ x.wf := by
  obtain ⟨xs, n, _, _, hlen, hxl, hf⟩ := DataW.trod_struct Try.underlying36 h
  rw [cellsOf_Side] at hlen
  clear h
  match cs, hlen with
  | [c0, c1, c2, c3, c4, c5], _ =>
    have g0 : DataW.trod enc Try.prog w base spare held n 4 (List.take (Try.prog.cellsOf 4) (List.drop 0 [c0, c1, c2, c3, c4, c5])) = xs[0]? := hf 0 _ rfl
    have z0 : ∃ y, xs[0]? = some y := ⟨_, List.getElem?_eq_getElem (by rw [hxl]; decide)⟩
    obtain ⟨z0, hz0⟩ := z0
    rw [hz0] at g0; rw [show Try.prog.cellsOf 4 = 1 from by kernel_rfl] at g0; simp only [List.drop_succ_cons, List.drop_zero, List.take_succ_cons, List.take_zero] at g0; clear hz0
    have g1 : DataW.trod enc Try.prog w base spare held n 9 (List.take (Try.prog.cellsOf 9) (List.drop 1 [c0, c1, c2, c3, c4, c5])) = xs[1]? := hf 1 _ rfl
    have z1 : ∃ y, xs[1]? = some y := ⟨_, List.getElem?_eq_getElem (by rw [hxl]; decide)⟩
    obtain ⟨z1, hz1⟩ := z1
    rw [hz1] at g1; rw [show Try.prog.cellsOf 9 = 1 from by kernel_rfl] at g1; simp only [List.drop_succ_cons, List.drop_zero, List.take_succ_cons, List.take_zero] at g1; clear hz1
    have g2 : DataW.trod enc Try.prog w base spare held n 32 (List.take (Try.prog.cellsOf 32) (List.drop 2 [c0, c1, c2, c3, c4, c5])) = xs[2]? := hf 2 _ rfl
    have z2 : ∃ y, xs[2]? = some y := ⟨_, List.getElem?_eq_getElem (by rw [hxl]; decide)⟩
    obtain ⟨z2, hz2⟩ := z2
    rw [hz2] at g2; rw [show Try.prog.cellsOf 32 = 2 from by kernel_rfl] at g2; simp only [List.drop_succ_cons, List.drop_zero, List.take_succ_cons, List.take_zero] at g2; clear hz2
    have g3 : DataW.trod enc Try.prog w base spare held n 34 (List.take (Try.prog.cellsOf 34) (List.drop 4 [c0, c1, c2, c3, c4, c5])) = xs[3]? := hf 3 _ rfl
    have z3 : ∃ y, xs[3]? = some y := ⟨_, List.getElem?_eq_getElem (by rw [hxl]; decide)⟩
    obtain ⟨z3, hz3⟩ := z3
    rw [hz3] at g3; rw [show Try.prog.cellsOf 34 = 2 from by kernel_rfl] at g3; simp only [List.drop_succ_cons, List.drop_zero, List.take_succ_cons, List.take_zero] at g3; clear hz3
    obtain ⟨x0, e0, _⟩ := DataW.trod_bool Try.underlying4 g0
    obtain rfl := (List.cons.inj e0).1
    obtain ⟨x1, e1, _, w1⟩ := DataW.trod_string Try.underlying9 g1
    obtain rfl := (List.cons.inj e1).1
    obtain ⟨x2, e2, w2⟩ := open_Prefix g2
    simp only [PrefixM.cells, List.cons.injEq, and_true] at e2
    obtain ⟨rfl, rfl⟩ := e2
    obtain ⟨x3, e3, w3⟩ := open_Ports g3
    simp only [PortsM.cells, List.cons.injEq, and_true] at e3
    obtain ⟨rfl, rfl⟩ := e3
    exact ⟨⟨x0, x1, x2, x3⟩, rfl, ⟨w1, w2, w3⟩⟩

theorem open_Side_val {H : Type} {enc : TypeId × Value → H} {w : World} {base b0 : Nat} {spare : Nat → Bool} {held : Bool} {r : Reach} {v : Value} {d : DataW H} {p : List MemPlace}
    (hv : Value.okWide Try.prog w r b0 36 v) (h : DataW.Trod enc Try.prog w base spare held 36 v d p) : ∃ x : SideM, v = x.val ∧ x.wf := by
  obtain ⟨cs, rfl, _⟩ := okWide_struct Try.underlying36 hv
  obtain ⟨fuel, hf⟩ := h
  obtain ⟨x, e, w⟩ := open_Side hf
  refine ⟨x, ?_, w⟩
  have e' : cs.toList = x.cells := e
  obtain ⟨l⟩ := cs
  simp only at e'
  subst e'
  rfl

structure PinM where
  on : Bool
  iface : ByteArray
  gate : Nat
  deriving Inhabited

def PinM.cells (x : PinM) : List Value := [.bool x.on, .string x.iface, .int .u32 (x.gate : Nat)]
def PinM.val (x : PinM) : Value := .agg #[.bool x.on, .string x.iface, .int .u32 (x.gate : Nat)]
def PinM.wf (x : PinM) : Prop := x.iface.size ≤ maxLen ∧ x.gate < 4294967296
theorem PinM.length (x : PinM) : x.cells.length = 3 := rfl
theorem cellsOf_Pin : Try.prog.cellsOf 41 = 3 := by kernel_rfl

theorem open_Pin {H : Type} {enc : TypeId × Value → H} {w : World} {base : Nat} {spare : Nat → Bool} {held : Bool} {fuel : Nat} {cs : List Value} {y : DataW H × List MemPlace}
    (h : DataW.trod enc Try.prog w base spare held fuel 41 cs = some y) : ∃ x : PinM, cs = x.cells ∧ x.wf := by
  obtain ⟨xs, n, _, _, hlen, hxl, hf⟩ := DataW.trod_struct Try.underlying41 h
  rw [cellsOf_Pin] at hlen
  clear h
  match cs, hlen with
  | [c0, c1, c2], _ =>
    have g0 : DataW.trod enc Try.prog w base spare held n 4 (List.take (Try.prog.cellsOf 4) (List.drop 0 [c0, c1, c2])) = xs[0]? := hf 0 _ rfl
    have z0 : ∃ y, xs[0]? = some y := ⟨_, List.getElem?_eq_getElem (by rw [hxl]; decide)⟩
    obtain ⟨z0, hz0⟩ := z0
    rw [hz0] at g0; rw [show Try.prog.cellsOf 4 = 1 from by kernel_rfl] at g0; simp only [List.drop_succ_cons, List.drop_zero, List.take_succ_cons, List.take_zero] at g0; clear hz0
    have g1 : DataW.trod enc Try.prog w base spare held n 9 (List.take (Try.prog.cellsOf 9) (List.drop 1 [c0, c1, c2])) = xs[1]? := hf 1 _ rfl
    have z1 : ∃ y, xs[1]? = some y := ⟨_, List.getElem?_eq_getElem (by rw [hxl]; decide)⟩
    obtain ⟨z1, hz1⟩ := z1
    rw [hz1] at g1; rw [show Try.prog.cellsOf 9 = 1 from by kernel_rfl] at g1; simp only [List.drop_succ_cons, List.drop_zero, List.take_succ_cons, List.take_zero] at g1; clear hz1
    have g2 : DataW.trod enc Try.prog w base spare held n 24 (List.take (Try.prog.cellsOf 24) (List.drop 2 [c0, c1, c2])) = xs[2]? := hf 2 _ rfl
    have z2 : ∃ y, xs[2]? = some y := ⟨_, List.getElem?_eq_getElem (by rw [hxl]; decide)⟩
    obtain ⟨z2, hz2⟩ := z2
    rw [hz2] at g2; rw [show Try.prog.cellsOf 24 = 1 from by kernel_rfl] at g2; simp only [List.drop_succ_cons, List.drop_zero, List.take_succ_cons, List.take_zero] at g2; clear hz2
    obtain ⟨x0, e0, _⟩ := DataW.trod_bool Try.underlying4 g0
    obtain rfl := (List.cons.inj e0).1
    obtain ⟨x1, e1, _, w1⟩ := DataW.trod_string Try.underlying9 g1
    obtain rfl := (List.cons.inj e1).1
    obtain ⟨x2, e2, _, w2⟩ := DataW.trod_int Try.underlying24 g2
    obtain rfl := (List.cons.inj e2).1
    obtain ⟨x2, rfl, b2⟩ := u32_of w2
    exact ⟨⟨x0, x1, x2⟩, rfl, ⟨w1, b2⟩⟩

theorem open_Pin_val {H : Type} {enc : TypeId × Value → H} {w : World} {base b0 : Nat} {spare : Nat → Bool} {held : Bool} {r : Reach} {v : Value} {d : DataW H} {p : List MemPlace}
    (hv : Value.okWide Try.prog w r b0 41 v) (h : DataW.Trod enc Try.prog w base spare held 41 v d p) : ∃ x : PinM, v = x.val ∧ x.wf := by
  obtain ⟨cs, rfl, _⟩ := okWide_struct Try.underlying41 hv
  obtain ⟨fuel, hf⟩ := h
  obtain ⟨x, e, w⟩ := open_Pin hf
  refine ⟨x, ?_, w⟩
  have e' : cs.toList = x.cells := e
  obtain ⟨l⟩ := cs
  simp only at e'
  subst e'
  rfl

structure RuleM where
  pass : Bool
  ret : Bool
  quick : Bool
  on : ByteArray
  proto : Int
  frm : SideM
  to : SideM
  set : Int
  mask : Int
  kind : Int
  keep : Bool
  routeTo : PinM
  replyTo : PinM
  table : Int
  deriving Inhabited

def RuleM.cells (x : RuleM) : List Value := [.bool x.pass, .bool x.ret, .bool x.quick, .string x.on, .int .i64 x.proto, .bool x.frm.any, .string x.frm.table, .int .u32 (x.frm.pfx.addr : Nat), .int .i64 x.frm.pfx.len, .int .i64 x.frm.ports.low, .int .i64 x.frm.ports.high, .bool x.to.any, .string x.to.table, .int .u32 (x.to.pfx.addr : Nat), .int .i64 x.to.pfx.len, .int .i64 x.to.ports.low, .int .i64 x.to.ports.high, .int .i64 x.set, .int .i64 x.mask, .int .i64 x.kind, .bool x.keep, .bool x.routeTo.on, .string x.routeTo.iface, .int .u32 (x.routeTo.gate : Nat), .bool x.replyTo.on, .string x.replyTo.iface, .int .u32 (x.replyTo.gate : Nat), .int .i64 x.table]
def RuleM.val (x : RuleM) : Value := .agg #[.bool x.pass, .bool x.ret, .bool x.quick, .string x.on, .int .i64 x.proto, .bool x.frm.any, .string x.frm.table, .int .u32 (x.frm.pfx.addr : Nat), .int .i64 x.frm.pfx.len, .int .i64 x.frm.ports.low, .int .i64 x.frm.ports.high, .bool x.to.any, .string x.to.table, .int .u32 (x.to.pfx.addr : Nat), .int .i64 x.to.pfx.len, .int .i64 x.to.ports.low, .int .i64 x.to.ports.high, .int .i64 x.set, .int .i64 x.mask, .int .i64 x.kind, .bool x.keep, .bool x.routeTo.on, .string x.routeTo.iface, .int .u32 (x.routeTo.gate : Nat), .bool x.replyTo.on, .string x.replyTo.iface, .int .u32 (x.replyTo.gate : Nat), .int .i64 x.table]
def RuleM.wf (x : RuleM) : Prop := x.on.size ≤ maxLen ∧ i64b x.proto ∧ x.frm.wf ∧ x.to.wf ∧ i64b x.set ∧ i64b x.mask ∧ i64b x.kind ∧ x.routeTo.wf ∧ x.replyTo.wf ∧ i64b x.table
theorem RuleM.length (x : RuleM) : x.cells.length = 28 := rfl
theorem cellsOf_Rule : Try.prog.cellsOf 43 = 28 := by kernel_rfl

theorem open_Rule {H : Type} {enc : TypeId × Value → H} {w : World} {base : Nat} {spare : Nat → Bool} {held : Bool} {fuel : Nat} {cs : List Value} {y : DataW H × List MemPlace}
    (h : DataW.trod enc Try.prog w base spare held fuel 43 cs = some y) : ∃ x : RuleM, cs = x.cells ∧ x.wf := by
  obtain ⟨xs, n, _, _, hlen, hxl, hf⟩ := DataW.trod_struct Try.underlying43 h
  rw [cellsOf_Rule] at hlen
  clear h
  match cs, hlen with
  | [c0, c1, c2, c3, c4, c5, c6, c7, c8, c9, c10, c11, c12, c13, c14, c15, c16, c17, c18, c19, c20, c21, c22, c23, c24, c25, c26, c27], _ =>
    have g0 : DataW.trod enc Try.prog w base spare held n 4 (List.take (Try.prog.cellsOf 4) (List.drop 0 [c0, c1, c2, c3, c4, c5, c6, c7, c8, c9, c10, c11, c12, c13, c14, c15, c16, c17, c18, c19, c20, c21, c22, c23, c24, c25, c26, c27])) = xs[0]? := hf 0 _ rfl
    have z0 : ∃ y, xs[0]? = some y := ⟨_, List.getElem?_eq_getElem (by rw [hxl]; decide)⟩
    obtain ⟨z0, hz0⟩ := z0
    rw [hz0] at g0; rw [show Try.prog.cellsOf 4 = 1 from by kernel_rfl] at g0; simp only [List.drop_succ_cons, List.drop_zero, List.take_succ_cons, List.take_zero] at g0; clear hz0
    have g1 : DataW.trod enc Try.prog w base spare held n 4 (List.take (Try.prog.cellsOf 4) (List.drop 1 [c0, c1, c2, c3, c4, c5, c6, c7, c8, c9, c10, c11, c12, c13, c14, c15, c16, c17, c18, c19, c20, c21, c22, c23, c24, c25, c26, c27])) = xs[1]? := hf 1 _ rfl
    have z1 : ∃ y, xs[1]? = some y := ⟨_, List.getElem?_eq_getElem (by rw [hxl]; decide)⟩
    obtain ⟨z1, hz1⟩ := z1
    rw [hz1] at g1; rw [show Try.prog.cellsOf 4 = 1 from by kernel_rfl] at g1; simp only [List.drop_succ_cons, List.drop_zero, List.take_succ_cons, List.take_zero] at g1; clear hz1
    have g2 : DataW.trod enc Try.prog w base spare held n 4 (List.take (Try.prog.cellsOf 4) (List.drop 2 [c0, c1, c2, c3, c4, c5, c6, c7, c8, c9, c10, c11, c12, c13, c14, c15, c16, c17, c18, c19, c20, c21, c22, c23, c24, c25, c26, c27])) = xs[2]? := hf 2 _ rfl
    have z2 : ∃ y, xs[2]? = some y := ⟨_, List.getElem?_eq_getElem (by rw [hxl]; decide)⟩
    obtain ⟨z2, hz2⟩ := z2
    rw [hz2] at g2; rw [show Try.prog.cellsOf 4 = 1 from by kernel_rfl] at g2; simp only [List.drop_succ_cons, List.drop_zero, List.take_succ_cons, List.take_zero] at g2; clear hz2
    have g3 : DataW.trod enc Try.prog w base spare held n 9 (List.take (Try.prog.cellsOf 9) (List.drop 3 [c0, c1, c2, c3, c4, c5, c6, c7, c8, c9, c10, c11, c12, c13, c14, c15, c16, c17, c18, c19, c20, c21, c22, c23, c24, c25, c26, c27])) = xs[3]? := hf 3 _ rfl
    have z3 : ∃ y, xs[3]? = some y := ⟨_, List.getElem?_eq_getElem (by rw [hxl]; decide)⟩
    obtain ⟨z3, hz3⟩ := z3
    rw [hz3] at g3; rw [show Try.prog.cellsOf 9 = 1 from by kernel_rfl] at g3; simp only [List.drop_succ_cons, List.drop_zero, List.take_succ_cons, List.take_zero] at g3; clear hz3
    have g4 : DataW.trod enc Try.prog w base spare held n 3 (List.take (Try.prog.cellsOf 3) (List.drop 4 [c0, c1, c2, c3, c4, c5, c6, c7, c8, c9, c10, c11, c12, c13, c14, c15, c16, c17, c18, c19, c20, c21, c22, c23, c24, c25, c26, c27])) = xs[4]? := hf 4 _ rfl
    have z4 : ∃ y, xs[4]? = some y := ⟨_, List.getElem?_eq_getElem (by rw [hxl]; decide)⟩
    obtain ⟨z4, hz4⟩ := z4
    rw [hz4] at g4; rw [show Try.prog.cellsOf 3 = 1 from by kernel_rfl] at g4; simp only [List.drop_succ_cons, List.drop_zero, List.take_succ_cons, List.take_zero] at g4; clear hz4
    have g5 : DataW.trod enc Try.prog w base spare held n 36 (List.take (Try.prog.cellsOf 36) (List.drop 5 [c0, c1, c2, c3, c4, c5, c6, c7, c8, c9, c10, c11, c12, c13, c14, c15, c16, c17, c18, c19, c20, c21, c22, c23, c24, c25, c26, c27])) = xs[5]? := hf 5 _ rfl
    have z5 : ∃ y, xs[5]? = some y := ⟨_, List.getElem?_eq_getElem (by rw [hxl]; decide)⟩
    obtain ⟨z5, hz5⟩ := z5
    rw [hz5] at g5; rw [show Try.prog.cellsOf 36 = 6 from by kernel_rfl] at g5; simp only [List.drop_succ_cons, List.drop_zero, List.take_succ_cons, List.take_zero] at g5; clear hz5
    have g6 : DataW.trod enc Try.prog w base spare held n 36 (List.take (Try.prog.cellsOf 36) (List.drop 11 [c0, c1, c2, c3, c4, c5, c6, c7, c8, c9, c10, c11, c12, c13, c14, c15, c16, c17, c18, c19, c20, c21, c22, c23, c24, c25, c26, c27])) = xs[6]? := hf 6 _ rfl
    have z6 : ∃ y, xs[6]? = some y := ⟨_, List.getElem?_eq_getElem (by rw [hxl]; decide)⟩
    obtain ⟨z6, hz6⟩ := z6
    rw [hz6] at g6; rw [show Try.prog.cellsOf 36 = 6 from by kernel_rfl] at g6; simp only [List.drop_succ_cons, List.drop_zero, List.take_succ_cons, List.take_zero] at g6; clear hz6
    have g7 : DataW.trod enc Try.prog w base spare held n 3 (List.take (Try.prog.cellsOf 3) (List.drop 17 [c0, c1, c2, c3, c4, c5, c6, c7, c8, c9, c10, c11, c12, c13, c14, c15, c16, c17, c18, c19, c20, c21, c22, c23, c24, c25, c26, c27])) = xs[7]? := hf 7 _ rfl
    have z7 : ∃ y, xs[7]? = some y := ⟨_, List.getElem?_eq_getElem (by rw [hxl]; decide)⟩
    obtain ⟨z7, hz7⟩ := z7
    rw [hz7] at g7; rw [show Try.prog.cellsOf 3 = 1 from by kernel_rfl] at g7; simp only [List.drop_succ_cons, List.drop_zero, List.take_succ_cons, List.take_zero] at g7; clear hz7
    have g8 : DataW.trod enc Try.prog w base spare held n 3 (List.take (Try.prog.cellsOf 3) (List.drop 18 [c0, c1, c2, c3, c4, c5, c6, c7, c8, c9, c10, c11, c12, c13, c14, c15, c16, c17, c18, c19, c20, c21, c22, c23, c24, c25, c26, c27])) = xs[8]? := hf 8 _ rfl
    have z8 : ∃ y, xs[8]? = some y := ⟨_, List.getElem?_eq_getElem (by rw [hxl]; decide)⟩
    obtain ⟨z8, hz8⟩ := z8
    rw [hz8] at g8; rw [show Try.prog.cellsOf 3 = 1 from by kernel_rfl] at g8; simp only [List.drop_succ_cons, List.drop_zero, List.take_succ_cons, List.take_zero] at g8; clear hz8
    have g9 : DataW.trod enc Try.prog w base spare held n 3 (List.take (Try.prog.cellsOf 3) (List.drop 19 [c0, c1, c2, c3, c4, c5, c6, c7, c8, c9, c10, c11, c12, c13, c14, c15, c16, c17, c18, c19, c20, c21, c22, c23, c24, c25, c26, c27])) = xs[9]? := hf 9 _ rfl
    have z9 : ∃ y, xs[9]? = some y := ⟨_, List.getElem?_eq_getElem (by rw [hxl]; decide)⟩
    obtain ⟨z9, hz9⟩ := z9
    rw [hz9] at g9; rw [show Try.prog.cellsOf 3 = 1 from by kernel_rfl] at g9; simp only [List.drop_succ_cons, List.drop_zero, List.take_succ_cons, List.take_zero] at g9; clear hz9
    have g10 : DataW.trod enc Try.prog w base spare held n 4 (List.take (Try.prog.cellsOf 4) (List.drop 20 [c0, c1, c2, c3, c4, c5, c6, c7, c8, c9, c10, c11, c12, c13, c14, c15, c16, c17, c18, c19, c20, c21, c22, c23, c24, c25, c26, c27])) = xs[10]? := hf 10 _ rfl
    have z10 : ∃ y, xs[10]? = some y := ⟨_, List.getElem?_eq_getElem (by rw [hxl]; decide)⟩
    obtain ⟨z10, hz10⟩ := z10
    rw [hz10] at g10; rw [show Try.prog.cellsOf 4 = 1 from by kernel_rfl] at g10; simp only [List.drop_succ_cons, List.drop_zero, List.take_succ_cons, List.take_zero] at g10; clear hz10
    have g11 : DataW.trod enc Try.prog w base spare held n 41 (List.take (Try.prog.cellsOf 41) (List.drop 21 [c0, c1, c2, c3, c4, c5, c6, c7, c8, c9, c10, c11, c12, c13, c14, c15, c16, c17, c18, c19, c20, c21, c22, c23, c24, c25, c26, c27])) = xs[11]? := hf 11 _ rfl
    have z11 : ∃ y, xs[11]? = some y := ⟨_, List.getElem?_eq_getElem (by rw [hxl]; decide)⟩
    obtain ⟨z11, hz11⟩ := z11
    rw [hz11] at g11; rw [show Try.prog.cellsOf 41 = 3 from by kernel_rfl] at g11; simp only [List.drop_succ_cons, List.drop_zero, List.take_succ_cons, List.take_zero] at g11; clear hz11
    have g12 : DataW.trod enc Try.prog w base spare held n 41 (List.take (Try.prog.cellsOf 41) (List.drop 24 [c0, c1, c2, c3, c4, c5, c6, c7, c8, c9, c10, c11, c12, c13, c14, c15, c16, c17, c18, c19, c20, c21, c22, c23, c24, c25, c26, c27])) = xs[12]? := hf 12 _ rfl
    have z12 : ∃ y, xs[12]? = some y := ⟨_, List.getElem?_eq_getElem (by rw [hxl]; decide)⟩
    obtain ⟨z12, hz12⟩ := z12
    rw [hz12] at g12; rw [show Try.prog.cellsOf 41 = 3 from by kernel_rfl] at g12; simp only [List.drop_succ_cons, List.drop_zero, List.take_succ_cons, List.take_zero] at g12; clear hz12
    have g13 : DataW.trod enc Try.prog w base spare held n 3 (List.take (Try.prog.cellsOf 3) (List.drop 27 [c0, c1, c2, c3, c4, c5, c6, c7, c8, c9, c10, c11, c12, c13, c14, c15, c16, c17, c18, c19, c20, c21, c22, c23, c24, c25, c26, c27])) = xs[13]? := hf 13 _ rfl
    have z13 : ∃ y, xs[13]? = some y := ⟨_, List.getElem?_eq_getElem (by rw [hxl]; decide)⟩
    obtain ⟨z13, hz13⟩ := z13
    rw [hz13] at g13; rw [show Try.prog.cellsOf 3 = 1 from by kernel_rfl] at g13; simp only [List.drop_succ_cons, List.drop_zero, List.take_succ_cons, List.take_zero] at g13; clear hz13
    obtain ⟨x0, e0, _⟩ := DataW.trod_bool Try.underlying4 g0
    obtain rfl := (List.cons.inj e0).1
    obtain ⟨x1, e1, _⟩ := DataW.trod_bool Try.underlying4 g1
    obtain rfl := (List.cons.inj e1).1
    obtain ⟨x2, e2, _⟩ := DataW.trod_bool Try.underlying4 g2
    obtain rfl := (List.cons.inj e2).1
    obtain ⟨x3, e3, _, w3⟩ := DataW.trod_string Try.underlying9 g3
    obtain rfl := (List.cons.inj e3).1
    obtain ⟨x4, e4, _, w4⟩ := DataW.trod_int Try.underlying3 g4
    obtain rfl := (List.cons.inj e4).1
    obtain ⟨x5, e5, w5⟩ := open_Side g5
    simp only [SideM.cells, List.cons.injEq, and_true] at e5
    obtain ⟨rfl, rfl, rfl, rfl, rfl, rfl⟩ := e5
    obtain ⟨x6, e6, w6⟩ := open_Side g6
    simp only [SideM.cells, List.cons.injEq, and_true] at e6
    obtain ⟨rfl, rfl, rfl, rfl, rfl, rfl⟩ := e6
    obtain ⟨x7, e7, _, w7⟩ := DataW.trod_int Try.underlying3 g7
    obtain rfl := (List.cons.inj e7).1
    obtain ⟨x8, e8, _, w8⟩ := DataW.trod_int Try.underlying3 g8
    obtain rfl := (List.cons.inj e8).1
    obtain ⟨x9, e9, _, w9⟩ := DataW.trod_int Try.underlying3 g9
    obtain rfl := (List.cons.inj e9).1
    obtain ⟨x10, e10, _⟩ := DataW.trod_bool Try.underlying4 g10
    obtain rfl := (List.cons.inj e10).1
    obtain ⟨x11, e11, w11⟩ := open_Pin g11
    simp only [PinM.cells, List.cons.injEq, and_true] at e11
    obtain ⟨rfl, rfl, rfl⟩ := e11
    obtain ⟨x12, e12, w12⟩ := open_Pin g12
    simp only [PinM.cells, List.cons.injEq, and_true] at e12
    obtain ⟨rfl, rfl, rfl⟩ := e12
    obtain ⟨x13, e13, _, w13⟩ := DataW.trod_int Try.underlying3 g13
    obtain rfl := (List.cons.inj e13).1
    exact ⟨⟨x0, x1, x2, x3, x4, x5, x6, x7, x8, x9, x10, x11, x12, x13⟩, rfl, ⟨w3, (i64b_of w4), w5, w6, (i64b_of w7), (i64b_of w8), (i64b_of w9), w11, w12, (i64b_of w13)⟩⟩

theorem open_Rule_val {H : Type} {enc : TypeId × Value → H} {w : World} {base b0 : Nat} {spare : Nat → Bool} {held : Bool} {r : Reach} {v : Value} {d : DataW H} {p : List MemPlace}
    (hv : Value.okWide Try.prog w r b0 43 v) (h : DataW.Trod enc Try.prog w base spare held 43 v d p) : ∃ x : RuleM, v = x.val ∧ x.wf := by
  obtain ⟨cs, rfl, _⟩ := okWide_struct Try.underlying43 hv
  obtain ⟨fuel, hf⟩ := h
  obtain ⟨x, e, w⟩ := open_Rule hf
  refine ⟨x, ?_, w⟩
  have e' : cs.toList = x.cells := e
  obtain ⟨l⟩ := cs
  simp only at e'
  subst e'
  rfl

structure NamedM where
  name : ByteArray
  l : SlV
  deriving Inhabited

def NamedM.cells (x : NamedM) : List Value := [.string x.name, .slice x.l.a x.l.len x.l.cap]
def NamedM.val (x : NamedM) : Value := .agg #[.string x.name, .slice x.l.a x.l.len x.l.cap]
def NamedM.wf (x : NamedM) : Prop := x.name.size ≤ maxLen
theorem NamedM.length (x : NamedM) : x.cells.length = 2 := rfl
theorem cellsOf_Named : Try.prog.cellsOf 53 = 2 := by kernel_rfl

theorem open_Named {H : Type} {enc : TypeId × Value → H} {w : World} {base : Nat} {spare : Nat → Bool} {held : Bool} {fuel : Nat} {cs : List Value} {y : DataW H × List MemPlace}
    (h : DataW.trod enc Try.prog w base spare held fuel 53 cs = some y) : ∃ x : NamedM, cs = x.cells ∧ x.wf := by
  obtain ⟨xs, n, _, _, hlen, hxl, hf⟩ := DataW.trod_struct Try.underlying53 h
  rw [cellsOf_Named] at hlen
  clear h
  match cs, hlen with
  | [c0, c1], _ =>
    have g0 : DataW.trod enc Try.prog w base spare held n 9 (List.take (Try.prog.cellsOf 9) (List.drop 0 [c0, c1])) = xs[0]? := hf 0 _ rfl
    have z0 : ∃ y, xs[0]? = some y := ⟨_, List.getElem?_eq_getElem (by rw [hxl]; decide)⟩
    obtain ⟨z0, hz0⟩ := z0
    rw [hz0] at g0; rw [show Try.prog.cellsOf 9 = 1 from by kernel_rfl] at g0; simp only [List.drop_succ_cons, List.drop_zero, List.take_succ_cons, List.take_zero] at g0; clear hz0
    have g1 : DataW.trod enc Try.prog w base spare held n 51 (List.take (Try.prog.cellsOf 51) (List.drop 1 [c0, c1])) = xs[1]? := hf 1 _ rfl
    have z1 : ∃ y, xs[1]? = some y := ⟨_, List.getElem?_eq_getElem (by rw [hxl]; decide)⟩
    obtain ⟨z1, hz1⟩ := z1
    rw [hz1] at g1; rw [show Try.prog.cellsOf 51 = 1 from by kernel_rfl] at g1; simp only [List.drop_succ_cons, List.drop_zero, List.take_succ_cons, List.take_zero] at g1; clear hz1
    obtain ⟨x0, e0, _, w0⟩ := DataW.trod_string Try.underlying9 g0
    obtain rfl := (List.cons.inj e0).1
    obtain ⟨x1, e1⟩ := slice_shape Try.underlying51 g1
    obtain rfl := (List.cons.inj e1).1
    exact ⟨⟨x0, x1⟩, rfl, w0⟩

theorem open_Named_val {H : Type} {enc : TypeId × Value → H} {w : World} {base b0 : Nat} {spare : Nat → Bool} {held : Bool} {r : Reach} {v : Value} {d : DataW H} {p : List MemPlace}
    (hv : Value.okWide Try.prog w r b0 53 v) (h : DataW.Trod enc Try.prog w base spare held 53 v d p) : ∃ x : NamedM, v = x.val ∧ x.wf := by
  obtain ⟨cs, rfl, _⟩ := okWide_struct Try.underlying53 hv
  obtain ⟨fuel, hf⟩ := h
  obtain ⟨x, e, w⟩ := open_Named hf
  refine ⟨x, ?_, w⟩
  have e' : cs.toList = x.cells := e
  obtain ⟨l⟩ := cs
  simp only at e'
  subst e'
  rfl

structure IPM where
  tos : Int
  id : Int
  df : Bool
  mf : Bool
  off : Int
  ttl : Int
  proto : Int
  src : Nat
  dst : Nat
  options : SlV
  data : SlV
  deriving Inhabited

def IPM.cells (x : IPM) : List Value := [.int .i64 x.tos, .int .i64 x.id, .bool x.df, .bool x.mf, .int .i64 x.off, .int .i64 x.ttl, .int .i64 x.proto, .int .u32 (x.src : Nat), .int .u32 (x.dst : Nat), .slice x.options.a x.options.len x.options.cap, .slice x.data.a x.data.len x.data.cap]
def IPM.val (x : IPM) : Value := .agg #[.int .i64 x.tos, .int .i64 x.id, .bool x.df, .bool x.mf, .int .i64 x.off, .int .i64 x.ttl, .int .i64 x.proto, .int .u32 (x.src : Nat), .int .u32 (x.dst : Nat), .slice x.options.a x.options.len x.options.cap, .slice x.data.a x.data.len x.data.cap]
def IPM.wf (x : IPM) : Prop := i64b x.tos ∧ i64b x.id ∧ i64b x.off ∧ i64b x.ttl ∧ i64b x.proto ∧ x.src < 4294967296 ∧ x.dst < 4294967296
theorem IPM.length (x : IPM) : x.cells.length = 11 := rfl
theorem cellsOf_IP : Try.prog.cellsOf 27 = 11 := by kernel_rfl

theorem open_IP {H : Type} {enc : TypeId × Value → H} {w : World} {base : Nat} {spare : Nat → Bool} {held : Bool} {fuel : Nat} {cs : List Value} {y : DataW H × List MemPlace}
    (h : DataW.trod enc Try.prog w base spare held fuel 27 cs = some y) : ∃ x : IPM, cs = x.cells ∧ x.wf := by
  obtain ⟨xs, n, _, _, hlen, hxl, hf⟩ := DataW.trod_struct Try.underlying27 h
  rw [cellsOf_IP] at hlen
  clear h
  match cs, hlen with
  | [c0, c1, c2, c3, c4, c5, c6, c7, c8, c9, c10], _ =>
    have g0 : DataW.trod enc Try.prog w base spare held n 3 (List.take (Try.prog.cellsOf 3) (List.drop 0 [c0, c1, c2, c3, c4, c5, c6, c7, c8, c9, c10])) = xs[0]? := hf 0 _ rfl
    have z0 : ∃ y, xs[0]? = some y := ⟨_, List.getElem?_eq_getElem (by rw [hxl]; decide)⟩
    obtain ⟨z0, hz0⟩ := z0
    rw [hz0] at g0; rw [show Try.prog.cellsOf 3 = 1 from by kernel_rfl] at g0; simp only [List.drop_succ_cons, List.drop_zero, List.take_succ_cons, List.take_zero] at g0; clear hz0
    have g1 : DataW.trod enc Try.prog w base spare held n 3 (List.take (Try.prog.cellsOf 3) (List.drop 1 [c0, c1, c2, c3, c4, c5, c6, c7, c8, c9, c10])) = xs[1]? := hf 1 _ rfl
    have z1 : ∃ y, xs[1]? = some y := ⟨_, List.getElem?_eq_getElem (by rw [hxl]; decide)⟩
    obtain ⟨z1, hz1⟩ := z1
    rw [hz1] at g1; rw [show Try.prog.cellsOf 3 = 1 from by kernel_rfl] at g1; simp only [List.drop_succ_cons, List.drop_zero, List.take_succ_cons, List.take_zero] at g1; clear hz1
    have g2 : DataW.trod enc Try.prog w base spare held n 4 (List.take (Try.prog.cellsOf 4) (List.drop 2 [c0, c1, c2, c3, c4, c5, c6, c7, c8, c9, c10])) = xs[2]? := hf 2 _ rfl
    have z2 : ∃ y, xs[2]? = some y := ⟨_, List.getElem?_eq_getElem (by rw [hxl]; decide)⟩
    obtain ⟨z2, hz2⟩ := z2
    rw [hz2] at g2; rw [show Try.prog.cellsOf 4 = 1 from by kernel_rfl] at g2; simp only [List.drop_succ_cons, List.drop_zero, List.take_succ_cons, List.take_zero] at g2; clear hz2
    have g3 : DataW.trod enc Try.prog w base spare held n 4 (List.take (Try.prog.cellsOf 4) (List.drop 3 [c0, c1, c2, c3, c4, c5, c6, c7, c8, c9, c10])) = xs[3]? := hf 3 _ rfl
    have z3 : ∃ y, xs[3]? = some y := ⟨_, List.getElem?_eq_getElem (by rw [hxl]; decide)⟩
    obtain ⟨z3, hz3⟩ := z3
    rw [hz3] at g3; rw [show Try.prog.cellsOf 4 = 1 from by kernel_rfl] at g3; simp only [List.drop_succ_cons, List.drop_zero, List.take_succ_cons, List.take_zero] at g3; clear hz3
    have g4 : DataW.trod enc Try.prog w base spare held n 3 (List.take (Try.prog.cellsOf 3) (List.drop 4 [c0, c1, c2, c3, c4, c5, c6, c7, c8, c9, c10])) = xs[4]? := hf 4 _ rfl
    have z4 : ∃ y, xs[4]? = some y := ⟨_, List.getElem?_eq_getElem (by rw [hxl]; decide)⟩
    obtain ⟨z4, hz4⟩ := z4
    rw [hz4] at g4; rw [show Try.prog.cellsOf 3 = 1 from by kernel_rfl] at g4; simp only [List.drop_succ_cons, List.drop_zero, List.take_succ_cons, List.take_zero] at g4; clear hz4
    have g5 : DataW.trod enc Try.prog w base spare held n 3 (List.take (Try.prog.cellsOf 3) (List.drop 5 [c0, c1, c2, c3, c4, c5, c6, c7, c8, c9, c10])) = xs[5]? := hf 5 _ rfl
    have z5 : ∃ y, xs[5]? = some y := ⟨_, List.getElem?_eq_getElem (by rw [hxl]; decide)⟩
    obtain ⟨z5, hz5⟩ := z5
    rw [hz5] at g5; rw [show Try.prog.cellsOf 3 = 1 from by kernel_rfl] at g5; simp only [List.drop_succ_cons, List.drop_zero, List.take_succ_cons, List.take_zero] at g5; clear hz5
    have g6 : DataW.trod enc Try.prog w base spare held n 3 (List.take (Try.prog.cellsOf 3) (List.drop 6 [c0, c1, c2, c3, c4, c5, c6, c7, c8, c9, c10])) = xs[6]? := hf 6 _ rfl
    have z6 : ∃ y, xs[6]? = some y := ⟨_, List.getElem?_eq_getElem (by rw [hxl]; decide)⟩
    obtain ⟨z6, hz6⟩ := z6
    rw [hz6] at g6; rw [show Try.prog.cellsOf 3 = 1 from by kernel_rfl] at g6; simp only [List.drop_succ_cons, List.drop_zero, List.take_succ_cons, List.take_zero] at g6; clear hz6
    have g7 : DataW.trod enc Try.prog w base spare held n 24 (List.take (Try.prog.cellsOf 24) (List.drop 7 [c0, c1, c2, c3, c4, c5, c6, c7, c8, c9, c10])) = xs[7]? := hf 7 _ rfl
    have z7 : ∃ y, xs[7]? = some y := ⟨_, List.getElem?_eq_getElem (by rw [hxl]; decide)⟩
    obtain ⟨z7, hz7⟩ := z7
    rw [hz7] at g7; rw [show Try.prog.cellsOf 24 = 1 from by kernel_rfl] at g7; simp only [List.drop_succ_cons, List.drop_zero, List.take_succ_cons, List.take_zero] at g7; clear hz7
    have g8 : DataW.trod enc Try.prog w base spare held n 24 (List.take (Try.prog.cellsOf 24) (List.drop 8 [c0, c1, c2, c3, c4, c5, c6, c7, c8, c9, c10])) = xs[8]? := hf 8 _ rfl
    have z8 : ∃ y, xs[8]? = some y := ⟨_, List.getElem?_eq_getElem (by rw [hxl]; decide)⟩
    obtain ⟨z8, hz8⟩ := z8
    rw [hz8] at g8; rw [show Try.prog.cellsOf 24 = 1 from by kernel_rfl] at g8; simp only [List.drop_succ_cons, List.drop_zero, List.take_succ_cons, List.take_zero] at g8; clear hz8
    have g9 : DataW.trod enc Try.prog w base spare held n 25 (List.take (Try.prog.cellsOf 25) (List.drop 9 [c0, c1, c2, c3, c4, c5, c6, c7, c8, c9, c10])) = xs[9]? := hf 9 _ rfl
    have z9 : ∃ y, xs[9]? = some y := ⟨_, List.getElem?_eq_getElem (by rw [hxl]; decide)⟩
    obtain ⟨z9, hz9⟩ := z9
    rw [hz9] at g9; rw [show Try.prog.cellsOf 25 = 1 from by kernel_rfl] at g9; simp only [List.drop_succ_cons, List.drop_zero, List.take_succ_cons, List.take_zero] at g9; clear hz9
    have g10 : DataW.trod enc Try.prog w base spare held n 25 (List.take (Try.prog.cellsOf 25) (List.drop 10 [c0, c1, c2, c3, c4, c5, c6, c7, c8, c9, c10])) = xs[10]? := hf 10 _ rfl
    have z10 : ∃ y, xs[10]? = some y := ⟨_, List.getElem?_eq_getElem (by rw [hxl]; decide)⟩
    obtain ⟨z10, hz10⟩ := z10
    rw [hz10] at g10; rw [show Try.prog.cellsOf 25 = 1 from by kernel_rfl] at g10; simp only [List.drop_succ_cons, List.drop_zero, List.take_succ_cons, List.take_zero] at g10; clear hz10
    obtain ⟨x0, e0, _, w0⟩ := DataW.trod_int Try.underlying3 g0
    obtain rfl := (List.cons.inj e0).1
    obtain ⟨x1, e1, _, w1⟩ := DataW.trod_int Try.underlying3 g1
    obtain rfl := (List.cons.inj e1).1
    obtain ⟨x2, e2, _⟩ := DataW.trod_bool Try.underlying4 g2
    obtain rfl := (List.cons.inj e2).1
    obtain ⟨x3, e3, _⟩ := DataW.trod_bool Try.underlying4 g3
    obtain rfl := (List.cons.inj e3).1
    obtain ⟨x4, e4, _, w4⟩ := DataW.trod_int Try.underlying3 g4
    obtain rfl := (List.cons.inj e4).1
    obtain ⟨x5, e5, _, w5⟩ := DataW.trod_int Try.underlying3 g5
    obtain rfl := (List.cons.inj e5).1
    obtain ⟨x6, e6, _, w6⟩ := DataW.trod_int Try.underlying3 g6
    obtain rfl := (List.cons.inj e6).1
    obtain ⟨x7, e7, _, w7⟩ := DataW.trod_int Try.underlying24 g7
    obtain rfl := (List.cons.inj e7).1
    obtain ⟨x7, rfl, b7⟩ := u32_of w7
    obtain ⟨x8, e8, _, w8⟩ := DataW.trod_int Try.underlying24 g8
    obtain rfl := (List.cons.inj e8).1
    obtain ⟨x8, rfl, b8⟩ := u32_of w8
    obtain ⟨x9, e9⟩ := slice_shape Try.underlying25 g9
    obtain rfl := (List.cons.inj e9).1
    obtain ⟨x10, e10⟩ := slice_shape Try.underlying25 g10
    obtain rfl := (List.cons.inj e10).1
    exact ⟨⟨x0, x1, x2, x3, x4, x5, x6, x7, x8, x9, x10⟩, rfl, ⟨(i64b_of w0), (i64b_of w1), (i64b_of w4), (i64b_of w5), (i64b_of w6), b7, b8⟩⟩

theorem open_IP_val {H : Type} {enc : TypeId × Value → H} {w : World} {base b0 : Nat} {spare : Nat → Bool} {held : Bool} {r : Reach} {v : Value} {d : DataW H} {p : List MemPlace}
    (hv : Value.okWide Try.prog w r b0 27 v) (h : DataW.Trod enc Try.prog w base spare held 27 v d p) : ∃ x : IPM, v = x.val ∧ x.wf := by
  obtain ⟨cs, rfl, _⟩ := okWide_struct Try.underlying27 hv
  obtain ⟨fuel, hf⟩ := h
  obtain ⟨x, e, w⟩ := open_IP hf
  refine ⟨x, ?_, w⟩
  have e' : cs.toList = x.cells := e
  obtain ⟨l⟩ := cs
  simp only at e'
  subst e'
  rfl

structure PacketM where
  ip : IPM
  cls : Int
  src : Int
  dst : Int
  flags : Int
  kind : Int
  code : Int
  inner : Option Addr
  deriving Inhabited

def PacketM.cells (x : PacketM) : List Value := [.int .i64 x.ip.tos, .int .i64 x.ip.id, .bool x.ip.df, .bool x.ip.mf, .int .i64 x.ip.off, .int .i64 x.ip.ttl, .int .i64 x.ip.proto, .int .u32 (x.ip.src : Nat), .int .u32 (x.ip.dst : Nat), .slice x.ip.options.a x.ip.options.len x.ip.options.cap, .slice x.ip.data.a x.ip.data.len x.ip.data.cap, .int .i64 x.cls, .int .i64 x.src, .int .i64 x.dst, .int .i64 x.flags, .int .i64 x.kind, .int .i64 x.code, .pointer x.inner]
def PacketM.val (x : PacketM) : Value := .agg #[.int .i64 x.ip.tos, .int .i64 x.ip.id, .bool x.ip.df, .bool x.ip.mf, .int .i64 x.ip.off, .int .i64 x.ip.ttl, .int .i64 x.ip.proto, .int .u32 (x.ip.src : Nat), .int .u32 (x.ip.dst : Nat), .slice x.ip.options.a x.ip.options.len x.ip.options.cap, .slice x.ip.data.a x.ip.data.len x.ip.data.cap, .int .i64 x.cls, .int .i64 x.src, .int .i64 x.dst, .int .i64 x.flags, .int .i64 x.kind, .int .i64 x.code, .pointer x.inner]
def PacketM.wf (x : PacketM) : Prop := x.ip.wf ∧ i64b x.cls ∧ i64b x.src ∧ i64b x.dst ∧ i64b x.flags ∧ i64b x.kind ∧ i64b x.code
theorem PacketM.length (x : PacketM) : x.cells.length = 18 := rfl
theorem cellsOf_Packet : Try.prog.cellsOf 30 = 18 := by kernel_rfl

theorem open_Packet {H : Type} {enc : TypeId × Value → H} {w : World} {base : Nat} {spare : Nat → Bool} {held : Bool} {fuel : Nat} {cs : List Value} {y : DataW H × List MemPlace}
    (h : DataW.trod enc Try.prog w base spare held fuel 30 cs = some y) : ∃ x : PacketM, cs = x.cells ∧ x.wf := by
  obtain ⟨xs, n, _, _, hlen, hxl, hf⟩ := DataW.trod_struct Try.underlying30 h
  rw [cellsOf_Packet] at hlen
  clear h
  match cs, hlen with
  | [c0, c1, c2, c3, c4, c5, c6, c7, c8, c9, c10, c11, c12, c13, c14, c15, c16, c17], _ =>
    have g0 : DataW.trod enc Try.prog w base spare held n 27 (List.take (Try.prog.cellsOf 27) (List.drop 0 [c0, c1, c2, c3, c4, c5, c6, c7, c8, c9, c10, c11, c12, c13, c14, c15, c16, c17])) = xs[0]? := hf 0 _ rfl
    have z0 : ∃ y, xs[0]? = some y := ⟨_, List.getElem?_eq_getElem (by rw [hxl]; decide)⟩
    obtain ⟨z0, hz0⟩ := z0
    rw [hz0] at g0; rw [show Try.prog.cellsOf 27 = 11 from by kernel_rfl] at g0; simp only [List.drop_succ_cons, List.drop_zero, List.take_succ_cons, List.take_zero] at g0; clear hz0
    have g1 : DataW.trod enc Try.prog w base spare held n 3 (List.take (Try.prog.cellsOf 3) (List.drop 11 [c0, c1, c2, c3, c4, c5, c6, c7, c8, c9, c10, c11, c12, c13, c14, c15, c16, c17])) = xs[1]? := hf 1 _ rfl
    have z1 : ∃ y, xs[1]? = some y := ⟨_, List.getElem?_eq_getElem (by rw [hxl]; decide)⟩
    obtain ⟨z1, hz1⟩ := z1
    rw [hz1] at g1; rw [show Try.prog.cellsOf 3 = 1 from by kernel_rfl] at g1; simp only [List.drop_succ_cons, List.drop_zero, List.take_succ_cons, List.take_zero] at g1; clear hz1
    have g2 : DataW.trod enc Try.prog w base spare held n 3 (List.take (Try.prog.cellsOf 3) (List.drop 12 [c0, c1, c2, c3, c4, c5, c6, c7, c8, c9, c10, c11, c12, c13, c14, c15, c16, c17])) = xs[2]? := hf 2 _ rfl
    have z2 : ∃ y, xs[2]? = some y := ⟨_, List.getElem?_eq_getElem (by rw [hxl]; decide)⟩
    obtain ⟨z2, hz2⟩ := z2
    rw [hz2] at g2; rw [show Try.prog.cellsOf 3 = 1 from by kernel_rfl] at g2; simp only [List.drop_succ_cons, List.drop_zero, List.take_succ_cons, List.take_zero] at g2; clear hz2
    have g3 : DataW.trod enc Try.prog w base spare held n 3 (List.take (Try.prog.cellsOf 3) (List.drop 13 [c0, c1, c2, c3, c4, c5, c6, c7, c8, c9, c10, c11, c12, c13, c14, c15, c16, c17])) = xs[3]? := hf 3 _ rfl
    have z3 : ∃ y, xs[3]? = some y := ⟨_, List.getElem?_eq_getElem (by rw [hxl]; decide)⟩
    obtain ⟨z3, hz3⟩ := z3
    rw [hz3] at g3; rw [show Try.prog.cellsOf 3 = 1 from by kernel_rfl] at g3; simp only [List.drop_succ_cons, List.drop_zero, List.take_succ_cons, List.take_zero] at g3; clear hz3
    have g4 : DataW.trod enc Try.prog w base spare held n 3 (List.take (Try.prog.cellsOf 3) (List.drop 14 [c0, c1, c2, c3, c4, c5, c6, c7, c8, c9, c10, c11, c12, c13, c14, c15, c16, c17])) = xs[4]? := hf 4 _ rfl
    have z4 : ∃ y, xs[4]? = some y := ⟨_, List.getElem?_eq_getElem (by rw [hxl]; decide)⟩
    obtain ⟨z4, hz4⟩ := z4
    rw [hz4] at g4; rw [show Try.prog.cellsOf 3 = 1 from by kernel_rfl] at g4; simp only [List.drop_succ_cons, List.drop_zero, List.take_succ_cons, List.take_zero] at g4; clear hz4
    have g5 : DataW.trod enc Try.prog w base spare held n 3 (List.take (Try.prog.cellsOf 3) (List.drop 15 [c0, c1, c2, c3, c4, c5, c6, c7, c8, c9, c10, c11, c12, c13, c14, c15, c16, c17])) = xs[5]? := hf 5 _ rfl
    have z5 : ∃ y, xs[5]? = some y := ⟨_, List.getElem?_eq_getElem (by rw [hxl]; decide)⟩
    obtain ⟨z5, hz5⟩ := z5
    rw [hz5] at g5; rw [show Try.prog.cellsOf 3 = 1 from by kernel_rfl] at g5; simp only [List.drop_succ_cons, List.drop_zero, List.take_succ_cons, List.take_zero] at g5; clear hz5
    have g6 : DataW.trod enc Try.prog w base spare held n 3 (List.take (Try.prog.cellsOf 3) (List.drop 16 [c0, c1, c2, c3, c4, c5, c6, c7, c8, c9, c10, c11, c12, c13, c14, c15, c16, c17])) = xs[6]? := hf 6 _ rfl
    have z6 : ∃ y, xs[6]? = some y := ⟨_, List.getElem?_eq_getElem (by rw [hxl]; decide)⟩
    obtain ⟨z6, hz6⟩ := z6
    rw [hz6] at g6; rw [show Try.prog.cellsOf 3 = 1 from by kernel_rfl] at g6; simp only [List.drop_succ_cons, List.drop_zero, List.take_succ_cons, List.take_zero] at g6; clear hz6
    have g7 : DataW.trod enc Try.prog w base spare held n 28 (List.take (Try.prog.cellsOf 28) (List.drop 17 [c0, c1, c2, c3, c4, c5, c6, c7, c8, c9, c10, c11, c12, c13, c14, c15, c16, c17])) = xs[7]? := hf 7 _ rfl
    have z7 : ∃ y, xs[7]? = some y := ⟨_, List.getElem?_eq_getElem (by rw [hxl]; decide)⟩
    obtain ⟨z7, hz7⟩ := z7
    rw [hz7] at g7; rw [show Try.prog.cellsOf 28 = 1 from by kernel_rfl] at g7; simp only [List.drop_succ_cons, List.drop_zero, List.take_succ_cons, List.take_zero] at g7; clear hz7
    obtain ⟨x0, e0, w0⟩ := open_IP g0
    simp only [IPM.cells, List.cons.injEq, and_true] at e0
    obtain ⟨rfl, rfl, rfl, rfl, rfl, rfl, rfl, rfl, rfl, rfl, rfl⟩ := e0
    obtain ⟨x1, e1, _, w1⟩ := DataW.trod_int Try.underlying3 g1
    obtain rfl := (List.cons.inj e1).1
    obtain ⟨x2, e2, _, w2⟩ := DataW.trod_int Try.underlying3 g2
    obtain rfl := (List.cons.inj e2).1
    obtain ⟨x3, e3, _, w3⟩ := DataW.trod_int Try.underlying3 g3
    obtain rfl := (List.cons.inj e3).1
    obtain ⟨x4, e4, _, w4⟩ := DataW.trod_int Try.underlying3 g4
    obtain rfl := (List.cons.inj e4).1
    obtain ⟨x5, e5, _, w5⟩ := DataW.trod_int Try.underlying3 g5
    obtain rfl := (List.cons.inj e5).1
    obtain ⟨x6, e6, _, w6⟩ := DataW.trod_int Try.underlying3 g6
    obtain rfl := (List.cons.inj e6).1
    obtain ⟨x7, e7⟩ := ptr_shape Try.underlying28 g7
    obtain rfl := (List.cons.inj e7).1
    exact ⟨⟨x0, x1, x2, x3, x4, x5, x6, x7⟩, rfl, ⟨w0, (i64b_of w1), (i64b_of w2), (i64b_of w3), (i64b_of w4), (i64b_of w5), (i64b_of w6)⟩⟩

theorem open_Packet_val {H : Type} {enc : TypeId × Value → H} {w : World} {base b0 : Nat} {spare : Nat → Bool} {held : Bool} {r : Reach} {v : Value} {d : DataW H} {p : List MemPlace}
    (hv : Value.okWide Try.prog w r b0 30 v) (h : DataW.Trod enc Try.prog w base spare held 30 v d p) : ∃ x : PacketM, v = x.val ∧ x.wf := by
  obtain ⟨cs, rfl, _⟩ := okWide_struct Try.underlying30 hv
  obtain ⟨fuel, hf⟩ := h
  obtain ⟨x, e, w⟩ := open_Packet hf
  refine ⟨x, ?_, w⟩
  have e' : cs.toList = x.cells := e
  obtain ⟨l⟩ := cs
  simp only at e'
  subst e'
  rfl

end Go.Proofs.Ytgdbafgkledpbaa

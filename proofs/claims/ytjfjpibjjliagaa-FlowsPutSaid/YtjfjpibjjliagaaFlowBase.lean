/- Chapter 17: flows and keys as wholes, the two tables, and the small functions. -/
import Derived.Test.YtjfjpibjjliagaaMirrorF
import Derived.Test.YtjfjpibjjliagaaKMap
import Derived.Test.YtjfjpibjjliagaaAny
namespace Go.Proofs.Ytjfjpibjjliagaa
open Go.RowKit Go.BigFrame
set_option linter.unusedSimpArgs false
set_option linter.unusedVariables false

theorem FlowM.one (x : FlowM) : x.cells.all (·.oneCell') = true := rfl
theorem FlowM.onea (x : FlowM) : x.cells.toArray.all (·.oneCell') = true := by simpa using x.one
theorem FlowM.mem (x : FlowM) : ∀ u ∈ x.cells, u.oneCell' = true := fun u hu => List.all_eq_true.1 x.one u hu
theorem KeyM.one (x : KeyM) : x.cells.all (·.oneCell') = true := rfl
def zeroK : KeyM := ⟨0, 0, 0, 0, 0⟩
def zeroF : FlowM := ⟨zeroK, 0, 0, ⟨false, ⟨#[]⟩, 0⟩, ⟨false, ⟨#[]⟩, 0⟩, 0⟩
theorem flow_info : (Try.prog.info? 29).map (fun i => (i.zero, i.size, i.bytes)) = some (some (.agg zeroF.cells.toArray), 14, 120) := by kernel_rfl
theorem key_of_flow {w : World} {b o : Nat} {f : FlowM} (h : CellsAt w b o f.cells) : CellsAt w b o f.key.cells := fun j v hj => h j v (by
  have hl : j < 5 := by rw [← KeyM.length f.key]; exact (List.getElem?_eq_some_iff.1 hj).1
  have e : f.cells = f.key.cells ++ f.cells.drop 5 := rfl
  rw [e, List.getElem?_append_left (by rw [KeyM.length]; exact hl)]
  exact hj)
theorem key_equal (a b : KeyM) (w : World) : (Op.equal 25 (.agg a.cells.toArray) (.agg b.cells.toArray)).run Try.prog w = .ok (decide (a = b)) w := by
  obtain ⟨a1, a2, a3, a4, a5⟩ := a
  obtain ⟨b1, b2, b3, b4, b5⟩ := b
  simp only [KeyM.cells, Op.equal, Op.maxDepth]
  go_simp
  by_cases h1 : a1 = b1
  · by_cases h2 : a2 = b2
    · by_cases h3 : a3 = b3
      · by_cases h4 : a4 = b4
        · by_cases h5 : a5 = b5
          · simp [h1, h2, h3, h4, h5]
          · simp [h1, h2, h3, h4, h5]
        · simp [h1, h2, h3, h4]
      · have : ¬ (a3 : Int) = (b3 : Int) := by omega
        simp [h1, h2, h3, this]
    · have : ¬ (a2 : Int) = (b2 : Int) := by omega
      simp [h1, h2, this]
  · simp [h1]
theorem bytes_eq (a b : ByteArray) : (a.toList == b.toList) = decide (a = b) := by
  by_cases h : a = b
  · subst h; simp
  · have : ¬ a.toList = b.toList := fun e => h (by
      rw [ByteArray.toList_eq, ByteArray.toList_eq] at e
      obtain ⟨⟨x⟩⟩ := a
      obtain ⟨⟨y⟩⟩ := b
      simp at e
      simp [e])
    simp [h, this]
theorem check_int {P : Program} {t : TypeId} {kd : IntKind} (ht : P.underlying t = some (.int kd)) (em : Bool) (n : Nat) (v : Value) (w : World) : (Instr.checkKey em (n + 1) t v).run P w = .ok () w := by
  unfold Instr.checkKey
  rw [Sem.run_bind, run_underlying ht]
  rfl
theorem key_check (k : KeyM) (em : Bool) (w : World) : (Instr.checkKey em 10000 25 (.agg k.cells.toArray)).run Try.prog w = .ok () w := by
  simp only [KeyM.cells]
  unfold Instr.checkKey
  have c1 := check_int (P := Try.prog) Try.underlying3 em 9998
  have c2 := check_int (P := Try.prog) Try.underlying23 em 9998
  go_simp
theorem key_fit : KeyFit Try.prog 25 KeyM.cells := ⟨⟨_, Try.underlying25⟩, key_equal, key_check, fun a => by simp [KeyM.cells, Instr.sameBits]⟩
theorem flow_equal (a b : FlowM) (w : World) : (Op.equal 29 (.agg a.cells.toArray) (.agg b.cells.toArray)).run Try.prog w = .ok (decide (a = b)) w := by
  obtain ⟨⟨a1, a2, a3, a4, a5⟩, a6, a7, ⟨a8, a9, a10⟩, ⟨a11, a12, a13⟩, a14⟩ := a
  obtain ⟨⟨b1, b2, b3, b4, b5⟩, b6, b7, ⟨b8, b9, b10⟩, ⟨b11, b12, b13⟩, b14⟩ := b
  simp only [FlowM.cells, Op.equal, Op.maxDepth]
  go_simp
  have hb : ∀ x y : ByteArray, (x.toList = y.toList) = (x = y) := fun x y => by
    have := bytes_eq x y
    rw [Bool.eq_iff_iff] at this
    simpa using this
  have hn : ∀ x y : Nat, ((x : Int) = (y : Int)) = (x = y) := fun x y => by simp [Int.ofNat_inj]
  have hi : ∀ (p : Prop) [Decidable p] (b : Bool), (if p then Result.ok b w else Result.ok false w) = Result.ok (decide p && b) w := fun p _ b => by
    by_cases h : p <;> simp [h]
  simp only [hb, hn, hi, Bool.and_true, Bool.and_assoc]

/-! ### What the functions compute -/
def turnK (k : KeyM) : KeyM := ⟨k.proto, k.dst, k.src, k.b, k.a⟩
/-- Where a key's flow stands. -/
def fidx (fl : List FlowM) (k : KeyM) : Option Int := (fl.findIdx? (fun f => decide (f.key = k))).map (fun i => (i : Int))
structure FoundF where
  f : FlowM
  back : Bool
  ok : Bool
def findF (fl : List FlowM) (k : KeyM) : FoundF :=
  match fl.findIdx? (fun f => decide (f.key = k)) with
  | some i => ⟨fl.getD i zeroF, false, true⟩
  | none =>
    match fl.findIdx? (fun f => decide (f.key = turnK k)) with
    | some i => ⟨fl.getD i zeroF, true, true⟩
    | none => ⟨zeroF, false, false⟩
structure AddedF where
  e : Int
  l : List FlowM
def addF (most : Int) (fl : List FlowM) (f : FlowM) : AddedF :=
  if (findF fl f.key).ok then ⟨1, fl⟩ else if most ≤ fl.length then ⟨6, fl⟩ else ⟨0, fl ++ [f]⟩
structure PutF where
  ok : Bool
  l : List FlowM
def putF (fl : List FlowM) (f : FlowM) : PutF :=
  match fl.findIdx? (fun x => decide (x.key = f.key)) with
  | some i => ⟨true, fl.set i f⟩
  | none => ⟨false, fl⟩
def dueB (now : Int) (f : FlowM) : Bool := decide (f.due ≤ now)
def goneF (now : Int) (fl : List FlowM) : List FlowM := fl.filter (dueB now)
def stayF (now : Int) (fl : List FlowM) : List FlowM := fl.filter (fun f => !dueB now f)
def Keys (fl : List FlowM) : Prop := (fl.map (·.key)).Nodup

/-! ### The tables in memory -/
def gr (F : Nat → Prop) (w w' : World) : Nat → Prop := fun b => F b ∨ (w.heap.size ≤ b ∧ b < w'.heap.size)
/-- The program's table. -/
structure Tab (w : World) (F : Nat → Prop) (g : Nat) (fl : List FlowM) (most : Int) : Prop where
  rep : ∃ (s : SlV) (mb n : Nat), Blk w g #[.slice s.a s.len s.cap, .map (some mb), .int .i64 most] 58 ∧ OwnL w 29 14 FlowM.cells s fl ∧ KMap KeyM.cells w mb n (fidx fl) ∧ F mb ∧ ∀ b, ownB s b → F b
  here : F g
  lt : ∀ b, F b → b < w.heap.size
  keys : Keys fl
  len : (fl.length : Int) ≤ most
  most0 : 0 ≤ most
  most64 : most ≤ 64
  wf : ∀ f ∈ fl, f.wf
/-- The document's table. -/
structure Doc (w : World) (F : Nat → Prop) (g : Nat) (fl : List FlowM) (most : Int) : Prop where
  rep : ∃ (s : SlV), Blk w g #[.slice s.a s.len s.cap, .int .i64 most] 54 ∧ OwnL w 29 14 FlowM.cells s fl ∧ ∀ b, ownB s b → F b
  here : F g
  lt : ∀ b, F b → b < w.heap.size
  len : (fl.length : Int) ≤ most
  most0 : 0 ≤ most
  most64 : most ≤ 64
  wf : ∀ f ∈ fl, f.wf
theorem Tab.fr {w w' : World} {F S : Nat → Prop} {g : Nat} {fl : List FlowM} {most : Int} (h : Tab w F g fl most) (f : Fr S w w') (hs : ∀ b, F b → ¬ S b) : Tab w' F g fl most := by
  obtain ⟨⟨s, mb, n, h1, h2, h3, h4, h5⟩, h6, h7, h8, h9, h10, h11, h12⟩ := h
  exact ⟨⟨s, mb, n, h1.fr f (hs g h6), h2.fr f (fun b hb => hs b (h5 b hb)), h3.fr f (hs mb h4), h4, h5⟩, h6, fun b hb => f.lt (h7 b hb), h8, h9, h10, h11, h12⟩
theorem Doc.fr {w w' : World} {F S : Nat → Prop} {g : Nat} {fl : List FlowM} {most : Int} (h : Doc w F g fl most) (f : Fr S w w') (hs : ∀ b, F b → ¬ S b) : Doc w' F g fl most := by
  obtain ⟨⟨s, h1, h2, h5⟩, h6, h7, h9, h10, h11, h12⟩ := h
  exact ⟨⟨s, h1.fr f (hs g h6), h2.fr f (fun b hb => hs b (h5 b hb)), h5⟩, h6, fun b hb => f.lt (h7 b hb), h9, h10, h11, h12⟩
theorem Tab.frN {w w' : World} {F : Nat → Prop} {g : Nat} {fl : List FlowM} {most : Int} (h : Tab w F g fl most) (f : Fr noB w w') : Tab w' F g fl most := h.fr f (fun _ _ h => h)
theorem Doc.frN {w w' : World} {F : Nat → Prop} {g : Nat} {fl : List FlowM} {most : Int} (h : Doc w F g fl most) (f : Fr noB w w') : Doc w' F g fl most := h.fr f (fun _ _ h => h)
/-- A change of the table alone. -/
def TabTo (w : World) (F : Nat → Prop) (g : Nat) (fl' : List FlowM) (most : Int) (v : Value) (e : Ending) (w' : World) : Prop := e = .returned v ∧ Tab w' (gr F w w') g fl' most ∧ Fr F w w'
def DocTo (w : World) (F : Nat → Prop) (g : Nat) (fl' : List FlowM) (most : Int) (v : Value) (e : Ending) (w' : World) : Prop := e = .returned v ∧ Doc w' (gr F w w') g fl' most ∧ Fr F w w'

theorem results_ftt {P : Program} {fn : Func} {p u v : Tmp} {ty : TypeId} (h : fn.results = #[.cell p ty, .tmp u, .tmp v]) (tmps : Array Value) (w : World) (b o : Nat) (cs : List Value) (d : TypeDesc)
    (hp : tmps.getD p undef = .pointer (some ⟨b, o, none⟩)) (hc : CellsAt w b o cs) (hu : P.underlying ty = some d) (hd : (match d with | .struct _ | .array _ _ => true | _ => false) = true) (hi : (P.info? ty).map (·.size) = some cs.length)
    (x y : Value) (hx : tmps.getD u undef = x) (hy : tmps.getD v undef = y) : (results fn tmps).run P w = .ok (.tuple #[.agg cs.toArray, x, y]) w := by
  have hp' : tmps[p]?.getD undef = .pointer (some ⟨b, o, none⟩) := by simpa using hp
  have hl := run_loadVar_at (P := P) w ty b o cs hc d hu hd hi
  subst hx; subst hy
  simp [results, h, hp', asAddr, Sem.run_bind, hl]
theorem results_s {P : Program} {fn : Func} {p : Tmp} {ty : TypeId} (h : fn.results = #[.cell p ty]) (tmps : Array Value) (w : World) (b o : Nat) (cs : List Value) (d : TypeDesc)
    (hp : tmps.getD p undef = .pointer (some ⟨b, o, none⟩)) (hc : CellsAt w b o cs) (hu : P.underlying ty = some d) (hd : (match d with | .struct _ | .array _ _ => true | _ => false) = true) (hi : (P.info? ty).map (·.size) = some cs.length) :
    (results fn tmps).run P w = .ok (.agg cs.toArray) w := by
  have hp' : tmps[p]?.getD undef = .pointer (some ⟨b, o, none⟩) := by simpa using hp
  have hl := run_loadVar_at (P := P) w ty b o cs hc d hu hd hi
  simp [results, h, hp', asAddr, Sem.run_bind, hl]

/-! ### Turn -/
set_option maxHeartbeats 400000 in
theorem pack_turn (k : KeyM) (w : World) : Calls Try.prog 26 #[.agg k.cells.toArray] w fun e w' => e = .returned (.agg (turnK k).cells.toArray) ∧ Fr noB w w' := by
  show Calls Try.prog 26 #[k.val] w _
  unfold KeyM.val
  go_enter Try.func26, Try.ntmps26
  go_wp2_with fail
  refine bodyPost_ret (v := .agg (turnK k).cells.toArray) (by simp [results, Try.results26, go_sem, KeyM.cells, turnK]) rfl ⟨rfl, ?_⟩
  exact ((Fr.refl _ _).alloc _).alloc _
set_option maxHeartbeats 400000 in
theorem ref8_turn (k : KeyM) (w : World) : Calls Try.prog 20 #[.agg k.cells.toArray] w fun e w' => e = .returned (.agg (turnK k).cells.toArray) ∧ Fr noB w w' := by
  show Calls Try.prog 20 #[k.val] w _
  unfold KeyM.val
  go_enter Try.func20, Try.ntmps20
  go_wp2_with fail
  refine bodyPost_ret (v := .agg (turnK k).cells.toArray) (by simp [results, Try.results20, go_sem, KeyM.cells, turnK]) rfl ⟨rfl, ?_⟩
  exact ((Fr.refl _ _).alloc _).alloc _
theorem fidx_some {fl : List FlowM} {k : KeyM} {i : Nat} (h : fl.findIdx? (fun f => decide (f.key = k)) = some i) : fidx fl k = some (i : Int) ∧ ∃ f, fl[i]? = some f ∧ fl.getD i zeroF = f ∧ f.key = k := by
  refine ⟨by simp [fidx, h], ?_⟩
  obtain ⟨hl, hp, _⟩ := List.findIdx?_eq_some_iff_getElem.1 h
  exact ⟨fl[i], List.getElem?_eq_getElem hl, by simp [List.getD, List.getElem?_eq_getElem hl], of_decide_eq_true hp⟩
theorem fidx_none {fl : List FlowM} {k : KeyM} (h : fl.findIdx? (fun f => decide (f.key = k)) = none) : fidx fl k = none := by simp [fidx, h]
end Go.Proofs.Ytjfjpibjjliagaa

/- What own and disown do to the map, the free list and the row of blocks, in memory. dir.own and dir.disown: the plain part. An empty block of places. dir.disown: the plain part. -/
import Derived.Test.YtgjabgneapdbiaaDirPnt
namespace Go.Proofs.Ytgjabgneapdbiaa
open Go.RowKit Go.BigFrame
set_option linter.unusedSimpArgs false
set_option linter.unusedVariables false
attribute [local irreducible] wpMix wpAnyG

theorem check_int {P : Program} {t : TypeId} {kd : IntKind} (ht : P.underlying t = some (.int kd)) (em : Bool) (n : Nat) (v : Value) (w : World) : (Instr.checkKey em (n + 1) t v).run P w = .ok () w := by
  unfold Instr.checkKey
  rw [Sem.run_bind, run_underlying ht]
  rfl
theorem prefix_check (k : PrefixM) (em : Bool) (w : World) : (Instr.checkKey em 10000 28 (.agg k.cells.toArray)).run Try.prog w = .ok () w := by
  simp only [PrefixM.cells]
  unfold Instr.checkKey
  have c1 := check_int (P := Try.prog) Try.underlying3 em 9998
  have c2 := check_int (P := Try.prog) Try.underlying22 em 9998
  go_simp
theorem prefix_fit : KeyFit Try.prog 28 PrefixM.cells := by
  refine ⟨⟨_, Try.underlying28⟩, prefix_equal, prefix_check, fun a => by simp [PrefixM.cells, Instr.sameBits]⟩
section
variable {α : Type} [DecidableEq α] {P : Program} {ops : Array Oper} {mt kt et : TypeId} {cells : α → List Value} {b n : Nat} {f : α → Option Int}
theorem wpMix_klook {S : World → Prop} {Q : Act → World → Prop} {o : Oper} {rest : List Oper} {a : Act} {w : World} (hw : Region.wanted o (yielded ops a.tmps) = true) (m x : Operand) (ho : o.op = .lookup mt m x false)
    (F : KeyFit P kt cells) (ht : P.underlying mt = some (.map kt et)) (he : (P.info? et).map (·.zero) = some (some (.int .i64 0))) (k : α) (hm : a.eval m = .map (some b)) (hx : a.eval x = .agg (cells k).toArray) (v : Int) (hk : ∀ w, S w → ∃ n f, KMapS cells w b n f ∧ (f k).getD 0 = v)
    (h : wpMix P ops S Q rest (a.put o.dst (.int .i64 v)) w) : wpMix P ops S Q (o :: rest) a w := by
  unfold wpMix mOper
  rw [if_pos hw, if_pos (by rw [ho]; rfl)]
  refine ⟨_, fun w hw => ?_, h⟩
  obtain ⟨n, f, hm1, hv⟩ := hk w hw
  have := hm1.kmap.lookup F ht he k false
  simp only [Bool.false_eq_true, if_false, hv] at this
  unfold Oper.quietAt execOp
  simp only [ho, hm, hx, exec_v this]
  exact ⟨rfl, rfl⟩
theorem wpMix_mapEntry {S : World → Prop} {Q : Act → World → Prop} {o : Oper} {rest : List Oper} {a : Act} {w : World} (hw : Region.wanted o (yielded ops a.tmps) = true) (m x : Operand) (ho : o.op = .mapEntry mt m x)
    (F : KeyFit P kt cells) (ht : P.underlying mt = some (.map kt et)) (he : (P.info? et).map (·.zero) = some (some (.int .i64 0))) (k : α) (hm : a.eval m = .map (some b)) (hx : a.eval x = .agg (cells k).toArray) (hk : KMapS cells w b n f)
    (h : ∀ (v0 : Value) (st : Nat) (w1 : World), Fr (oneB b) w w1 → w1.heap.size = w.heap.size → KMapS cells w1 b (if (f k).isSome then n else n + 1) (upd f k ((f k).getD 0)) →
      (∀ (w2 : World) (v : Int), w2.heap[b]? = w1.heap[b]? → ∃ w3, (Instr.entryStore mt (.map (some b)) (goInt st) (.int .i64 v)).run P w2 = .ok () w3 ∧ KMapS cells w3 b (if (f k).isSome then n else n + 1) (upd f k v) ∧ Fr (oneB b) w2 w3 ∧ w3.heap.size = w2.heap.size) →
      S w1 ∧ wpMix P ops S Q rest (a.put o.dst (.tuple #[v0, goInt st])) w1) : wpMix P ops S Q (o :: rest) a w := by
  obtain ⟨v0, st, w1, hr, h1, h2, h3, h4⟩ := hk.entry F ht he k
  refine wpMix_run hw (by rw [ho]; rfl) (w' := w1) (v := .tuple #[v0, goInt st]) ?_ (h v0 st w1 h1 h2 h3 h4).1 (h v0 st w1 h1 h2 h3 h4).2
  unfold execOp
  simp only [ho, hm, hx]
  exact exec_v hr
theorem wpMix_entryStore {S : World → Prop} {Q : Act → World → Prop} {o : Oper} {rest : List Oper} {a : Act} {w : World} (hw : Region.wanted o (yielded ops a.tmps) = true) (m s v : Operand) (ho : o.op = .entryStore mt m s v)
    (st : Nat) (u : Int) (hm : a.eval m = .map (some b)) (hs : a.eval s = goInt st) (hv : a.eval v = .int .i64 u) {w3 : World} (hr : (Instr.entryStore mt (.map (some b)) (goInt st) (.int .i64 u)).run P w = .ok () w3)
    (hS : S w3) (h : wpMix P ops S Q rest (a.put o.dst undef) w3) : wpMix P ops S Q (o :: rest) a w := by
  refine wpMix_spine hw (by rw [ho]; rfl) (fun K hK => ?_)
  unfold Oper.wp execOp
  simp only [ho, hm, hs, hv]
  rw [exec_u hr]
  exact hK _ _ (by cases o.dst <;> rfl) hS h
end

theorem own_notmap {α : Type} {w w' : World} {e : TypeId} {N : Nat} {cells : α → List Value} {s : SlV} {xs : List α} (h : OwnL w e N cells s xs) {gm n : Nat} {f : OwnF} (hm : KMapS PrefixM.cells w gm n f) (hf : Fr (oneB gm) w w') : OwnL w' e N cells s xs := by
  refine h.fr hf ?_
  rintro b' ⟨a, ha, rfl⟩ e'
  unfold oneB at e'
  obtain ⟨es, c, m, h1, _⟩ := hm
  obtain ⟨_, h2⟩ := h
  rcases h2 with rfl | ⟨g', junk, ha', hb', _⟩
  · simp at ha
  · rw [ha] at ha'
    obtain rfl := Option.some.inj ha'
    simp only at e'
    subst e'
    have := hb'.symm.trans h1
    simp at this
/-- The map changes. -/
theorem CoreAt.mapUp {w w' : World} {C : Nat → Prop} {g gt gm nb n' : Nat} {most : Int} {st sb sf : SlV} {X : TS} {own' : OwnF} (h : CoreAt w C g gt most st sb sf gm X nb) (hm : KMapS PrefixM.cells w' gm n' own') (hf : Fr (oneB gm) w w') (hpos : ∀ o c, own' o = some c → 1 ≤ c ∧ c ≤ nb) :
    CoreAt w' C g gt most st sb sf gm ⟨X.S, own', n'⟩ nb ∧ Fr C w w' := by
  have hg : g ≠ gm := fun e => by
    obtain ⟨es, c, m, h1, _⟩ := h.map
    have := h.blk.symm.trans (e ▸ h1)
    simp at this
  have hsz := hf.size
  exact ⟨⟨h.blk.fr hf (fun e => hg (by unfold oneB at e; exact e)), own_notmap h.tab h.map hf, own_notmap h.bls h.map hf, own_notmap h.fre h.map hf, hm, h.here, fun b hb => by have := h.lt b hb; omega, h.len, hpos⟩, hf.mono (fun b _ e => by unfold oneB at e; rw [e]; exact h.here.2.1)⟩
theorem CoreAt.up {w : World} {C : Nat → Prop} {g gt gm nb nb' : Nat} {most : Int} {st sb sf : SlV} {X : TS} (h : CoreAt w C g gt most st sb sf gm X nb) (hn : nb ≤ nb') (hn' : nb' ≤ 1000000) : CoreAt w C g gt most st sb sf gm X nb' :=
  ⟨h.blk, h.tab, h.bls, h.fre, h.map, h.here, h.lt, ⟨h.len.1, by have := h.len; omega, by have := h.len; omega, hn'⟩, fun o c e => by have := h.pos o c e; omega⟩

/-- A row without its last element. -/
theorem own_dropLast {α : Type} {w : World} {e : TypeId} {N : Nat} {cells : α → List Value} {sa : Option Addr} {sl sc : Nat} {xs : List α} {x : α} (hN : ∀ x, (cells x).length = N) (h : OwnL w e N cells ⟨sa, sl + 1, sc⟩ (xs ++ [x])) : OwnL w e N cells ⟨sa, sl, sc⟩ xs := by
  obtain ⟨h1, h2⟩ := h
  simp only [List.length_append, List.length_cons, List.length_nil] at h1
  refine ⟨by simp only; omega, ?_⟩
  rcases h2 with h2 | ⟨g, junk, ha, hb, hl, hle, hm⟩
  · simp only [SlV.mk.injEq] at h2
    omega
  · refine .inr ⟨g, cells x ++ junk, ha, ?_, ?_, by simp only at hle ⊢; omega, hm⟩
    · have : (xs ++ [x]).flatMap cells ++ junk = xs.flatMap cells ++ (cells x ++ junk) := by simp
      rw [this] at hb
      exact hb
    · have : (xs ++ [x]).flatMap cells ++ junk = xs.flatMap cells ++ (cells x ++ junk) := by simp
      rw [this] at hl
      exact hl
theorem dirC_set {gt : Nat} {d : Int} {st sb sf sf' : SlV} {gm : Nat} {most : Int} : (dirC gt d st sb sf gm most).toArray.setIfInBounds 6 (.slice sf'.a sf'.len sf'.cap) = (dirC gt d st sb sf' gm most).toArray := by
  rw [List.setIfInBounds_toArray]; rfl
theorem dirC_set5 {gt : Nat} {d : Int} {st sb sf sb' : SlV} {gm : Nat} {most : Int} : (dirC gt d st sb sf gm most).toArray.setIfInBounds 5 (.slice sb'.a sb'.len sb'.cap) = (dirC gt d st sb' sf gm most).toArray := by
  rw [List.setIfInBounds_toArray]; rfl
/-- The free list's last number goes. -/
theorem CoreAt.popFree {w : World} {C : Nat → Prop} {g gt gm nb : Nat} {most : Int} {st sb : SlV} {sa : Option Addr} {sl sc n : Nat} {ns : List Nat} {X : TS} (h : CoreAt w C g gt most st sb ⟨sa, sl + 1, sc⟩ gm X nb) (hns : X.S.free = ns ++ [n]) :
    CoreAt (w.setCell ⟨g, 6, none⟩ (.slice sa sl sc)) C g gt most st sb ⟨sa, sl, sc⟩ gm { X with S := { X.S with free := ns } } nb ∧ Fr C w (w.setCell ⟨g, 6, none⟩ (.slice sa sl sc)) := by
  have hf : Fr (oneB g) w (w.setCell ⟨g, 6, none⟩ (.slice sa sl sc)) := (Fr.refl (oneB g) _).setCell (p := ⟨g, 6, none⟩) (.inr rfl) _
  have hb := h.blk.set 6 (.slice sa sl sc)
  have e := dirC_set (gt := gt) (d := 1) (st := st) (sb := sb) (sf := ⟨sa, sl + 1, sc⟩) (sf' := ⟨sa, sl, sc⟩) (gm := gm) (most := most)
  simp only at e
  rw [e] at hb
  have hfr := h.fre
  rw [hns] at hfr
  have hsz : (w.setCell ⟨g, 6, none⟩ (.slice sa sl sc)).heap.size = w.heap.size := by simp
  refine ⟨⟨hb, own_other h.tab h.blk (by decide) hf, own_other h.bls h.blk (by decide) hf, own_dropLast frC_length (own_other hfr h.blk (by decide) hf), map_other h.map h.blk hf, ⟨h.here.1, h.here.2.1, h.here.2.2.1, h.here.2.2.2.1, fun b hb => h.here.2.2.2.2 b hb⟩, fun b hb => by rw [hsz]; exact h.lt b hb, ?_, h.pos⟩, hf.mono (fun b _ e => by unfold oneB at e; rw [e]; exact h.here.1)⟩
  have := h.len
  rw [hns] at this
  simp only [List.length_append, List.length_cons, List.length_nil] at this
  exact ⟨this.1, this.2.1, by show ns.length ≤ nb; omega, this.2.2.2⟩
/-- A block more. -/
theorem CoreAt.pushBlk {w w1 : World} {C : Nat → Prop} {g gt gm nb : Nat} {most : Int} {st sb sb' sf : SlV} {X : TS} (h : CoreAt w C g gt most st sb sf gm X nb) (hn : X.S.blk.length + 1 ≤ nb) (ho : OwnL w1 117 768 blkC sb' (X.S.blk ++ [zf])) (hf : Fr (ownB sb) w w1)
    (hd : sb'.a = sb.a ∨ ∃ g', sb'.a = some ⟨g', 0, none⟩ ∧ w.heap.size ≤ g') :
    CoreAt (w1.setCell ⟨g, 5, none⟩ (.slice sb'.a sb'.len sb'.cap)) (gr C w (w1.setCell ⟨g, 5, none⟩ (.slice sb'.a sb'.len sb'.cap))) g gt most st sb' sf gm { X with S := { X.S with blk := X.S.blk ++ [zf] } } nb ∧ Fr C w (w1.setCell ⟨g, 5, none⟩ (.slice sb'.a sb'.len sb'.cap)) := by
  have hne : ∀ b, ownB sb b → b ≠ g := fun b hb e => by
    obtain ⟨a, ha, rfl⟩ := hb
    obtain ⟨_, h2⟩ := h.bls
    rcases h2 with rfl | ⟨g', junk, ha', hb', _⟩
    · simp at ha
    · rw [ha] at ha'
      obtain rfl := Option.some.inj ha'
      simp only at e
      rw [e] at hb'
      have := hb'.symm.trans h.blk
      simp at this
  have hfb : ∀ b, ownB sb b → ∃ cs, Blk w b cs 117 := fun b hb => by
    obtain ⟨a, ha, rfl⟩ := hb
    obtain ⟨_, h2⟩ := h.bls
    rcases h2 with rfl | ⟨g', junk, ha', hb', _⟩
    · simp at ha
    · rw [ha] at ha'
      obtain rfl := Option.some.inj ha'
      exact ⟨_, hb'⟩
  have other : ∀ {α : Type} {e : TypeId} {N : Nat} {cells : α → List Value} {s : SlV} {xs : List α}, OwnL w e N cells s xs → 117 ≠ e → OwnL w1 e N cells s xs := fun {α e N cells s xs} ho hne => by
    refine ho.fr hf (fun b hb hb2 => ?_)
    obtain ⟨cs, hc⟩ := hfb b hb2
    obtain ⟨a, ha, rfl⟩ := hb
    obtain ⟨_, h2⟩ := ho
    rcases h2 with rfl | ⟨g', junk, ha', hb', _⟩
    · simp at ha
    · rw [ha] at ha'
      obtain rfl := Option.some.inj ha'
      have := hb'.symm.trans hc
      simp only [Option.some.injEq, Obj.cells.injEq] at this
      exact hne this.2.1.symm
  have hgm : ¬ ownB sb gm := fun hb => by
    obtain ⟨cs, hc⟩ := hfb gm hb
    obtain ⟨es, c, m, h1, _⟩ := h.map
    have := h1.symm.trans hc
    simp at this
  have hblk1 := h.blk.fr hf (fun hb => hne g hb rfl)
  have hf2 : Fr (oneB g) w1 (w1.setCell ⟨g, 5, none⟩ (.slice sb'.a sb'.len sb'.cap)) := (Fr.refl (oneB g) _).setCell (p := ⟨g, 5, none⟩) (.inr rfl) _
  have hb := hblk1.set 5 (.slice sb'.a sb'.len sb'.cap)
  rw [dirC_set5] at hb
  have hsz2 : (w1.setCell ⟨g, 5, none⟩ (.slice sb'.a sb'.len sb'.cap)).heap.size = w1.heap.size := by simp
  have hF : Fr C w (w1.setCell ⟨g, 5, none⟩ (.slice sb'.a sb'.len sb'.cap)) := Fr.trans hf hf2 (fun b _ hb => h.here.2.2.2.1 b hb) (fun b _ e => by unfold oneB at e; rw [e]; exact h.here.1)
  refine ⟨⟨hb, own_other (other h.tab (by decide)) hblk1 (by decide) hf2, own_other ho hblk1 (by decide) hf2, own_other (other h.fre (by decide)) hblk1 (by decide) hf2, map_other (h.map.fr hf hgm) hblk1 hf2, ⟨.inl h.here.1, .inl h.here.2.1, fun b hb => .inl (h.here.2.2.1 b hb), fun b hb => ?_, fun b hb => .inl (h.here.2.2.2.2 b hb)⟩, fun b hb => ?_, ?_, h.pos⟩, hF⟩
  · rcases hd with e | ⟨g', e, hge⟩
    · exact .inl (h.here.2.2.2.1 b (by obtain ⟨a, ha, hab⟩ := hb; exact ⟨a, by rw [← e]; exact ha, hab⟩))
    · exact .inr ⟨by obtain ⟨a, ha, rfl⟩ := hb; rw [e] at ha; obtain rfl := Option.some.inj ha; exact hge, by rw [hsz2]; exact ho.lt b hb⟩
  · rcases hb with hb | hb
    · have := h.lt b hb; have := hF.size; omega
    · exact hb.2
  · have := h.len
    exact ⟨this.1, by show (X.S.blk ++ [zf]).length ≤ _; rw [List.length_append]; simp; omega, this.2.2.1, this.2.2.2⟩

/-- A block filled up to a place. -/
def DS.fillJ (S : DS) (n j : Nat) (x : PlM) : DS := { S with blk := S.blk.set n (fun i => if i < j then x else S.b n i) }
theorem fill_zero {S : DS} {n : Nat} (hn : n < S.blk.length) (x : PlM) : S.fillJ n 0 x = S := by
  unfold DS.fillJ
  have : (fun i => if i < 0 then x else S.b n i) = S.blk[n] := by
    funext i
    simp [DS.b, hn]
  rw [this, List.set_getElem_self]
theorem fill_step {S : DS} {n : Nat} (hn : n < S.blk.length) (j : Nat) (x : PlM) : (S.fillJ n j x).put (.b n j) x = S.fillJ n (j + 1) x := by
  have hb : (S.fillJ n j x).b n = fun i => if i < j then x else S.b n i := by
    unfold DS.fillJ
    simp only [DS.b, List.getD_eq_getElem?_getD, List.getElem?_set]
    simp [hn]
  unfold DS.put
  simp only
  rw [hb]
  unfold DS.fillJ
  simp only [List.set_set]
  congr 2
  funext i
  unfold upf
  by_cases e : i = j
  · subst e; simp
  · rw [if_neg e]
    have : (i < j ↔ i < j + 1) := by omega
    simp [this]
theorem fill_all (S : DS) (n : Nat) (x : PlM) : S.fillJ n 256 x = S.fillB n x := rfl
theorem fill_other {S : DS} {n j : Nat} {x : PlM} {L : Loc} (hL : ∀ i, L ≠ .b n i) : (S.fillJ n j x).get L = S.get L := by
  cases L with
  | t h => rfl
  | b m i =>
    have hne : n ≠ m := fun e => hL i (by rw [e])
    simp only [DS.get, DS.b, DS.fillJ, List.getD_eq_getElem?_getD, List.getElem?_set, hne, if_false]
theorem fill_has {S : DS} {n j : Nat} {x : PlM} {L : Loc} : (S.fillJ n j x).has L ↔ S.has L := by
  cases L with
  | t h => exact Iff.rfl
  | b m i => simp [DS.has, DS.fillJ]
end Go.Proofs.Ytgjabgneapdbiaa

namespace Go.Proofs.Ytgjabgneapdbiaa
open Go.RowKit Go.BigFrame
set_option linter.unusedSimpArgs false
set_option linter.unusedVariables false
attribute [local irreducible] wpMix wpAnyG

theorem blk_ne_map {α : Type} [DecidableEq α] {w : World} {g mb n : Nat} {cs : Array Value} {t : TypeId} {cells : α → List Value} {f : α → Option Int} (h : Blk w g cs t) (k : KMap cells w mb n f) : g ≠ mb := by
  rintro rfl
  obtain ⟨es, c, m, hb, _⟩ := k
  unfold Blk at h
  rw [h] at hb
  simp at hb
def OwnO (Y : TS) (o : PrefixM) : Prop := (∃ h, h < 65536 ∧ o = oh h) ∨ ∃ b, b < 16777216 ∧ o = ob b ∧ Y.own (oh (b / 256)) ≠ none
def AtO (S : DS) (o : PrefixM) : Prop := (∃ h, h < 65536 ∧ o = oh h) ∨ ∃ b, b < 16777216 ∧ o = ob b ∧ (S.t (b / 256)).block ≠ 0 ∧ (S.t (b / 256)).block - 1 < S.blk.length
theorem OwnO.at {Y : TS} {o : PrefixM} {lab : Nat → Lb} (h : OwnO Y o) (w : Wf Y.S lab) (u : InU Y.S Y.own) : AtO Y.S o := by
  rcases h with h | ⟨b, hb, rfl, h1⟩
  · exact .inl h
  · have h2 := (u.u0 (b / 256) (by omega)).2 h1
    exact .inr ⟨b, hb, rfl, h2, (w.w0 _ (by omega) h2).1⟩
theorem OwnO.ok {Y : TS} {o : PrefixM} (h : OwnO Y o) : o.wf := by
  rcases h with ⟨h, hh, rfl⟩ | ⟨b, hb, rfl, _⟩
  · exact ⟨by show h * 65536 < 4294967296; omega, by unfold i64b oh; simp⟩
  · exact ⟨by show b * 256 < 4294967296; omega, by unfold i64b ob; simp⟩
def upO (X : TS) (p : PrefixM) (k : Nat) : TS := ((ownedL p).take k).foldl TS.ownStep X
theorem owned_len (p : PrefixM) : (ownedL p).length ≤ 2 := by unfold ownedL; split <;> split <;> simp
theorem own_upto {X : TS} {lab : Nat → Lb} (w : Wf X.S lab) (u : InU X.S X.own) (hpos : ∀ o c, X.own o = some c → 1 ≤ c) {p : PrefixM} (hp : p.addr < 4294967296) (k : Nat) :
    (∃ lab, Wf (upO X p k).S lab) ∧ InU (upO X p k).S (upO X p k).own ∧ (∀ o c, (upO X p k).own o = some c → 1 ≤ c) ∧ ∀ o, (ownedL p)[k]? = some o → OwnO (upO X p k) o := by
  unfold upO ownedL
  by_cases h16 : 16 < p.len
  · rw [if_pos h16]
    obtain ⟨⟨lab1, w1⟩, u1, p1, k1⟩ := own_one w u hpos (o := oh (p.addr / 65536)) (.inl ⟨_, by omega, rfl⟩)
    have h0 : OwnO X (oh (p.addr / 65536)) := .inl ⟨_, by omega, rfl⟩
    have hb : OwnO (X.ownStep (oh (p.addr / 65536))) (ob (p.addr / 256)) := .inr ⟨_, by omega, rfl, by rw [own_step, if_pos (by rw [oh_inj]; omega)]; simp⟩
    by_cases h24 : 24 < p.len
    · rw [if_pos h24]
      obtain ⟨w2, u2, p2, k2⟩ := own_one w1 u1 p1 (o := ob (p.addr / 256)) (.inr ⟨_, by omega, rfl, by rw [own_step, if_pos (by rw [oh_inj]; omega)]; simp⟩)
      match k with
      | 0 => exact ⟨⟨lab, w⟩, u, hpos, fun o ho => by simp at ho; subst ho; exact h0⟩
      | 1 => exact ⟨⟨lab1, w1⟩, u1, p1, fun o ho => by simp at ho; subst ho; exact hb⟩
      | k + 2 =>
        have e : List.take (k + 2) ([oh (p.addr / 65536)] ++ [ob (p.addr / 256)]) = [oh (p.addr / 65536), ob (p.addr / 256)] := by simp
        rw [e]
        exact ⟨w2, u2, p2, fun o ho => by simp at ho⟩
    · rw [if_neg h24]
      match k with
      | 0 => exact ⟨⟨lab, w⟩, u, hpos, fun o ho => by simp at ho; subst ho; exact h0⟩
      | k + 1 =>
        have e : List.take (k + 1) ([oh (p.addr / 65536)] ++ []) = [oh (p.addr / 65536)] := by simp
        rw [e]
        exact ⟨⟨lab1, w1⟩, u1, p1, fun o ho => by simp at ho⟩
  · rw [if_neg h16, if_neg (by omega)]
    have e : List.take k ([] ++ [] : List PrefixM) = [] := by simp
    rw [e]
    exact ⟨⟨lab, w⟩, u, hpos, fun o ho => by simp at ho⟩
theorem upO_succ (X : TS) (p : PrefixM) {k : Nat} {o : PrefixM} (h : (ownedL p)[k]? = some o) : upO X p (k + 1) = (upO X p k).ownStep o := by
  unfold upO
  rw [List.take_add_one, h, List.foldl_append]
  rfl
theorem upO_all (X : TS) (p : PrefixM) : upO X p (ownedL p).length = X.ownAll p := by
  unfold upO TS.ownAll
  rw [List.take_length]

theorem dir_atO (w : World) (C : Nat → Prop) (g gt : Nat) (most : Int) (st sb sf : SlV) (gm : Nat) (X : TS) (nb : Nat) (h : CoreAt w C g gt most st sb sf gm X nb) {o : PrefixM} (ho : AtO X.S o) :
    X.S.has (locO X.S o) ∧ Calls Try.prog 83 #[.pointer (some ⟨g, 0, none⟩), .agg o.cells.toArray] w fun e w' => ∃ b off, adr st sb (locO X.S o) = some ⟨b, off, none⟩ ∧ e = .returned (.pointer (some ⟨b, off, none⟩)) ∧ Fr noB w w' := by
  rcases ho with ⟨h', hh, rfl⟩ | ⟨b, hb, rfl, h1, h2⟩
  · rw [loc_oh]
    exact ⟨by show h' < X.S.tab.length; rw [h.len.1]; exact hh, dir_at w C g gt most st sb sf gm X nb h h' hh⟩
  · rw [loc_ob]
    exact ⟨⟨h2, by omega⟩, dir_at2 w C g gt most st sb sf gm X nb h b hb h1 h2⟩
theorem locO_tab {S S' : DS} (h : S'.tab = S.tab) (o : PrefixM) : locO S' o = locO S o := by
  unfold locO DS.t
  rw [h]
theorem AtO.take {S : DS} {o : PrefixM} {lab : Nat → Lb} (h : AtO S o) (w : Wf S lab) : AtO S.take.2 o := by
  have T := take_ok w
  rcases h with h | ⟨b, hb, rfl, h1, h2⟩
  · exact .inl h
  · refine .inr ⟨b, hb, rfl, ?_, ?_⟩
    · unfold DS.t; rw [T.tab]; exact h1
    · have := T.len.1
      unfold DS.t; rw [T.tab]; exact Nat.lt_of_lt_of_le h2 this
theorem own_ne {S : DS} {o : PrefixM} {lab : Nat → Lb} (h : AtO S o) (w : Wf S lab) (i : Nat) : locO S.take.2 o ≠ .b S.take.1 i := by
  have T := take_ok w
  rw [locO_tab T.tab]
  rcases h with ⟨h', hh, rfl⟩ | ⟨b, hb, rfl, h1, h2⟩
  · rw [loc_oh]; simp
  · rw [loc_ob]
    intro e
    have hl := (w.w0 (b / 256) (by omega) h1).2
    simp only [Loc.b.injEq] at e
    rw [e.1, T.no] at hl
    cases hl
/-- A block taken, filled, and linked. -/
theorem own1_fill {S : DS} {o : PrefixM} {lab : Nat → Lb} (h : AtO S o) (w : Wf S lab) :
    ((S.take.2.fillJ S.take.1 256 (S.take.2.get (locO S.take.2 o))).put (locO S.take.2 o) { (S.take.2.fillJ S.take.1 256 (S.take.2.get (locO S.take.2 o))).get (locO S.take.2 o) with block := S.take.1 + 1 }) = S.own1 (locO S o) := by
  rw [fill_other (fun i => own_ne h w i), fill_all, locO_tab (take_ok w).tab]
  rfl
theorem CoreAt.mono {w : World} {C C' : Nat → Prop} {g gt gm nb : Nat} {most : Int} {st sb sf : SlV} {X : TS} (h : CoreAt w C g gt most st sb sf gm X nb) (h1 : ∀ b, C b → C' b) (h2 : ∀ b, C' b → b < w.heap.size) : CoreAt w C' g gt most st sb sf gm X nb := by
  obtain ⟨k1, k2, k3, k4, k5, ⟨m1, m2, m3, m4, m5⟩, k7, k8, k9⟩ := h
  exact ⟨k1, k2, k3, k4, k5, ⟨h1 _ m1, h1 _ m2, fun b hb => h1 _ (m3 b hb), fun b hb => h1 _ (m4 b hb), fun b hb => h1 _ (m5 b hb)⟩, h2, k8, k9⟩
/-- .. as of an earlier world. -/
theorem CoreAt.since {w0 w : World} {C C' : Nat → Prop} {g gt gm nb : Nat} {most : Int} {st sb sf : SlV} {X : TS} (h : CoreAt w C' g gt most st sb sf gm X nb) (h1 : ∀ b, C' b → C b ∨ w0.heap.size ≤ b) (hC : ∀ b, C b → b < w0.heap.size) (hs : w0.heap.size ≤ w.heap.size) : CoreAt w (gr C w0 w) g gt most st sb sf gm X nb :=
  h.mono (fun b hb => by
    rcases h1 b hb with k | k
    · exact .inl k
    · exact .inr ⟨k, h.lt b hb⟩) (fun b hb => by
    rcases hb with k | k
    · have := hC b k; omega
    · exact k.2)
theorem CoreAt.mapX {w w' : World} {C : Nat → Prop} {g gt gm nb n' : Nat} {most : Int} {st sb sf : SlV} {X : TS} {own' : OwnF} (h : CoreAt w C g gt most st sb sf gm X nb) (hm : KMapS PrefixM.cells w' gm n' own') (hf : Fr (oneB gm) w w') {nb' : Nat} (hn : nb ≤ nb') (hn' : nb' ≤ 1000000) (hpos : ∀ o c, own' o = some c → 1 ≤ c ∧ c ≤ nb') :
    CoreAt w' C g gt most st sb sf gm ⟨X.S, own', n'⟩ nb' ∧ Fr C w w' := (h.up hn hn').mapUp hm hf hpos
theorem frC_nat {ns : List Nat} {n : Nat} {S : DS} (h : S.free = ns ++ [n]) : S.take = (n, { S with free := ns }) := by
  unfold DS.take
  rw [h]
  simp
theorem take_new {S : DS} (h : S.free = []) : S.take = (S.blk.length, { S with blk := S.blk ++ [zf] }) := by
  unfold DS.take
  rw [h]
  rfl

theorem wpList_entryStore {P : Program} {ops : Array Oper} {rest : List Oper} {o : Oper} {a : Act} {w w3 : World} {Q : Exit → Act → World → Prop} {mt : TypeId} {b : Nat} (hgd : o.guard = none) (m s v : Operand) (ho : o.op = .entryStore mt m s v)
    (st : Nat) (u : Int) (hm : a.eval m = .map (some b)) (hs : a.eval s = goInt st) (hv : a.eval v = .int .i64 u) (hr : (Instr.entryStore mt (.map (some b)) (goInt st) (.int .i64 u)).run P w = .ok () w3)
    (h : wpList P ops Q rest (a.put o.dst undef) w3) : wpList P ops Q (o :: rest) a w :=
  wpList_plain hgd fun _ hK => by
    unfold Oper.wp execOp
    simp only [ho, hm, hs, hv]
    rw [exec_u hr]
    exact hK _ _ h
end Go.Proofs.Ytgjabgneapdbiaa

namespace Go.Proofs.Ytgjabgneapdbiaa
open Go.RowKit Go.BigFrame
set_option linter.unusedSimpArgs false
set_option linter.unusedVariables false
attribute [local irreducible] wpMix wpAnyG

set_option maxRecDepth 100000 in
theorem block_info : (Try.prog.info? 117).map (fun i => (i.zero, i.size, i.bytes)) = some (some (.agg (blkC zf).toArray), 768, 4096) := by kernel_rfl
set_option maxRecDepth 100000 in
theorem block_info2 : (Try.prog.info? 117).map (fun i => (i.zero, i.size)) = some (some (.agg (blkC zf).toArray), 768) := by kernel_rfl
set_option maxRecDepth 100000 in
theorem block_built : Try.prog.built 117 [] = some (blkC zf).toArray := by kernel_rfl
theorem fold_at : ∀ (l : List Value) (k : Nat) (b : Array Value), k + l.length ≤ b.size → ((l.zipIdx k).foldl (fun cs (p : Value × Nat) => cs.setIfInBounds (0 * 768 + p.2) p.1) b).toList = b.toList.take k ++ l ++ b.toList.drop (k + l.length)
  | [], k, b, _ => by simp
  | x :: l, k, b, h => by
    rw [List.zipIdx_cons, List.foldl_cons]
    simp only [List.length_cons] at h
    have hz : 0 * 768 + k = k := by omega
    rw [hz, fold_at l (k + 1) _ (by simp; omega)]
    simp only [Array.toList_setIfInBounds, List.length_cons]
    have hk : k < b.toList.length := by simp; omega
    have e1 : (b.toList.set k x).take (k + 1) = b.toList.take k ++ [x] := by
      rw [List.take_add_one, List.getElem?_set_self hk, List.take_set_of_le (Nat.le_refl k)]
      rfl
    have e2 : (b.toList.set k x).drop (k + 1 + l.length) = b.toList.drop (k + (l.length + 1)) := by
      rw [List.drop_set_of_lt (by omega)]
      congr 1; omega
    rw [e1, e2]
    simp
theorem fill_one (cs b : Array Value) (h1 : cs.size = 768) (h2 : b.size = 768) : Instr.fill (fun j => some (j * 768, 768)) b [(0, .agg cs)] = some cs := by
  have hc : (Value.agg cs).cells = cs := rfl
  unfold Instr.fill
  simp only [hc]
  rw [if_neg (by simp [h1, h2])]
  unfold Instr.fill
  congr 1
  rw [← Array.toList_inj]
  rw [← Array.foldl_toList, Array.toList_zipIdx]
  have := fold_at cs.toList 0 b (by simp; omega)
  refine this.trans ?_
  simp [h1, h2]
theorem block_fill : Instr.fill (fun j => some (j * 768, 768)) ((Array.range (1 * 768)).map ((Value.agg (blkC zf).toArray).cells[· % (Value.agg (blkC zf).toArray).cells.size]!)) [(0, .agg (blkC zf).toArray)] = some (blkC zf).toArray :=
  fill_one _ _ (by simp [blkC_length]) (by simp)
theorem int32_info : (Try.prog.info? 21).map (fun i => (i.zero, i.size, i.bytes)) = some (some (.int .i32 0), 1, 4) := by kernel_rfl
theorem wpMix_build_as {P : Program} {ops : Array Oper} {S : World → Prop} {Q : Act → World → Prop} {o : Oper} {rest : List Oper} {a : Act} {w : World} (hw : Region.wanted o (yielded ops a.tmps) = true) (t : TypeId) (ho : o.op = .build t #[])
    (cs : Array Value) (hb : P.built t [] = some cs) (h : wpMix P ops S Q rest (a.put o.dst (.agg cs)) w) : wpMix P ops S Q (o :: rest) a w := by
  unfold wpMix mOper
  rw [if_pos hw, if_pos (by rw [ho]; rfl)]
  refine ⟨_, fun w hw => ?_, h⟩
  unfold Oper.quietAt execOp
  simp only [ho]
  have := run_build (P := P) w t #[] cs hb
  rw [show (Array.map (fun x : Nat × Operand => (x.fst, a.eval x.snd)) #[]) = #[] from by simp, exec_v this]
  exact ⟨rfl, rfl⟩
end Go.Proofs.Ytgjabgneapdbiaa

namespace Go.Proofs.Ytgjabgneapdbiaa
open Go.RowKit Go.BigFrame
set_option linter.unusedSimpArgs false
set_option linter.unusedVariables false
attribute [local irreducible] wpMix wpAnyG

structure DisAt (Y : TS) (o : PrefixM) : Prop where
  at_ : AtO Y.S o
  own : ∃ c, Y.own o = some c ∧ 1 ≤ c
  blk : (Y.S.get (locO Y.S o)).block ≠ 0 ∧ (Y.S.get (locO Y.S o)).block - 1 < Y.S.blk.length
theorem disAt_of {Y : TS} {lab : Nat → Lb} (w : Wf Y.S lab) (u : InU Y.S Y.own) {o : PrefixM} (ho : (∃ h, h < 65536 ∧ o = oh h) ∨ ∃ b, b < 16777216 ∧ o = ob b) {c : Int} (hc : Y.own o = some c) (h1 : 1 ≤ c) : DisAt Y o := by
  have hn : Y.own o ≠ none := by rw [hc]; simp
  rcases ho with ⟨h, hh, rfl⟩ | ⟨b, hb, rfl⟩
  · have h2 := (u.u0 h hh).2 hn
    refine ⟨.inl ⟨h, hh, rfl⟩, ⟨c, hc, h1⟩, ?_⟩
    rw [loc_oh]
    exact ⟨h2, (w.w0 h hh h2).1⟩
  · have h2 := (u.u0 (b / 256) (by omega)).2 (u.u2 b hb hn)
    have h3 := (u.u1 b hb h2).2 hn
    refine ⟨.inr ⟨b, hb, rfl, h2, (w.w0 _ (by omega) h2).1⟩, ⟨c, hc, h1⟩, ?_⟩
    rw [loc_ob]
    exact ⟨h3, (w.w1 b hb h2 h3).1⟩
def dnO (X : TS) (p : PrefixM) (k : Nat) : TS := ((ownedL p).reverse.take k).foldl TS.disStep X
theorem dnO_succ (X : TS) (p : PrefixM) {k : Nat} {o : PrefixM} (h : (ownedL p).reverse[k]? = some o) : dnO X p (k + 1) = (dnO X p k).disStep o := by
  unfold dnO
  rw [List.take_add_one, h, List.foldl_append]
  rfl
theorem dnO_all (X : TS) (p : PrefixM) : dnO X p (ownedL p).length = X.disAll p := by
  unfold dnO TS.disAll
  rw [← List.length_reverse, List.take_length]
theorem dis_upto {X1 : TS} {l : List EntM} {p : PrefixM} {lab : Nat → Lb} (hw1 : Wf X1.S lab) (hu1 : InU X1.S X1.own) (hok' : ∀ x ∈ delE l p, okP x.p) (hlk : ∀ a, a < 4294967296 → PlOk (X1.S.lk a) (longE (delE l p) a)) (hcnt : CntIs l X1.own) (hh : hasE l p = true) (hplt : p.addr < 4294967296) (k : Nat) (o : PrefixM)
    (h : (ownedL p).reverse[k]? = some o) : DisAt (dnO X1 p k) o := by
  have hc := fun o => cnt_del hh o
  have hsome : ∀ o ∈ ownedL p, X1.own o = some ((cnt (delE l p) o : Nat) + 1 : Int) := fun o ho => by
    have e := hc o
    rw [if_pos ho] at e
    rw [hcnt o, e, if_neg (by omega)]; simp
  have hin : ∀ o ∈ ownedL p, (∃ h, h < 65536 ∧ o = oh h) ∨ ∃ b, b < 16777216 ∧ o = ob b := fun o ho => by
    unfold ownedL at ho
    rw [List.mem_append] at ho
    rcases ho with ho | ho
    · split at ho
      · simp only [List.mem_singleton] at ho; exact .inl ⟨_, by omega, ho⟩
      · simp at ho
    · split at ho
      · simp only [List.mem_singleton] at ho; exact .inr ⟨_, by omega, ho⟩
      · simp at ho
  have hm : o ∈ ownedL p := List.mem_reverse.1 (List.mem_of_getElem? h)
  match k with
  | 0 => exact disAt_of hw1 hu1 (hin o hm) (hsome o hm) (by omega)
  | 1 =>
    have h24 : 24 < p.len := by
      by_cases h24 : 24 < p.len
      · exact h24
      · exfalso
        unfold ownedL at h
        rw [if_neg h24] at h
        split at h <;> simp at h
    have eL : (ownedL p).reverse = [ob (p.addr / 256), oh (p.addr / 65536)] := by unfold ownedL; rw [if_pos (by omega), if_pos h24]; rfl
    have hob : ob (p.addr / 256) ∈ ownedL p := mem_ob.2 ⟨h24, rfl⟩
    obtain ⟨⟨lab1, w1⟩, u1, k1, o1⟩ := dis_one (l := delE l p) hw1 hu1 hok' hlk (o := ob (p.addr / 256)) (.inr ⟨_, by omega, rfl⟩) (hsome _ hob) (fun b e => absurd e.symm (oh_ob _ _))
    rw [eL] at h
    simp at h
    subst h
    have e : dnO X1 p 1 = X1.disStep (ob (p.addr / 256)) := by unfold dnO; rw [eL]; rfl
    rw [e]
    exact disAt_of w1 u1 (hin _ hm) (c := (cnt (delE l p) (oh (p.addr / 65536)) : Nat) + 1) (by rw [o1, if_neg (oh_ob _ _)]; exact hsome _ hm) (by omega)
  | k + 2 =>
    have := owned_len p
    have h2 := (List.getElem?_eq_some_iff.1 h).1
    rw [List.length_reverse] at h2
    omega
/-- A free number more. -/
theorem CoreAt.pushFree {w w1 : World} {C : Nat → Prop} {g gt gm nb : Nat} {most : Int} {st sb sf sf' : SlV} {X : TS} (h : CoreAt w C g gt most st sb sf gm X nb) {n : Nat} (hn : X.S.free.length + 1 ≤ nb) (ho : OwnL w1 21 1 frC sf' (X.S.free ++ [n])) (hf : Fr (ownB sf) w w1)
    (hd : sf'.a = sf.a ∨ ∃ g', sf'.a = some ⟨g', 0, none⟩ ∧ w.heap.size ≤ g') :
    CoreAt (w1.setCell ⟨g, 6, none⟩ (.slice sf'.a sf'.len sf'.cap)) (gr C w (w1.setCell ⟨g, 6, none⟩ (.slice sf'.a sf'.len sf'.cap))) g gt most st sb sf' gm { X with S := { X.S with free := X.S.free ++ [n] } } nb ∧ Fr C w (w1.setCell ⟨g, 6, none⟩ (.slice sf'.a sf'.len sf'.cap)) := by
  have hne : ∀ b, ownB sf b → b ≠ g := fun b hb e => by
    obtain ⟨a, ha, rfl⟩ := hb
    obtain ⟨_, h2⟩ := h.fre
    rcases h2 with rfl | ⟨g', junk, ha', hb', _⟩
    · simp at ha
    · rw [ha] at ha'
      obtain rfl := Option.some.inj ha'
      simp only at e
      rw [e] at hb'
      have := hb'.symm.trans h.blk
      simp at this
  have hfb : ∀ b, ownB sf b → ∃ cs, Blk w b cs 21 := fun b hb => by
    obtain ⟨a, ha, rfl⟩ := hb
    obtain ⟨_, h2⟩ := h.fre
    rcases h2 with rfl | ⟨g', junk, ha', hb', _⟩
    · simp at ha
    · rw [ha] at ha'
      obtain rfl := Option.some.inj ha'
      exact ⟨_, hb'⟩
  have other : ∀ {α : Type} {e : TypeId} {N : Nat} {cells : α → List Value} {s : SlV} {xs : List α}, OwnL w e N cells s xs → 21 ≠ e → OwnL w1 e N cells s xs := fun {α e N cells s xs} ho hne => by
    refine ho.fr hf (fun b hb hb2 => ?_)
    obtain ⟨cs, hc⟩ := hfb b hb2
    obtain ⟨a, ha, rfl⟩ := hb
    obtain ⟨_, h2⟩ := ho
    rcases h2 with rfl | ⟨g', junk, ha', hb', _⟩
    · simp at ha
    · rw [ha] at ha'
      obtain rfl := Option.some.inj ha'
      have := hb'.symm.trans hc
      simp only [Option.some.injEq, Obj.cells.injEq] at this
      exact hne this.2.1.symm
  have hgm : ¬ ownB sf gm := fun hb => by
    obtain ⟨cs, hc⟩ := hfb gm hb
    obtain ⟨es, c, m, h1, _⟩ := h.map
    have := h1.symm.trans hc
    simp at this
  have hblk1 := h.blk.fr hf (fun hb => hne g hb rfl)
  have hf2 : Fr (oneB g) w1 (w1.setCell ⟨g, 6, none⟩ (.slice sf'.a sf'.len sf'.cap)) := (Fr.refl (oneB g) _).setCell (p := ⟨g, 6, none⟩) (.inr rfl) _
  have hb := hblk1.set 6 (.slice sf'.a sf'.len sf'.cap)
  rw [dirC_set] at hb
  have hsz2 : (w1.setCell ⟨g, 6, none⟩ (.slice sf'.a sf'.len sf'.cap)).heap.size = w1.heap.size := by simp
  have hF : Fr C w (w1.setCell ⟨g, 6, none⟩ (.slice sf'.a sf'.len sf'.cap)) := Fr.trans hf hf2 (fun b _ hb => h.here.2.2.2.2 b hb) (fun b _ e => by unfold oneB at e; rw [e]; exact h.here.1)
  refine ⟨⟨hb, own_other (other h.tab (by decide)) hblk1 (by decide) hf2, own_other (other h.bls (by decide)) hblk1 (by decide) hf2, own_other ho hblk1 (by decide) hf2, map_other (h.map.fr hf hgm) hblk1 hf2, ⟨.inl h.here.1, .inl h.here.2.1, fun b hb => .inl (h.here.2.2.1 b hb), fun b hb => .inl (h.here.2.2.2.1 b hb), fun b hb => ?_⟩, fun b hb => ?_, ?_, h.pos⟩, hF⟩
  · rcases hd with e | ⟨g', e, hge⟩
    · exact .inl (h.here.2.2.2.2 b (by obtain ⟨a, ha, hab⟩ := hb; exact ⟨a, by rw [← e]; exact ha, hab⟩))
    · exact .inr ⟨by obtain ⟨a, ha, rfl⟩ := hb; rw [e] at ha; obtain rfl := Option.some.inj ha; exact hge, by rw [hsz2]; exact ho.lt b hb⟩
  · rcases hb with hb | hb
    · have := h.lt b hb; have := hF.size; omega
    · exact hb.2
  · have := h.len
    exact ⟨this.1, this.2.1, by show (X.S.free ++ [n]).length ≤ _; rw [List.length_append]; simp; omega, this.2.2.2⟩

theorem wpList_kdeleteS {α : Type} [DecidableEq α] {P : Program} {ops : Array Oper} {mt kt et : TypeId} {cells : α → List Value} {b n : Nat} {f : α → Option Int} {Q : Exit → Act → World → Prop} {o : Oper} {rest : List Oper} {a : Act} {w : World} (hg : o.guard = none) (m x : Operand)
    (ho : o.op = .call { callee := .builtin .delete, args := #[m, x], argTypes := #[mt, kt] })
    (F : KeyFit P kt cells) (ht : P.underlying mt = some (.map kt et)) (k : α) (hm : a.eval m = .map (some b)) (hx : a.eval x = .agg (cells k).toArray) (hk : KMapS cells w b n f)
    (h : ∀ w', KMapS cells w' b (if (f k).isSome then n - 1 else n) (del f k) → Fr (oneB b) w w' → w'.heap.size = w.heap.size → wpList P ops Q rest (a.put o.dst (.tuple #[])) w') : wpList P ops Q (o :: rest) a w :=
  wpList_plain hg fun _ hK => by
    obtain ⟨w', hr, h1, h2, h3⟩ := hk.delete (ty := o.type) F ht k
    unfold Oper.wp execOp
    simp only [ho, resolve, invoke, builtin, Sem.run_bind, Sem.run_pure, Result.andThen_ok, List.map_toArray, List.map_cons, List.map_nil, hm, hx, hr]
    exact hK _ _ (h w' h1 h2 h3)
end Go.Proofs.Ytgjabgneapdbiaa

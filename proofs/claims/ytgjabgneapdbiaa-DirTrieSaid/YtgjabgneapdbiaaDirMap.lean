/- Maps of the call's own, keyed by a struct of whole numbers and holding whole numbers. Maps keyed by structs whose entries are told apart by their stamps: m[k]++. -/
import Derived.Test.YtgjabgneapdbiaaBase
import Derived.Maps.OwnSet
namespace Go.Proofs.Ytgjabgneapdbiaa
open Go.RowKit
open Go.ChangeMaps (setBlock)
set_option linter.unusedSimpArgs false
set_option linter.unusedVariables false

/-- How keys of a type act. -/
structure KeyFit {α : Type} [DecidableEq α] (P : Program) (kt : TypeId) (cells : α → List Value) : Prop where
  desc : ∃ fs, P.underlying kt = some (.struct fs)
  equal : ∀ a b w, (Op.equal kt (.agg (cells a).toArray) (.agg (cells b).toArray)).run P w = .ok (decide (a = b)) w
  check : ∀ a em w, (Instr.checkKey em 10000 kt (.agg (cells a).toArray)).run P w = .ok () w
  bits : ∀ a, Instr.sameBits 10000 (.agg (cells a).toArray) (.agg (cells a).toArray) = true

section
variable {α : Type} [DecidableEq α]
/-- What an association list says of a key. -/
def look (k : α) (m : List (α × Int)) : Option (Nat × Int) := (m.findIdx? (fun p => decide (k = p.1))).bind fun j => (m[j]?).map fun p => (j, p.2)
def EntsAre (cells : α → List Value) (es : Array MapEntry) (m : List (α × Int)) : Prop := es.toList.map (fun e => (e.key, e.val)) = m.map (fun p => (Value.agg (cells p.1).toArray, Value.int .i64 p.2))
/-- A map of the call's own: of each key what it holds. -/
def KMap (cells : α → List Value) (w : World) (b : Nat) (n : Nat) (f : α → Option Int) : Prop :=
  ∃ es clock m, w.heap[b]? = some (.map es clock) ∧ EntsAre cells es m ∧ (m.map (·.1)).Nodup ∧ m.length = n ∧ ∀ k, (m.find? (fun p => decide (k = p.1))).map (·.2) = f k

theorem look_find (k : α) : ∀ (m : List (α × Int)), (look k m).map (·.2) = (m.find? (fun p => decide (k = p.1))).map (·.2)
  | [] => rfl
  | p :: m => by
    have ih := look_find k m
    unfold look at *
    by_cases h : k = p.1
    · subst h; simp [List.findIdx?_cons, List.find?_cons]
    · simp only [List.findIdx?_cons, List.find?_cons, h, decide_false, Bool.false_eq_true, if_false]
      rw [← ih]
      cases List.findIdx? (fun p => decide (k = p.1)) m with
      | none => rfl
      | some j => cases hj : m[j]? <;> simp [hj]
theorem look_lt {k : α} {m : List (α × Int)} {j : Nat} {v : Int} (h : look k m = some (j, v)) : ∃ p, m[j]? = some p ∧ p.1 = k ∧ p.2 = v := by
  unfold look at h
  cases hi : m.findIdx? (fun p => decide (k = p.1)) with
  | none => rw [hi] at h; simp at h
  | some i =>
    rw [hi] at h
    obtain ⟨hl, hp, _⟩ := List.findIdx?_eq_some_iff_getElem.1 hi
    simp only [Option.bind_some, List.getElem?_eq_getElem hl, Option.map_some, Option.some.injEq, Prod.mk.injEq] at h
    obtain ⟨rfl, rfl⟩ := h
    exact ⟨m[i], List.getElem?_eq_getElem hl, by simpa using (of_decide_eq_true hp).symm, rfl⟩
theorem look_none {k : α} {m : List (α × Int)} (h : look k m = none) : ∀ p ∈ m, p.1 ≠ k := by
  intro p hp e
  unfold look at h
  cases hi : m.findIdx? (fun p => decide (k = p.1)) with
  | none =>
    rw [List.findIdx?_eq_none_iff] at hi
    have := hi p hp
    simp [e] at this
  | some i =>
    rw [hi] at h
    obtain ⟨hl, _, _⟩ := List.findIdx?_eq_some_iff_getElem.1 hi
    simp [List.getElem?_eq_getElem hl] at h

theorem findAsking_k {P : Program} {kt : TypeId} {cells : α → List Value} (F : KeyFit P kt cells) (k : α) (w : World) : ∀ (es : List MapEntry) (m : List (α × Int)) (i : Nat), es.map (fun e => (e.key, e.val)) = m.map (fun p => (Value.agg (cells p.1).toArray, Value.int .i64 p.2)) →
    (Instr.findAsking kt (.agg (cells k).toArray) es i).run P w = .ok ((look k m).map fun p => (i + p.1, Value.int .i64 p.2)) w
  | [], m, i, h => by
    have : m = [] := by simpa using h.symm
    subst this
    rfl
  | e :: es, [], i, h => by simp at h
  | e :: es, p :: m, i, h => by
    simp only [List.map_cons, List.cons.injEq, Prod.mk.injEq] at h
    obtain ⟨⟨hk, hv⟩, hr⟩ := h
    unfold Instr.findAsking
    rw [Sem.run_bind, hk, F.equal]
    simp only [Result.andThen_ok]
    by_cases hkp : k = p.1
    · simp [hkp, hv, look, List.findIdx?_cons]
    · have ih := findAsking_k F k w es m (i + 1) hr
      simp only [hkp, decide_false, Bool.false_eq_true, if_false]
      rw [ih]
      congr 1
      unfold look
      rw [List.findIdx?_cons]
      simp only [hkp, decide_false, Bool.false_eq_true, if_false]
      cases hj : List.findIdx? (fun p => decide (k = p.1)) m with
      | none => simp
      | some j => cases hm : m[j]? <;> simp [hm, Nat.add_assoc, Nat.add_comm 1 j]

theorem findNow_struct {fs : Array Field} (k : Value) : ∀ (e : MapEntry) (es : List MapEntry) (i : Nat), Instr.findNow (.struct fs) k (e :: es) i = none := fun e es i => by
  unfold Instr.findNow Instr.sameNow
  rfl
theorem findKey_k {P : Program} {kt : TypeId} {cells : α → List Value} (F : KeyFit P kt cells) (k : α) (w : World) (es : Array MapEntry) (m : List (α × Int)) (h : EntsAre cells es m) :
    (Instr.findKey kt (.agg (cells k).toArray) es.toList).run P w = .ok ((look k m).map fun p => (p.1, Value.int .i64 p.2)) w := by
  have ha := findAsking_k F k w es.toList m 0 h
  simp only [Nat.zero_add] at ha
  obtain ⟨fs, hd⟩ := F.desc
  unfold Instr.findKey
  rw [Sem.run_bind, run_underlying hd]
  simp only [Result.andThen_ok]
  cases hes : es.toList with
  | nil =>
    have hm : m = [] := by
      unfold EntsAre at h
      rw [hes] at h
      simpa using h.symm
    subst hm
    rfl
  | cons e r =>
    rw [hes] at ha
    rw [findNow_struct]
    exact ha
theorem stays_k {P : Program} {kt : TypeId} {cells : α → List Value} (F : KeyFit P kt cells) (k : α) (w : World) : (Instr.keyThatStays (.agg (cells k).toArray) (.agg (cells k).toArray)).run P w = .ok (.agg (cells k).toArray) w := by
  unfold Instr.keyThatStays
  rw [if_pos (F.bits k)]
  rfl

theorem KMap.lt {cells : α → List Value} {w : World} {b n : Nat} {f : α → Option Int} (h : KMap cells w b n f) : b < w.heap.size := by
  obtain ⟨es, c, m, hb, _⟩ := h
  exact (Array.getElem?_eq_some_iff.1 hb).1
theorem KMap.fr {cells : α → List Value} {w w' : World} {b n : Nat} {f : α → Option Int} {S : Nat → Prop} (h : KMap cells w b n f) (hf : Fr S w w') (hs : ¬ S b) : KMap cells w' b n f := by
  have hl := h.lt
  obtain ⟨es, c, m, hb, r⟩ := h
  exact ⟨es, c, m, by rw [hf.same b hl hs]; exact hb, r⟩
theorem KMap.new (cells : α → List Value) (w : World) : KMap cells (w.alloc (.map #[] 0)) w.heap.size 0 (fun _ => none) :=
  ⟨#[], 0, [], by simp [← World.alloc_eq], by rfl, by simp, rfl, fun _ => rfl⟩
theorem setBlock_same {w : World} {b : Nat} {o1 : Obj} (hb : w.heap[b]? = some o1) (o : Obj) : (setBlock w b o).heap[b]? = some o := by
  have := (Array.getElem?_eq_some_iff.1 hb).1
  simp [setBlock, this]
theorem setBlock_other (w : World) {b : Nat} (o : Obj) {i : Nat} (h : i ≠ b) : (setBlock w b o).heap[i]? = w.heap[i]? := by
  simp only [setBlock]
  exact Array.getElem?_setIfInBounds_ne (fun e => h e.symm)
theorem Fr.setBlock {S : Nat → Prop} {a b : World} (h : Fr S a b) {g : Nat} (hg : a.heap.size ≤ g ∨ S g) (o : Obj) : Fr S a (Go.ChangeMaps.setBlock b g o) :=
  ⟨h.os, h.tape, h.output, by rw [show (Go.ChangeMaps.setBlock b g o).heap.size = b.heap.size from by simp [Go.ChangeMaps.setBlock]]; exact h.size, fun x hx hn => by
    have hne : x ≠ g := by
      rintro rfl
      rcases hg with hg | hg
      · omega
      · exact hn hg
    rw [setBlock_other _ _ hne]
    exact h.same x hx hn⟩

/-- v, ok := m[k]; v := m[k] -/
theorem KMap.lookup {P : Program} {mt kt et : TypeId} {cells : α → List Value} (F : KeyFit P kt cells) (ht : P.underlying mt = some (.map kt et)) (he : (P.info? et).map (·.zero) = some (some (.int .i64 0))) {w : World} {b n : Nat} {f : α → Option Int}
    (h : KMap cells w b n f) (k : α) (c : Bool) : (Instr.lookup mt (.map (some b)) (.agg (cells k).toArray) c).run P w =
      .ok (if c then .tuple #[.int .i64 ((f k).getD 0), .bool (f k).isSome] else .int .i64 ((f k).getD 0)) w := by
  obtain ⟨es, clock, m, hb, hent, hnd, hlen, hf⟩ := h
  have hfk := findKey_k F k w es m hent
  have hc := F.check k es.isEmpty w
  have hg : (getObj b).run P w = .ok (.map es clock) w := by simp [getObj, Sem.run, hb]
  unfold Instr.lookup
  simp only [Sem.run_bind, run_underlying ht, Result.andThen_ok, hg, Sem.run_pure]
  rw [hc]
  simp only [Result.andThen_ok]
  rw [hfk]
  simp only [Result.andThen_ok]
  have hl := look_find k m
  rw [hf] at hl
  cases hi : look k m with
  | none =>
    rw [hi] at hl
    simp only [Option.map_none] at hl
    obtain ⟨i, hi1, hi2⟩ := Option.map_eq_some_iff.1 he
    have hz : (zeroValue et).run P w = .ok (.int .i64 0) w := by simp [zeroValue, typeInfo, Sem.run_bind, hi1, hi2]
    simp only [Option.map_none, Sem.run_bind, hz, Result.andThen_ok, Sem.run_pure, ← hl]
    cases c <;> rfl
  | some q =>
    rw [hi] at hl
    simp only [Option.map_some] at hl
    simp only [Option.map_some, Sem.run_pure, Result.andThen_ok, ← hl]
    cases c <;> rfl

def upd (f : α → Option Int) (k : α) (v : Int) : α → Option Int := fun x => if x = k then some v else f x
theorem find_nodup {m : List (α × Int)} (hn : (m.map (·.1)).Nodup) {j : Nat} {p : α × Int} (h : m[j]? = some p) : m.find? (fun q => decide (p.1 = q.1)) = some p := by
  induction m generalizing j with
  | nil => simp at h
  | cons q m ih =>
    simp only [List.map_cons, List.nodup_cons] at hn
    cases j with
    | zero => simp at h; subst h; simp
    | succ j =>
      have hm : m[j]? = some p := by simpa using h
      have hne : ¬ p.1 = q.1 := fun e => hn.1 (by rw [← e]; exact List.mem_map.2 ⟨p, List.mem_of_getElem? hm, rfl⟩)
      rw [List.find?_cons]
      simp only [hne, decide_false]
      exact ih hn.2 hm
theorem find_set {k : α} {v : Int} : ∀ {m : List (α × Int)} {j : Nat} {u : Int} (_ : m[j]? = some (k, u)) (_ : (m.map (·.1)).Nodup) (x : α),
    ((m.set j (k, v)).find? (fun p => decide (x = p.1))).map (·.2) = if x = k then some v else (m.find? (fun p => decide (x = p.1))).map (·.2)
  | [], j, u, h, _, x => by simp at h
  | q :: m, 0, u, h, hn, x => by
    simp only [List.getElem?_cons_zero, Option.some.injEq] at h
    subst h
    rw [List.set_cons_zero, List.find?_cons, List.find?_cons]
    by_cases e : x = k
    · simp [e]
    · simp [e]
  | q :: m, j + 1, u, h, hn, x => by
    simp only [List.getElem?_cons_succ] at h
    simp only [List.map_cons, List.nodup_cons] at hn
    rw [List.set_cons_succ, List.find?_cons, List.find?_cons]
    have ih := find_set (v := v) h hn.2 x
    by_cases e : x = q.1
    · have hne : ¬ x = k := fun e2 => hn.1 (by rw [← e, e2]; exact List.mem_map.2 ⟨_, List.mem_of_getElem? h, rfl⟩)
      simp only [e, decide_true, Option.map_some]
      rw [e] at hne
      rw [if_neg hne]
    · simp only [e, decide_false]
      exact ih

/-- m[k] = v -/
theorem KMap.update {P : Program} {mt kt et : TypeId} {cells : α → List Value} (F : KeyFit P kt cells) (ht : P.underlying mt = some (.map kt et)) {w : World} {b n : Nat} {f : α → Option Int}
    (h : KMap cells w b n f) (k : α) (v : Int) : ∃ w', (Instr.mapUpdate mt (.map (some b)) (.agg (cells k).toArray) (.int .i64 v)).run P w = .ok () w' ∧ KMap cells w' b (if (f k).isSome then n else n + 1) (upd f k v) ∧ Fr (oneB b) w w' ∧ w'.heap.size = w.heap.size := by
  obtain ⟨es, clock, m, hb, hent, hnd, hlen, hf⟩ := h
  have hfk := findKey_k F k w es m hent
  have hc := F.check k false w
  have hg : (getObj b).run P w = .ok (.map es clock) w := by simp [getObj, Sem.run, hb]
  have hset : ∀ o, (∃ es c, o = Obj.map es c) → (setObj b o).run P w = .ok () (setBlock w b o) := by
    rintro o ⟨es', c', rfl⟩
    simp [setObj, Sem.run, hb, setBlock]
  have hl := look_find k m
  rw [hf] at hl
  cases hi : look k m with
  | none =>
    rw [hi] at hl
    simp only [Option.map_none] at hl
    refine ⟨setBlock w b (.map (es.push { key := .agg (cells k).toArray, val := .int .i64 v, born := clock }) (clock + 1)), ?_, ⟨_, _, m ++ [(k, v)], setBlock_same hb _, ?_, ?_, ?_, ?_⟩, (Fr.refl (oneB b) w).setBlock (.inr (show oneB b b from rfl)) _, by simp [setBlock]⟩
    · unfold Instr.mapUpdate
      simp only [Sem.run_bind, run_underlying ht, Result.andThen_ok, hg]
      rw [hc]
      simp only [Result.andThen_ok]
      rw [hfk, hi]
      simp only [Result.andThen_ok, Option.map_none]
      exact hset _ ⟨_, _, rfl⟩
    · unfold EntsAre at *
      simp [hent]
    · rw [List.map_append, List.nodup_append]
      refine ⟨hnd, by simp, fun a ha c hc e => ?_⟩
      obtain ⟨p, hp, rfl⟩ := List.mem_map.1 ha
      have := look_none hi p hp
      simp at hc
      exact this (e.trans hc)
    · rw [List.length_append, hlen, ← hl]; rfl
    · intro x
      rw [List.find?_append]
      unfold upd
      have hx := hf x
      by_cases e : x = k
      · subst e
        rw [← hl] at hx
        rw [if_pos rfl]
        have : m.find? (fun p => decide (x = p.1)) = none := by
          cases hq : m.find? (fun p => decide (x = p.1)) with
          | none => rfl
          | some q => rw [hq] at hx; simp at hx
        simp [this]
      · rw [if_neg e, ← hx]
        cases hq : m.find? (fun p => decide (x = p.1)) with
        | none => simp [e]
        | some q => simp
  | some q =>
    obtain ⟨j, u⟩ := q
    obtain ⟨p, hp, hpk, hpu⟩ := look_lt hi
    have hpe : p = (k, u) := by rw [← hpk, ← hpu]
    subst hpe
    rw [hi] at hl
    simp only [Option.map_some] at hl
    have hej : ∃ e0, es[j]? = some e0 ∧ e0.key = .agg (cells k).toArray := by
      unfold EntsAre at hent
      have : (es.toList.map (fun e => (e.key, e.val)))[j]? = some (Value.agg (cells k).toArray, Value.int .i64 u) := by rw [hent, List.getElem?_map, hp]; rfl
      rw [List.getElem?_map] at this
      obtain ⟨e0, h0, h1⟩ := Option.map_eq_some_iff.1 this
      exact ⟨e0, by simpa using h0, by simp only [Prod.mk.injEq] at h1; exact h1.1⟩
    obtain ⟨e0, he0, hk0⟩ := hej
    refine ⟨setBlock w b (.map (es.modify j fun e => { e with key := .agg (cells k).toArray, val := .int .i64 v }) clock), ?_, ⟨_, _, m.set j (k, v), setBlock_same hb _, ?_, ?_, ?_, ?_⟩, (Fr.refl (oneB b) w).setBlock (.inr (show oneB b b from rfl)) _, by simp [setBlock]⟩
    · unfold Instr.mapUpdate
      simp only [Sem.run_bind, run_underlying ht, Result.andThen_ok, hg]
      rw [hc]
      simp only [Result.andThen_ok]
      rw [hfk, hi]
      simp only [Result.andThen_ok, Option.map_some, Sem.run_bind, he0, Option.getD_some, hk0]
      rw [stays_k F]
      simp only [Result.andThen_ok]
      exact hset _ ⟨_, _, rfl⟩
    · unfold EntsAre at *
      apply List.ext_getElem?
      intro i
      have hi2 := congrArg (fun l => l[i]?) hent
      simp only [List.getElem?_map, Array.getElem?_toList] at hi2
      simp only [List.getElem?_map, Array.getElem?_toList, Array.getElem?_modify, List.getElem?_set]
      by_cases e : j = i
      · subst e
        have hjl : j < m.length := (List.getElem?_eq_some_iff.1 hp).1
        simp [he0, hjl]
      · simp only [e, if_false]
        exact hi2
    · have : (m.set j (k, v)).map (·.1) = m.map (·.1) := by
        rw [List.map_set]
        apply List.ext_getElem?
        intro i
        rw [List.getElem?_set]
        by_cases e : j = i
        · subst e
          have hjl : j < m.length := (List.getElem?_eq_some_iff.1 hp).1
          have hje : m[j] = (k, u) := by have := List.getElem?_eq_getElem hjl; rw [hp] at this; exact (Option.some.inj this).symm
          simp [hjl, List.getElem?_map, hje]
        · simp [e]
      rw [this]; exact hnd
    · rw [List.length_set, hlen, ← hl]; rfl
    · intro x
      rw [find_set hp hnd x, hf x]
      rfl

/-- clear(m) -/
theorem KMap.clear {P : Program} {mt kt et ty : TypeId} {cells : α → List Value} (ht : P.underlying mt = some (.map kt et)) {w : World} {b n : Nat} {f : α → Option Int} (h : KMap cells w b n f) :
    ∃ w', (Builtin.clear_ #[mt] ty #[.map (some b)]).run P w = .ok (.tuple #[]) w' ∧ KMap cells w' b 0 (fun _ => none) ∧ Fr (oneB b) w w' ∧ w'.heap.size = w.heap.size := by
  obtain ⟨es, clock, m, hb, hent, hnd, hlen, hf⟩ := h
  have hg : (getObj b).run P w = .ok (.map es clock) w := by simp [getObj, Sem.run, hb]
  have hset : (setObj b (.map #[] clock)).run P w = .ok () (setBlock w b (.map #[] clock)) := by simp [setObj, Sem.run, hb, setBlock]
  refine ⟨setBlock w b (.map #[] clock), ?_, ⟨_, _, [], setBlock_same hb _, rfl, by simp, rfl, fun _ => rfl⟩, (Fr.refl (oneB b) w).setBlock (.inr (show oneB b b from rfl)) _, by simp [setBlock]⟩
  simp [Builtin.clear_, Sem.run_bind, run_underlying ht, hg, hset]

theorem find_erase {k : α} : ∀ {m : List (α × Int)} {j : Nat} {u : Int} (_ : m[j]? = some (k, u)) (_ : (m.map (·.1)).Nodup) (x : α),
    ((m.eraseIdx j).find? (fun p => decide (x = p.1))).map (·.2) = if x = k then none else (m.find? (fun p => decide (x = p.1))).map (·.2)
  | [], j, u, h, _, x => by simp at h
  | q :: m, 0, u, h, hn, x => by
    simp only [List.getElem?_cons_zero, Option.some.injEq] at h
    subst h
    simp only [List.map_cons, List.nodup_cons] at hn
    rw [List.eraseIdx_cons_zero, List.find?_cons]
    by_cases e : x = k
    · subst e
      have : m.find? (fun p => decide (x = p.1)) = none := by
        rw [List.find?_eq_none]
        intro p hp e
        exact hn.1 (List.mem_map.2 ⟨p, hp, (of_decide_eq_true e).symm⟩)
      simp [this]
    · simp [e]
  | q :: m, j + 1, u, h, hn, x => by
    simp only [List.getElem?_cons_succ] at h
    simp only [List.map_cons, List.nodup_cons] at hn
    rw [List.eraseIdx_cons_succ, List.find?_cons, List.find?_cons]
    have ih := find_erase h hn.2 x
    by_cases e : x = q.1
    · have hne : ¬ x = k := fun e2 => hn.1 (by rw [← e, e2]; exact List.mem_map.2 ⟨_, List.mem_of_getElem? h, rfl⟩)
      simp only [e, decide_true, Option.map_some]
      rw [e] at hne
      rw [if_neg hne]
    · simp only [e, decide_false]
      exact ih
def del (f : α → Option Int) (k : α) : α → Option Int := fun x => if x = k then none else f x
/-- delete(m, k) -/
theorem KMap.delete {P : Program} {mt kt et ty : TypeId} {cells : α → List Value} (F : KeyFit P kt cells) (ht : P.underlying mt = some (.map kt et)) {w : World} {b n : Nat} {f : α → Option Int}
    (h : KMap cells w b n f) (k : α) : ∃ w', (Builtin.delete_ #[mt, kt] ty #[.map (some b), .agg (cells k).toArray]).run P w = .ok (.tuple #[]) w' ∧ KMap cells w' b (if (f k).isSome then n - 1 else n) (del f k) ∧ Fr (oneB b) w w' ∧ w'.heap.size = w.heap.size := by
  obtain ⟨es, clock, m, hb, hent, hnd, hlen, hf⟩ := h
  have hfk := findKey_k F k w es m hent
  have hc := F.check k es.isEmpty w
  have hg : (getObj b).run P w = .ok (.map es clock) w := by simp [getObj, Sem.run, hb]
  have hset : ∀ o, (∃ es c, o = Obj.map es c) → (setObj b o).run P w = .ok () (setBlock w b o) := by
    rintro o ⟨es', c', rfl⟩
    simp [setObj, Sem.run, hb, setBlock]
  have hl := look_find k m
  rw [hf] at hl
  cases hi : look k m with
  | none =>
    rw [hi] at hl
    simp only [Option.map_none] at hl
    refine ⟨setBlock w b (.map es clock), ?_, ⟨_, _, m, setBlock_same hb _, hent, hnd, by rw [hlen, ← hl]; rfl, fun x => ?_⟩, (Fr.refl (oneB b) w).setBlock (.inr (show oneB b b from rfl)) _, by simp [setBlock]⟩
    · simp only [Builtin.delete_]
      simp only [List.getElem?_toArray, List.getElem?_cons_zero, List.getElem?_cons_succ, Sem.run_bind, run_underlying ht, Result.andThen_ok, hg]
      rw [hc]
      simp only [Result.andThen_ok]
      rw [hfk, hi]
      simp only [Result.andThen_ok, Option.map_none]
      rw [Sem.run_bind, hset _ ⟨_, _, rfl⟩]
      rfl
    · rw [hf x]
      unfold del
      by_cases e : x = k
      · subst e; rw [if_pos rfl, ← hl]
      · rw [if_neg e]
  | some q =>
    obtain ⟨j, u⟩ := q
    obtain ⟨p, hp, hpk, hpu⟩ := look_lt hi
    have hpe : p = (k, u) := by rw [← hpk, ← hpu]
    subst hpe
    rw [hi] at hl
    simp only [Option.map_some] at hl
    have hjl : j < m.length := (List.getElem?_eq_some_iff.1 hp).1
    refine ⟨setBlock w b (.map (es.eraseIdxIfInBounds j) clock), ?_, ⟨_, _, m.eraseIdx j, setBlock_same hb _, ?_, ?_, ?_, ?_⟩, (Fr.refl (oneB b) w).setBlock (.inr (show oneB b b from rfl)) _, by simp [setBlock]⟩
    · simp only [Builtin.delete_]
      simp only [List.getElem?_toArray, List.getElem?_cons_zero, List.getElem?_cons_succ, Sem.run_bind, run_underlying ht, Result.andThen_ok, hg]
      rw [hc]
      simp only [Result.andThen_ok]
      rw [hfk, hi]
      simp only [Result.andThen_ok, Option.map_some]
      rw [Sem.run_bind, hset _ ⟨_, _, rfl⟩]
      rfl
    · unfold EntsAre at *
      rw [Array.toList_eraseIdxIfInBounds, Go.ChangeMaps.map_eraseIdx, hent, Go.ChangeMaps.map_eraseIdx]
    · rw [Go.ChangeMaps.map_eraseIdx]
      exact hnd.sublist (List.eraseIdx_sublist _ _)
    · rw [List.length_eraseIdx, if_pos hjl, hlen, ← hl]; rfl
    · intro x
      rw [find_erase hp hnd x, hf x]
      rfl
theorem KMap.len {P : Program} {mt kt et ty : TypeId} {cells : α → List Value} (ht : P.underlying mt = some (.map kt et)) {w : World} {b n : Nat} {f : α → Option Int} (h : KMap cells w b n f) :
    (Builtin.len_ #[mt] ty #[.map (some b)]).run P w = .ok (.int .i64 n) w := by
  obtain ⟨es, clock, m, hb, hent, hnd, hlen, hf⟩ := h
  have hsz : es.size = n := by
    have := congrArg List.length hent
    simp only [List.length_map, Array.length_toList] at this
    omega
  simp [Builtin.len_, Sem.run_bind, run_underlying ht, getObj, Sem.run, hb, Builtin.lenOf, hsz]
  rfl
end

/-! ### At an operation -/
section
variable {α : Type} [DecidableEq α] {P : Program} {ops : Array Oper} {mt kt et : TypeId} {cells : α → List Value} {b n : Nat} {f : α → Option Int}
theorem wpMix_klookup {S : World → Prop} {Q : Act → World → Prop} {o : Oper} {rest : List Oper} {a : Act} {w : World} (hw : Region.wanted o (yielded ops a.tmps) = true) (m x : Operand) (c : Bool) (ho : o.op = .lookup mt m x c)
    (F : KeyFit P kt cells) (ht : P.underlying mt = some (.map kt et)) (he : (P.info? et).map (·.zero) = some (some (.int .i64 0))) (k : α) (hm : a.eval m = .map (some b)) (hx : a.eval x = .agg (cells k).toArray) (hk : ∀ w, S w → KMap cells w b n f)
    (v : Value) (hv : (if c then Value.tuple #[.int .i64 ((f k).getD 0), .bool (f k).isSome] else .int .i64 ((f k).getD 0)) = v)
    (h : wpMix P ops S Q rest (a.put o.dst v) w) : wpMix P ops S Q (o :: rest) a w := by
  subst hv
  unfold wpMix mOper
  rw [if_pos hw, if_pos (by rw [ho]; rfl)]
  refine ⟨_, fun w hw => ?_, h⟩
  unfold Oper.quietAt execOp
  simp only [ho, hm, hx, exec_v ((hk w hw).lookup F ht he k c)]
  exact ⟨rfl, rfl⟩
theorem wpQuiet_klookup {C : World → Prop} {Q : Act → Prop} {o : Oper} {rest : List Oper} {a : Act} (hg : o.guard = none) (m x : Operand) (c : Bool) (ho : o.op = .lookup mt m x c)
    (F : KeyFit P kt cells) (ht : P.underlying mt = some (.map kt et)) (he : (P.info? et).map (·.zero) = some (some (.int .i64 0))) (k : α) (hm : a.eval m = .map (some b)) (hx : a.eval x = .agg (cells k).toArray) (hk : ∀ w, C w → KMap cells w b n f)
    (v : Value) (hv : (if c then Value.tuple #[.int .i64 ((f k).getD 0), .bool (f k).isSome] else .int .i64 ((f k).getD 0)) = v)
    (h : wpQuiet P ops C Q rest (a.put o.dst v)) : wpQuiet P ops C Q (o :: rest) a := by
  subst hv
  unfold wpQuiet
  rw [if_pos (by simp [Region.wanted, hg])]
  refine ⟨_, fun w hw => ?_, h⟩
  unfold Oper.quietAt execOp
  simp only [ho, hm, hx, exec_v ((hk w hw).lookup F ht he k c)]
  exact ⟨rfl, rfl⟩
theorem wpList_klookup {Q : Exit → Act → World → Prop} {o : Oper} {rest : List Oper} {a : Act} {w : World} (hg : o.guard = none) (m x : Operand) (c : Bool) (ho : o.op = .lookup mt m x c)
    (F : KeyFit P kt cells) (ht : P.underlying mt = some (.map kt et)) (he : (P.info? et).map (·.zero) = some (some (.int .i64 0))) (k : α) (hm : a.eval m = .map (some b)) (hx : a.eval x = .agg (cells k).toArray) (hk : KMap cells w b n f)
    (v : Value) (hv : (if c then Value.tuple #[.int .i64 ((f k).getD 0), .bool (f k).isSome] else .int .i64 ((f k).getD 0)) = v)
    (h : wpList P ops Q rest (a.put o.dst v) w) : wpList P ops Q (o :: rest) a w :=
  wpList_plain hg fun _ hK => by
    unfold Oper.wp execOp
    simp only [ho, hm, hx]
    rw [exec_v (hk.lookup F ht he k c), hv]
    exact hK _ _ h
theorem wpMix_kupdate {S : World → Prop} {Q : Act → World → Prop} {o : Oper} {rest : List Oper} {a : Act} {w : World} (hw : Region.wanted o (yielded ops a.tmps) = true) (m x v : Operand) (ho : o.op = .mapUpdate mt m x v)
    (F : KeyFit P kt cells) (ht : P.underlying mt = some (.map kt et)) (k : α) (u : Int) (hm : a.eval m = .map (some b)) (hx : a.eval x = .agg (cells k).toArray) (hv : a.eval v = .int .i64 u) (hk : KMap cells w b n f)
    (h : ∀ w', KMap cells w' b (if (f k).isSome then n else n + 1) (upd f k u) → Fr (oneB b) w w' → w'.heap.size = w.heap.size → S w' ∧ wpMix P ops S Q rest (a.put o.dst undef) w') : wpMix P ops S Q (o :: rest) a w := by
  obtain ⟨w', hr, h1, h2, h3⟩ := hk.update F ht k u
  refine wpMix_spine hw (by rw [ho]; rfl) (fun K hK => ?_)
  unfold Oper.wp execOp
  simp only [ho, hm, hx, hv]
  rw [exec_u hr]
  exact hK _ _ (by cases o.dst <;> rfl) (h w' h1 h2 h3).1 (h w' h1 h2 h3).2
theorem wpList_kupdate {Q : Exit → Act → World → Prop} {o : Oper} {rest : List Oper} {a : Act} {w : World} (hg : o.guard = none) (m x v : Operand) (ho : o.op = .mapUpdate mt m x v)
    (F : KeyFit P kt cells) (ht : P.underlying mt = some (.map kt et)) (k : α) (u : Int) (hm : a.eval m = .map (some b)) (hx : a.eval x = .agg (cells k).toArray) (hv : a.eval v = .int .i64 u) (hk : KMap cells w b n f)
    (h : ∀ w', KMap cells w' b (if (f k).isSome then n else n + 1) (upd f k u) → Fr (oneB b) w w' → w'.heap.size = w.heap.size → wpList P ops Q rest (a.put o.dst undef) w') : wpList P ops Q (o :: rest) a w :=
  wpList_plain hg fun _ hK => by
    obtain ⟨w', hr, h1, h2, h3⟩ := hk.update F ht k u
    unfold Oper.wp execOp
    simp only [ho, hm, hx, hv]
    rw [exec_u hr]
    exact hK _ _ (h w' h1 h2 h3)
theorem wpList_kclear {Q : Exit → Act → World → Prop} {o : Oper} {rest : List Oper} {a : Act} {w : World} (hg : o.guard = none) (m : Operand) (ho : o.op = .call { callee := .builtin .clear, args := #[m], argTypes := #[mt] })
    (ht : P.underlying mt = some (.map kt et)) (hm : a.eval m = .map (some b)) (hk : KMap cells w b n f)
    (h : ∀ w', KMap cells w' b 0 (fun _ => none) → Fr (oneB b) w w' → w'.heap.size = w.heap.size → wpList P ops Q rest (a.put o.dst (.tuple #[])) w') : wpList P ops Q (o :: rest) a w :=
  wpList_plain hg fun _ hK => by
    obtain ⟨w', hr, h1, h2, h3⟩ := hk.clear (ty := o.type) ht
    unfold Oper.wp execOp
    simp only [ho, resolve, invoke, builtin, Sem.run_bind, Sem.run_pure, Result.andThen_ok, List.map_toArray, List.map_cons, List.map_nil, hm, hr]
    exact hK _ _ (h w' h1 h2 h3)
end
end Go.Proofs.Ytgjabgneapdbiaa

namespace Go.Proofs.Ytgjabgneapdbiaa
open Go.RowKit
open Go.ChangeMaps (setBlock)
set_option linter.unusedSimpArgs false
set_option linter.unusedVariables false

def Stamps (es : Array MapEntry) (clock : Nat) : Prop := (∀ e ∈ es.toList, e.born < clock) ∧ (es.toList.map (·.born)).Nodup
section
variable {α : Type} [DecidableEq α]
def KMapS (cells : α → List Value) (w : World) (b n : Nat) (f : α → Option Int) : Prop :=
  ∃ es clock m, w.heap[b]? = some (.map es clock) ∧ EntsAre cells es m ∧ (m.map (·.1)).Nodup ∧ m.length = n ∧ (∀ k, (m.find? (fun p => decide (k = p.1))).map (·.2) = f k) ∧ Stamps es clock
theorem KMapS.kmap {cells : α → List Value} {w : World} {b n : Nat} {f : α → Option Int} (h : KMapS cells w b n f) : KMap cells w b n f := by
  obtain ⟨es, c, m, h1, h2, h3, h4, h5, _⟩ := h
  exact ⟨es, c, m, h1, h2, h3, h4, h5⟩
theorem KMapS.lt {cells : α → List Value} {w : World} {b n : Nat} {f : α → Option Int} (h : KMapS cells w b n f) : b < w.heap.size := h.kmap.lt
theorem KMapS.fr {cells : α → List Value} {w w' : World} {b n : Nat} {f : α → Option Int} {S : Nat → Prop} (h : KMapS cells w b n f) (hf : Fr S w w') (hs : ¬ S b) : KMapS cells w' b n f := by
  have hl := h.lt
  obtain ⟨es, c, m, hb, r⟩ := h
  exact ⟨es, c, m, by rw [hf.same b hl hs]; exact hb, r⟩
theorem KMapS.new (cells : α → List Value) (w : World) : KMapS cells (w.alloc (.map #[] 0)) w.heap.size 0 (fun _ => none) :=
  ⟨#[], 0, [], by simp [← World.alloc_eq], by rfl, by simp, rfl, fun _ => rfl, by simp [Stamps]⟩
theorem KMapS.block {cells : α → List Value} {w w' : World} {b n : Nat} {f : α → Option Int} (h : KMapS cells w b n f) (hb : w'.heap[b]? = w.heap[b]?) : KMapS cells w' b n f := by
  obtain ⟨es, c, m, hb0, r⟩ := h
  exact ⟨es, c, m, hb.trans hb0, r⟩
theorem find_born {l : List MapEntry} (hn : (l.map (·.born)).Nodup) {j : Nat} {e0 : MapEntry} (h : l[j]? = some e0) : l.findIdx? (fun e => ((e.born : Nat) : Int) == ((e0.born : Nat) : Int)) = some j := by
  induction l generalizing j with
  | nil => simp at h
  | cons a r ih =>
    simp only [List.map_cons, List.nodup_cons] at hn
    cases j with
    | zero =>
      simp only [List.getElem?_cons_zero, Option.some.injEq] at h
      subst h
      simp [List.findIdx?_cons]
    | succ j =>
      simp only [List.getElem?_cons_succ] at h
      have hne : a.born ≠ e0.born := fun e1 => hn.1 (List.mem_map.2 ⟨e0, List.mem_of_getElem? h, e1.symm⟩)
      have hb : (((a.born : Nat) : Int) == ((e0.born : Nat) : Int)) = false := by
        simp only [beq_eq_false_iff_ne, ne_eq, Int.natCast_inj]
        exact hne
      rw [List.findIdx?_cons, hb]
      simp [ih hn.2 h]
/-- What is stored at a stamp. -/
theorem store_at {P : Program} {mt : TypeId} {cells : α → List Value} {b : Nat} {es : Array MapEntry} {clock : Nat} {m : List (α × Int)} {f : α → Option Int} (hent : EntsAre cells es m) (hnd : (m.map (·.1)).Nodup) (hf : ∀ k, (m.find? (fun p => decide (k = p.1))).map (·.2) = f k) (hst : Stamps es clock)
    {j : Nat} {k : α} {u : Int} (hm : m[j]? = some (k, u)) {e0 : MapEntry} (he : es[j]? = some e0) (w2 : World) (hw2 : w2.heap[b]? = some (.map es clock)) (v : Int) :
    ∃ w3, (Instr.entryStore mt (.map (some b)) (goInt e0.born) (.int .i64 v)).run P w2 = .ok () w3 ∧ KMapS cells w3 b m.length (upd f k v) ∧ Fr (oneB b) w2 w3 ∧ w3.heap.size = w2.heap.size := by
  have hjl : j < m.length := (List.getElem?_eq_some_iff.1 hm).1
  have hidx : es.findIdx? (fun e => ((e.born : Nat) : Int) == ((e0.born : Nat) : Int)) = some j := by
    have : es.findIdx? (fun e => ((e.born : Nat) : Int) == ((e0.born : Nat) : Int)) = es.toList.findIdx? (fun e => ((e.born : Nat) : Int) == ((e0.born : Nat) : Int)) := by cases es; simp
    rw [this]
    exact find_born hst.2 (by simpa using he)
  have hg : (getObj b).run P w2 = .ok (.map es clock) w2 := by simp [getObj, Sem.run, hw2]
  have hset : (setObj b (.map (es.modify j fun e => { e with val := .int .i64 v }) clock)).run P w2 = .ok () (setBlock w2 b (.map (es.modify j fun e => { e with val := .int .i64 v }) clock)) := by
    simp [setObj, Sem.run, hw2, setBlock]
  refine ⟨setBlock w2 b (.map (es.modify j fun e => { e with val := .int .i64 v }) clock), ?_, ⟨es.modify j fun e => { e with val := .int .i64 v }, clock, m.set j (k, v), setBlock_same hw2 _, ?_, ?_, by rw [List.length_set], ?_, ?_, ?_⟩, (Fr.refl (oneB b) w2).setBlock (.inr (show oneB b b from rfl)) _, by simp [setBlock]⟩
  · simp [Instr.entryStore, Sem.run_bind, hg, asInt, asIntOf, goInt, hidx, hset]
  · unfold EntsAre at *
    apply List.ext_getElem?
    intro i
    have hi2 := congrArg (fun l => l[i]?) hent
    simp only [List.getElem?_map, Array.getElem?_toList] at hi2
    simp only [List.getElem?_map, Array.getElem?_toList, Array.getElem?_modify, List.getElem?_set]
    by_cases e : j = i
    · subst e
      rw [he, hm] at hi2
      simp only [Option.map_some, Option.some.injEq, Prod.mk.injEq] at hi2
      simp [he, hjl, hi2.1]
    · simp only [e, if_false]
      exact hi2
  · have : (m.set j (k, v)).map (·.1) = m.map (·.1) := by
      rw [List.map_set]
      apply List.ext_getElem?
      intro i
      rw [List.getElem?_set]
      by_cases e : j = i
      · subst e
        have hje : m[j] = (k, u) := by have := List.getElem?_eq_getElem hjl; rw [hm] at this; exact (Option.some.inj this).symm
        simp [hjl, List.getElem?_map, hje]
      · simp [e]
    rw [this]; exact hnd
  · intro x
    rw [find_set hm hnd x, hf x]
    rfl
  · intro e hee
    obtain ⟨i, hi⟩ := List.getElem?_of_mem hee
    rw [Array.getElem?_toList, Array.getElem?_modify] at hi
    split at hi
    · obtain ⟨y, hy, rfl⟩ := Option.map_eq_some_iff.1 hi
      exact hst.1 y (List.mem_of_getElem? (by simpa using hy))
    · exact hst.1 e (List.mem_of_getElem? (by simpa using hi))
  · have : (es.modify j fun e => { e with val := .int .i64 v }).toList.map (·.born) = es.toList.map (·.born) := by
      apply List.ext_getElem?
      intro i
      simp only [List.getElem?_map, Array.getElem?_toList, Array.getElem?_modify]
      split
      · cases es[i]? <;> rfl
      · rfl
    rw [this]
    exact hst.2
/-- m[k] is there, and a stamp leads to it. -/
theorem KMapS.entry {P : Program} {mt kt et : TypeId} {cells : α → List Value} (F : KeyFit P kt cells) (ht : P.underlying mt = some (.map kt et)) (hz : (P.info? et).map (·.zero) = some (some (.int .i64 0))) {w : World} {b n : Nat} {f : α → Option Int}
    (h : KMapS cells w b n f) (k : α) : ∃ (v0 : Value) (st : Nat) (w1 : World), (Instr.mapEntry mt (.map (some b)) (.agg (cells k).toArray)).run P w = .ok (.tuple #[v0, goInt st]) w1 ∧ Fr (oneB b) w w1 ∧ w1.heap.size = w.heap.size ∧
      KMapS cells w1 b (if (f k).isSome then n else n + 1) (upd f k ((f k).getD 0)) ∧
      ∀ (w2 : World) (v : Int), w2.heap[b]? = w1.heap[b]? → ∃ w3, (Instr.entryStore mt (.map (some b)) (goInt st) (.int .i64 v)).run P w2 = .ok () w3 ∧ KMapS cells w3 b (if (f k).isSome then n else n + 1) (upd f k v) ∧ Fr (oneB b) w2 w3 ∧ w3.heap.size = w2.heap.size := by
  obtain ⟨es, clock, m, hb, hent, hnd, hlen, hf, hst⟩ := h
  have hfk := findKey_k F k w es m hent
  have hc := F.check k false w
  have hg : (getObj b).run P w = .ok (.map es clock) w := by simp [getObj, Sem.run, hb]
  have hset : ∀ o, (∃ es c, o = Obj.map es c) → (setObj b o).run P w = .ok () (setBlock w b o) := by
    rintro o ⟨es', c', rfl⟩
    simp [setObj, Sem.run, hb, setBlock]
  have hl := look_find k m
  rw [hf] at hl
  cases hi : look k m with
  | none =>
    rw [hi] at hl
    simp only [Option.map_none] at hl
    have hz' : (zeroValue et).run P w = .ok (.int .i64 0) w := by
      obtain ⟨i, hi1, hi2⟩ := Option.map_eq_some_iff.1 hz
      simp [zeroValue, typeInfo, Sem.run_bind, hi1, hi2]
    obtain ⟨es1, hes1⟩ : ∃ es1, es1 = es.push { key := .agg (cells k).toArray, val := .int .i64 0, born := clock } := ⟨_, rfl⟩
    have hsz : es.size = m.length := by
      have := congrArg List.length hent
      simpa using this
    have hent1 : EntsAre cells es1 (m ++ [(k, 0)]) := by subst hes1; unfold EntsAre at *; simp [hent]
    have hnd1 : ((m ++ [(k, (0 : Int))]).map (·.1)).Nodup := by
      rw [List.map_append, List.nodup_append]
      refine ⟨hnd, by simp, fun a ha c hc e => ?_⟩
      obtain ⟨p, hp, rfl⟩ := List.mem_map.1 ha
      have := look_none hi p hp
      simp at hc
      exact this (e.trans hc)
    have hf1 : ∀ x, ((m ++ [(k, (0 : Int))]).find? (fun p => decide (x = p.1))).map (·.2) = upd f k 0 x := by
      intro x
      rw [List.find?_append]
      unfold upd
      have hx := hf x
      by_cases e : x = k
      · subst e
        rw [← hl] at hx
        rw [if_pos rfl]
        have : m.find? (fun p => decide (x = p.1)) = none := by
          cases hq : m.find? (fun p => decide (x = p.1)) with
          | none => rfl
          | some q => rw [hq] at hx; simp at hx
        simp [this]
      · rw [if_neg e, ← hx]
        cases hq : m.find? (fun p => decide (x = p.1)) with
        | none => simp [e]
        | some q => simp
    have hst1 : Stamps es1 (clock + 1) := by
      subst hes1
      refine ⟨fun e he => ?_, ?_⟩
      · simp only [Array.toList_push, List.mem_append, List.mem_singleton] at he
        rcases he with he | rfl
        · have := hst.1 e he; omega
        · exact Nat.lt_succ_self _
      · simp only [Array.toList_push, List.map_append, List.map_cons, List.map_nil]
        refine List.nodup_append.2 ⟨hst.2, by simp, fun a ha c hc e1 => ?_⟩
        simp only [List.mem_singleton] at hc
        obtain ⟨x, hx, rfl⟩ := List.mem_map.1 ha
        have := hst.1 x hx
        omega
    have hle : (m ++ [(k, (0 : Int))]).length = n + 1 := by rw [List.length_append, hlen]; rfl
    have hk0 : (f k).getD 0 = 0 := by rw [← hl]; rfl
    have hks : (f k).isSome = false := by rw [← hl]; rfl
    have hup : ∀ v, upd (upd f k 0) k v = upd f k v := fun v => by funext x; unfold upd; split <;> rfl
    rw [hk0, hks]
    refine ⟨.int .i64 0, clock, setBlock w b (.map es1 (clock + 1)), ?_, (Fr.refl (oneB b) w).setBlock (.inr (show oneB b b from rfl)) _, by simp [setBlock], ⟨es1, clock + 1, _, setBlock_same hb _, hent1, hnd1, hle, hf1, hst1⟩, fun w2 v hw2 => ?_⟩
    · unfold Instr.mapEntry
      simp only [Sem.run_bind, run_underlying ht, Result.andThen_ok, hg]
      rw [hc]
      simp only [Result.andThen_ok]
      rw [hfk, hi]
      simp only [Result.andThen_ok, Option.map_none, Sem.run_bind, hz']
      rw [← hes1, hset _ ⟨_, _, rfl⟩]
      rfl
    · rw [setBlock_same hb] at hw2
      have he : es1[m.length]? = some { key := .agg (cells k).toArray, val := .int .i64 0, born := clock } := by subst hes1; rw [← hsz]; simp
      have := store_at (P := P) (mt := mt) hent1 hnd1 hf1 hst1 (j := m.length) (k := k) (u := 0) (by simp) he w2 hw2 v
      rw [hle, hup] at this
      exact this
  | some q =>
    obtain ⟨j, u⟩ := q
    obtain ⟨p, hp, hpk, hpu⟩ := look_lt hi
    have hpe : p = (k, u) := by rw [← hpk, ← hpu]
    subst hpe
    rw [hi] at hl
    simp only [Option.map_some] at hl
    have hej : ∃ e0, es[j]? = some e0 ∧ e0.key = .agg (cells k).toArray ∧ e0.val = .int .i64 u := by
      unfold EntsAre at hent
      have : (es.toList.map (fun e => (e.key, e.val)))[j]? = some (Value.agg (cells k).toArray, Value.int .i64 u) := by rw [hent, List.getElem?_map, hp]; rfl
      rw [List.getElem?_map] at this
      obtain ⟨e0, h0, h1⟩ := Option.map_eq_some_iff.1 this
      exact ⟨e0, by simpa using h0, by simp only [Prod.mk.injEq] at h1; exact h1⟩
    obtain ⟨e0, he0, hk0, hv0⟩ := hej
    have hsame : (es.modify j fun e => { e with key := .agg (cells k).toArray }) = es := by
      apply Array.ext_getElem?
      intro i
      rw [Array.getElem?_modify]
      split
      · rename_i e
        subst e
        rw [he0, Option.map_some, ← hk0]
      · rfl
    have hku : (f k).getD 0 = u := by rw [← hl]; rfl
    have hks : (f k).isSome = true := by rw [← hl]; rfl
    have hup : upd f k u = f := by
      funext x; unfold upd
      by_cases e : x = k
      · subst e; rw [if_pos rfl, ← hl]
      · rw [if_neg e]
    rw [hku, hks]
    refine ⟨.int .i64 u, e0.born, setBlock w b (.map es clock), ?_, (Fr.refl (oneB b) w).setBlock (.inr (show oneB b b from rfl)) _, by simp [setBlock], ⟨es, clock, m, setBlock_same hb _, hent, hnd, hlen, by rw [hup]; exact hf, hst⟩, fun w2 v hw2 => ?_⟩
    · unfold Instr.mapEntry
      simp only [Sem.run_bind, run_underlying ht, Result.andThen_ok, hg]
      rw [hc]
      simp only [Result.andThen_ok]
      rw [hfk, hi]
      simp only [Result.andThen_ok, Option.map_some, Sem.run_bind, he0, Option.getD_some, hk0]
      rw [stays_k F]
      simp only [Result.andThen_ok, hsame]
      rw [hset _ ⟨_, _, rfl⟩]
      rfl
    · rw [setBlock_same hb] at hw2
      have := store_at (P := P) (mt := mt) hent hnd hf hst hp he0 w2 hw2 v
      rw [hlen] at this
      exact this
/-- delete(m, k) -/
theorem KMapS.delete {P : Program} {mt kt et ty : TypeId} {cells : α → List Value} (F : KeyFit P kt cells) (ht : P.underlying mt = some (.map kt et)) {w : World} {b n : Nat} {f : α → Option Int}
    (h : KMapS cells w b n f) (k : α) : ∃ w', (Builtin.delete_ #[mt, kt] ty #[.map (some b), .agg (cells k).toArray]).run P w = .ok (.tuple #[]) w' ∧ KMapS cells w' b (if (f k).isSome then n - 1 else n) (del f k) ∧ Fr (oneB b) w w' ∧ w'.heap.size = w.heap.size := by
  obtain ⟨es, clock, m, hb, hent, hnd, hlen, hf, hst⟩ := h
  have hfk := findKey_k F k w es m hent
  have hc := F.check k es.isEmpty w
  have hg : (getObj b).run P w = .ok (.map es clock) w := by simp [getObj, Sem.run, hb]
  have hset : ∀ o, (∃ es c, o = Obj.map es c) → (setObj b o).run P w = .ok () (setBlock w b o) := by
    rintro o ⟨es', c', rfl⟩
    simp [setObj, Sem.run, hb, setBlock]
  have hl := look_find k m
  rw [hf] at hl
  cases hi : look k m with
  | none =>
    rw [hi] at hl
    simp only [Option.map_none] at hl
    refine ⟨setBlock w b (.map es clock), ?_, ⟨_, _, m, setBlock_same hb _, hent, hnd, by rw [hlen, ← hl]; rfl, fun x => ?_, hst⟩, (Fr.refl (oneB b) w).setBlock (.inr (show oneB b b from rfl)) _, by simp [setBlock]⟩
    · simp only [Builtin.delete_]
      simp only [List.getElem?_toArray, List.getElem?_cons_zero, List.getElem?_cons_succ, Sem.run_bind, run_underlying ht, Result.andThen_ok, hg]
      rw [hc]
      simp only [Result.andThen_ok]
      rw [hfk, hi]
      simp only [Result.andThen_ok, Option.map_none]
      rw [Sem.run_bind, hset _ ⟨_, _, rfl⟩]
      rfl
    · rw [hf x]
      unfold del
      by_cases e : x = k
      · subst e; rw [if_pos rfl, ← hl]
      · rw [if_neg e]
  | some q =>
    obtain ⟨j, u⟩ := q
    obtain ⟨p, hp, hpk, hpu⟩ := look_lt hi
    have hpe : p = (k, u) := by rw [← hpk, ← hpu]
    subst hpe
    rw [hi] at hl
    simp only [Option.map_some] at hl
    have hjl : j < m.length := (List.getElem?_eq_some_iff.1 hp).1
    refine ⟨setBlock w b (.map (es.eraseIdxIfInBounds j) clock), ?_, ⟨_, _, m.eraseIdx j, setBlock_same hb _, ?_, ?_, ?_, ?_, ?_⟩, (Fr.refl (oneB b) w).setBlock (.inr (show oneB b b from rfl)) _, by simp [setBlock]⟩
    · simp only [Builtin.delete_]
      simp only [List.getElem?_toArray, List.getElem?_cons_zero, List.getElem?_cons_succ, Sem.run_bind, run_underlying ht, Result.andThen_ok, hg]
      rw [hc]
      simp only [Result.andThen_ok]
      rw [hfk, hi]
      simp only [Result.andThen_ok, Option.map_some]
      rw [Sem.run_bind, hset _ ⟨_, _, rfl⟩]
      rfl
    · unfold EntsAre at *
      rw [Array.toList_eraseIdxIfInBounds, Go.ChangeMaps.map_eraseIdx, hent, Go.ChangeMaps.map_eraseIdx]
    · rw [Go.ChangeMaps.map_eraseIdx]
      exact hnd.sublist (List.eraseIdx_sublist _ _)
    · rw [List.length_eraseIdx, if_pos hjl, hlen, ← hl]; rfl
    · intro x
      rw [find_erase hp hnd x, hf x]
      rfl
    · refine ⟨fun e he => hst.1 e ?_, ?_⟩
      · rw [Array.toList_eraseIdxIfInBounds] at he
        exact List.mem_of_mem_eraseIdx he
      · rw [Array.toList_eraseIdxIfInBounds, Go.ChangeMaps.map_eraseIdx]
        exact hst.2.sublist (List.eraseIdx_sublist _ _)
end
end Go.Proofs.Ytgjabgneapdbiaa

/- copy over rows of elements of any size, in blocks known whole; append of zero values; clear. -/
import Derived.Test.YtgjabgneapdbiaaStep
import Derived.Lib.Overlaps
import Derived.Lib.AppendZerosOnto
namespace Go.Proofs.Ytgjabgneapdbiaa
open Go.RowKit
set_option linter.unusedSimpArgs false
set_option linter.unusedVariables false
section
variable {P : Program}
theorem run_copyN (w : World) (dT sT ty elem : TypeId) (g o dLen dCap : Nat) (b so sLen sCap : Nat) (cur : List Value) (t : TypeId) (cs : List Value) (N : Nat)
    (hu : P.underlying dT = some (.slice elem)) (hs : (P.info? elem).map (·.size) = some N) (hg : Blk w g cur.toArray t) (hn : cs.length = Nat.min sLen dLen * N) (hsrc : CellsAt w b so cs)
    (hfit : o + cs.length ≤ cur.length) (h1 : ∀ v ∈ cs, v.oneCell' = true) :
    (Builtin.copy_ #[dT, sT] ty #[.slice (some ⟨g, o, none⟩) dLen dCap, .slice (some ⟨b, so, none⟩) sLen sCap]).run P w = .ok (goInt (Nat.min sLen dLen)) (w.setRow g (cur.take o ++ cs ++ cur.drop (o + cs.length)).toArray) := by
  have hl := run_loadCells_list (P := P) w ⟨b, so, none⟩ cs (fun j v hv => by rw [Addr.add_lit]; exact hsrc j v hv)
  have hst := run_storeCells_at P g o t cs 0 cur.toArray w hg (by simpa using hfit) h1
  cases hq : P.info? elem with
  | none => simp [hq] at hs
  | some i =>
    have hi : i.size = N := by simpa [hq] using hs
    simp only [Nat.add_zero] at hst
    simp [Builtin.copy_, run_underlying hu, Builtin.lenOf, Builtin.firstCells, sizeOf, typeInfo, hq, hi, ← hn, hl, hst]
theorem wpList_copyN {ops : Array Oper} {rest : List Oper} {o : Oper} {a : Act} {w : World} {Q : Exit → Act → World → Prop} (hgd : o.guard = none) (d s : Operand) (dT sT elem : TypeId) (ho : o.op = .call { callee := .builtin .copy, args := #[d, s], argTypes := #[dT, sT] })
    (g of dLen dCap : Nat) (b so sLen sCap : Nat) (hd : a.eval d = .slice (some ⟨g, of, none⟩) dLen dCap) (hx : a.eval s = .slice (some ⟨b, so, none⟩) sLen sCap) (cur : List Value) (t : TypeId) (cs : List Value) (N : Nat)
    (hu : P.underlying dT = some (.slice elem)) (hs : (P.info? elem).map (·.size) = some N) (hg : Blk w g cur.toArray t) (hn : cs.length = Nat.min sLen dLen * N) (hsrc : CellsAt w b so cs)
    (hfit : of + cs.length ≤ cur.length) (h1 : ∀ v ∈ cs, v.oneCell' = true)
    (h : wpList P ops Q rest (a.put o.dst (goInt (Nat.min sLen dLen))) (w.setRow g (cur.take of ++ cs ++ cur.drop (of + cs.length)).toArray)) : wpList P ops Q (o :: rest) a w :=
  wpList_plain hgd fun _ hK => by
    unfold Oper.wp execOp
    simp only [ho, resolve, invoke, builtin, Sem.run_bind, Sem.run_pure, Result.andThen_ok, List.map_toArray, List.map_cons, List.map_nil, hd, hx, run_copyN w dT sT o.type elem g of dLen dCap b so sLen sCap cur t cs N hu hs hg hn hsrc hfit h1]
    exact hK _ _ h
theorem run_clearN (w : World) (t e ty : TypeId) (z : Value) (N : Nat) (ht : P.underlying t = some (.slice e)) (hinfo : (P.info? e).map (fun i => (i.zero, i.size)) = some (some z, N)) (g o n c : Nat) (hn : 0 < n) (cur : List Value) (et : TypeId) (hg : Blk w g cur.toArray et)
    (cs : List Value) (hcs : (Builtin.zeroCells z.cells n).toList = cs) (hfit : o + cs.length ≤ cur.length) (h1 : ∀ v ∈ cs, v.oneCell' = true) :
    (Builtin.clear_ #[t] ty #[.slice (some ⟨g, o, none⟩) n c]).run P w = .ok (.tuple #[]) (w.setRow g (cur.take o ++ cs ++ cur.drop (o + cs.length)).toArray) := by
  have hst := run_storeCells_at P g o et cs 0 cur.toArray w hg (by simpa using hfit) h1
  obtain ⟨i, hi, hi2⟩ := Option.map_eq_some_iff.1 hinfo
  simp only [Prod.mk.injEq] at hi2
  obtain ⟨hz, rfl⟩ := hi2
  simp only [Nat.add_zero] at hst
  cases n with
  | zero => omega
  | succ n => simp [Builtin.clear_, run_underlying ht, zeroValue, typeInfo, hi, hz, hcs, hst]
theorem wpList_clearN {ops : Array Oper} {rest : List Oper} {o : Oper} {a : Act} {w : World} {Q : Exit → Act → World → Prop} (hgd : o.guard = none) (d : Operand) (t e : TypeId) (ho : o.op = .call { callee := .builtin .clear, args := #[d], argTypes := #[t] })
    (g of n c : Nat) (hd : a.eval d = .slice (some ⟨g, of, none⟩) n c) (z : Value) (N : Nat) (ht : P.underlying t = some (.slice e)) (hinfo : (P.info? e).map (fun i => (i.zero, i.size)) = some (some z, N)) (hn : 0 < n) (cur : List Value) (et : TypeId) (hg : Blk w g cur.toArray et)
    (cs : List Value) (hcs : (Builtin.zeroCells z.cells n).toList = cs) (hfit : of + cs.length ≤ cur.length) (h1 : ∀ v ∈ cs, v.oneCell' = true)
    (h : wpList P ops Q rest (a.put o.dst (.tuple #[])) (w.setRow g (cur.take of ++ cs ++ cur.drop (of + cs.length)).toArray)) : wpList P ops Q (o :: rest) a w :=
  wpList_plain hgd fun _ hK => by
    unfold Oper.wp execOp
    simp only [ho, resolve, invoke, builtin, Sem.run_bind, Sem.run_pure, Result.andThen_ok, List.map_toArray, List.map_cons, List.map_nil, hd, run_clearN w t e o.type z N ht hinfo g of n c hn cur et hg cs hcs hfit h1]
    exact hK _ _ h
/-- append where there is room. -/
theorem wpList_append_roomN {ops : Array Oper} {rest : List Oper} {o : Oper} {a : Act} {w : World} {Q : Exit → Act → World → Prop} (hgd : o.guard = none) (x y : Operand) (t e : TypeId) (ho : o.op = .call { callee := .builtin .append, args := #[x, y], argTypes := #[t, t] })
    (ht : P.underlying t = some (.slice e)) (N : Nat) (hs : (P.info? e).map (·.size) = some N) (g m c : Nat) (hx : a.eval x = .slice (some ⟨g, 0, none⟩) m c) (b so k kc : Nat) (hy : a.eval y = .slice (some ⟨b, so, none⟩) k kc)
    (cur : List Value) (hg : Blk w g cur.toArray e) (news : List Value) (hl : news.length = k * N) (hsrc : CellsAt w b so news) (h1 : ∀ u ∈ news, u.oneCell' = true) (hroom : m + k ≤ c) (hfit : m * N + news.length ≤ cur.length)
    (h : wpList P ops Q rest (a.put o.dst (.slice (some ⟨g, 0, none⟩) (m + k) c)) (w.setRow g (cur.take (m * N) ++ news ++ cur.drop (m * N + news.length)).toArray)) : wpList P ops Q (o :: rest) a w :=
  wpList_plain hgd fun _ hK => by
    obtain ⟨i0, hi0, rfl⟩ := Option.map_eq_some_iff.1 hs
    have hr := run_append_room (P := P) w t o.type e i0 ht hi0 g m c cur.toArray hg ⟨b, so, none⟩ k kc news hl (fun j u hj => by rw [Addr.add_lit]; exact hsrc j u hj) h1 hroom (by simpa using hfit)
    unfold Oper.wp execOp
    simp only [ho, resolve, invoke, builtin, Sem.run_bind, Sem.run_pure, Result.andThen_ok, List.map_toArray, List.map_cons, List.map_nil, hx, hy, hr]
    exact hK _ _ h
/-- append(s[:i], make([]T, k)...) without room. -/
theorem wpList_append_zeros {ops : Array Oper} {rest : List Oper} {o : Oper} {a : Act} {w : World} {Q : Exit → Act → World → Prop} (hgd : o.guard = none) (x y : Operand) (t tn e : TypeId) (ho : o.op = .call { callee := .builtin .append, args := #[x, y], argTypes := #[t, tn] })
    (ht : P.underlying t = some (.slice e)) (kn : IntKind) (htn : P.underlying tn = some (.int kn)) (z : Value) (N bytes : Nat) (hinfo : (P.info? e).map (fun i => (i.zero, i.size, i.bytes)) = some (some z, N, bytes)) (hzs : z.cells.size = N) (hN : 0 < N)
    (b i c : Nat) (hx : a.eval x = .slice (some ⟨b, 0, none⟩) i c) (k : Nat) (hy : a.eval y = .int .i64 k) (olds : List Value) (hol : olds.length = i * N) (hold : CellsAt w b 0 olds) (h0 : 0 < k) (hg : c < i + k) (h63 : i + k ≤ maxLen) (hby : (i + k) * bytes ≤ 140737488355328)
    (h : ∀ (G : Nat) (Z : List Value), i + k ≤ G → G ≤ maxLen → Z.length = (G - i) * N → wpList P ops Q rest (a.put o.dst (.slice (some ⟨w.heap.size, 0, none⟩) (i + k) G)) (w.drew.alloc (.cells (olds ++ Z).toArray e))) : wpList P ops Q (o :: rest) a w :=
  wpList_plain hgd fun _ hK => by
    obtain ⟨i0, hi0, hi2⟩ := Option.map_eq_some_iff.1 hinfo
    simp only [Prod.mk.injEq] at hi2
    obtain ⟨hz, rfl, rfl⟩ := hi2
    have hf := run_firstCells_some (P := P) w.drew i0.size i ⟨b, 0, none⟩ i c olds hol (fun j v hv => by rw [Addr.add_lit]; exact hold j v hv)
    have h48 : k * i0.bytes ≤ 281474976710656 := by
      have : k * i0.bytes ≤ (i + k) * i0.bytes := Nat.mul_le_mul_right _ (by omega)
      omega
    have hr := Lib.run_append_grow_zeros w t tn o.type e i0 z .i64 kn ht htn hi0 hz (some ⟨b, 0, none⟩) i c olds hf k h0 hN hg (by simp only [maxLen] at h63; omega) h48 (growslice_fits hg hby)
    unfold Oper.wp execOp
    simp only [ho, resolve, invoke, builtin, Sem.run_bind, Sem.run_pure, Result.andThen_ok, List.map_toArray, List.map_cons, List.map_nil, hx, hy, hr]
    have hge := grownCap_ge w (i + k) c e
    have hle := grownCap_le_maxLen w (i + k) c e h63
    have hh := h (grownCap w (i + k) c e) ((Builtin.zeroCells z.cells k).toList ++ (Builtin.zeroCells z.cells (grownCap w (i + k) c e - (i + k))).toList) hge hle (by
      rw [List.length_append, Array.length_toList, Array.length_toList, size_zeroCells, size_zeroCells, hzs, ← Nat.add_mul]
      congr 1
      omega)
    have ea : (olds ++ ((Builtin.zeroCells z.cells k).toList ++ (Builtin.zeroCells z.cells (grownCap w (i + k) c e - (i + k))).toList)).toArray = olds.toArray ++ Builtin.zeroCells z.cells k ++ Builtin.zeroCells z.cells (grownCap w (i + k) c e - (i + k)) := by simp
    rw [ea] at hh
    exact hK _ _ hh
end
section
variable {α : Type} {N : Nat} {cells : α → List Value}
theorem flat_take (hN : ∀ x, (cells x).length = N) (l : List α) (junk : List Value) (k : Nat) (hk : k ≤ l.length) : (l.flatMap cells ++ junk).take (k * N) = (l.take k).flatMap cells := by
  have h : l.flatMap cells = (l.take k).flatMap cells ++ (l.drop k).flatMap cells := by rw [← List.flatMap_append, List.take_append_drop]
  have hl : ((l.take k).flatMap cells).length = k * N := by rw [flat_length hN, List.length_take, Nat.min_eq_left hk]
  rw [h, List.append_assoc, ← hl, List.take_left]
theorem flat_drop (hN : ∀ x, (cells x).length = N) (l : List α) (junk : List Value) (k : Nat) (hk : k ≤ l.length) : (l.flatMap cells ++ junk).drop (k * N) = (l.drop k).flatMap cells ++ junk := by
  have h : l.flatMap cells = (l.take k).flatMap cells ++ (l.drop k).flatMap cells := by rw [← List.flatMap_append, List.take_append_drop]
  have hl : ((l.take k).flatMap cells).length = k * N := by rw [flat_length hN, List.length_take, Nat.min_eq_left hk]
  rw [h, List.append_assoc, ← hl, List.drop_left]
theorem flat_drop2 (hN : ∀ x, (cells x).length = N) (l : List α) (junk : List Value) (k : Nat) : (l.flatMap cells ++ junk).drop ((l.length + k) * N) = junk.drop (k * N) := by
  have hl := flat_length hN l
  rw [Nat.add_mul, ← hl, ← List.drop_drop, List.drop_left]
theorem flat_mem (h1 : ∀ x, ∀ u ∈ cells x, u.oneCell' = true) (l : List α) : ∀ u ∈ l.flatMap cells, u.oneCell' = true := fun u hu => by
  obtain ⟨x, _, hx⟩ := List.mem_flatMap.1 hu
  exact h1 x u hx
theorem cells_part {w : World} {g o : Nat} {cs : List Value} (h : CellsAt w g o cs) (k : Nat) : CellsAt w g (o + k) (cs.drop k) := fun j v hj => by
  rw [Nat.add_assoc]
  exact h (k + j) v (by rwa [List.getElem?_drop] at hj)
theorem cells_pre {w : World} {g o : Nat} {cs ds : List Value} (h : CellsAt w g o (cs ++ ds)) : CellsAt w g o cs := fun j v hj => h j v (by rw [List.getElem?_append_left (List.getElem?_eq_some_iff.1 hj).1]; exact hj)
/-- The rows from k on. -/
theorem blk_from (hN : ∀ x, (cells x).length = N) {w : World} {g : Nat} {l : List α} {junk : List Value} {t : TypeId} (h : Blk w g (l.flatMap cells ++ junk).toArray t) (k : Nat) (hk : k ≤ l.length) : CellsAt w g (k * N) ((l.drop k).flatMap cells) := by
  have h1 := cells_part (Blk.cells h) (k * N)
  rw [flat_drop hN l junk k hk, Nat.zero_add] at h1
  exact cells_pre h1
/-- The rows ahead of k. -/
theorem blk_to (hN : ∀ x, (cells x).length = N) {w : World} {g : Nat} {l : List α} {junk : List Value} {t : TypeId} (h : Blk w g (l.flatMap cells ++ junk).toArray t) (k : Nat) (hk : k ≤ l.length) : CellsAt w g 0 ((l.take k).flatMap cells) := by
  have h1 := Blk.cells h
  rw [← List.take_append_drop (k * N) (l.flatMap cells ++ junk), flat_take hN l junk k hk] at h1
  exact cells_pre h1
end
end Go.Proofs.Ytgjabgneapdbiaa

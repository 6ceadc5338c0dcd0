/- Slices of the call's own: the block is known whole; append, stores into elements. -/
import Derived.Test.YtgjabgneapdbiaaMix
namespace Go.Proofs.Ytgjabgneapdbiaa
open Go.RowKit
set_option linter.unusedSimpArgs false
set_option linter.unusedVariables false

/-- A slice that is nil, or lies at the head of a block that is known whole: its elements, and what stands behind them. -/
def OwnL {α : Type} (w : World) (e : TypeId) (N : Nat) (cells : α → List Value) (s : SlV) (xs : List α) : Prop :=
  s.len = xs.length ∧ ((s = ⟨none, 0, 0⟩) ∨ ∃ (g : Nat) (junk : List Value), s.a = some ⟨g, 0, none⟩ ∧ Blk w g (xs.flatMap cells ++ junk).toArray e ∧ (xs.flatMap cells ++ junk).length = s.cap * N ∧ s.len ≤ s.cap ∧ s.cap ≤ maxLen)
/-- The block of a slice. -/
def ownB (s : SlV) : Nat → Prop := fun b => ∃ a, s.a = some a ∧ a.block = b

section
variable {α : Type} {w : World} {e : TypeId} {N : Nat} {cells : α → List Value} {s : SlV} {xs : List α}

theorem OwnL.nil (w : World) (e : TypeId) (N : Nat) (cells : α → List Value) : OwnL w e N cells ⟨none, 0, 0⟩ ([] : List α) := ⟨rfl, .inl rfl⟩
theorem OwnL.le (h : OwnL w e N cells s xs) : xs.length ≤ maxLen := by
  obtain ⟨h1, h2⟩ := h
  rcases h2 with rfl | ⟨g, junk, _, _, _, h3, h4⟩
  · rw [← h1]; exact Nat.zero_le _
  · rw [← h1]; exact Nat.le_trans h3 h4
theorem OwnL.slof (h : OwnL w e N cells s xs) (hN : ∀ x, (cells x).length = N) {ok : α → Prop} (hok : ∀ x ∈ xs, ok x) : SlOf w N cells ok s xs := by
  have hle := h.le
  obtain ⟨h1, h2⟩ := h
  rcases h2 with rfl | ⟨g, junk, ha, hb, _, _, _⟩
  · have : xs = [] := List.eq_nil_of_length_eq_zero h1.symm
    exact ⟨h1, Nat.zero_le _, .inl this⟩
  · obtain ⟨a, len, cap⟩ := s
    simp only at ha h1
    subst ha; subst h1
    exact slof_blk hN hb hok cap hle
theorem OwnL.lt (h : OwnL w e N cells s xs) : ∀ b, ownB s b → b < w.heap.size := by
  rintro b ⟨a, ha, rfl⟩
  obtain ⟨h1, h2⟩ := h
  rcases h2 with rfl | ⟨g, junk, ha', hb, _⟩
  · simp at ha
  · rw [ha] at ha'
    obtain rfl := Option.some.inj ha'
    exact hb.lt
theorem OwnL.fr {S : Nat → Prop} {w' : World} (h : OwnL w e N cells s xs) (f : Fr S w w') (hs : ∀ b, ownB s b → ¬ S b) : OwnL w' e N cells s xs := by
  obtain ⟨h1, h2⟩ := h
  refine ⟨h1, ?_⟩
  rcases h2 with h2 | ⟨g, junk, ha, hb, r⟩
  · exact .inl h2
  · exact .inr ⟨g, junk, ha, hb.fr f (hs g ⟨_, ha, rfl⟩), r⟩
theorem OwnL.nilcap (h : OwnL w e N cells s xs) (ha : s.a = none) : s = ⟨none, 0, 0⟩ := by
  obtain ⟨h1, h2⟩ := h
  rcases h2 with h2 | ⟨g, junk, ha', _⟩
  · exact h2
  · rw [ha] at ha'; simp at ha'

/-- What append comes to, on a slice of the call's own. -/
theorem run_append_rows {P : Program} {t ty : TypeId} (ht : P.underlying t = some (.slice e)) (z : Value) (bytes : Nat) (hinfo : (P.info? e).map (fun i => (i.zero, i.size, i.bytes)) = some (some z, N, bytes)) (hzs : z.cells.size = N) (hNp : 0 < N)
    (hN : ∀ x, (cells x).length = N) (h1c : ∀ x, ∀ u ∈ cells x, u.oneCell' = true) (hown : OwnL w e N cells s xs) {ok : α → Prop} {q : SlV} {ys : List α} (hq : SlOf w N cells ok q ys) (hnil : q.a = none → q.cap = 0)
    (hm : xs.length + ys.length ≤ maxLen) (hbytes : (xs.length + ys.length) * bytes ≤ 140737488355328) :
    ∃ s' w', (Builtin.append_ #[t, t] ty #[.slice s.a s.len s.cap, .slice q.a q.len q.cap]).run P w = .ok (.slice s'.a s'.len s'.cap) w' ∧ OwnL w' e N cells s' (xs ++ ys) ∧ Fr (ownB s) w w' ∧
      ((s'.a = s.a ∧ w'.heap.size = w.heap.size) ∨ (∃ g', s'.a = some ⟨g', 0, none⟩ ∧ w.heap.size ≤ g' ∧ Fr noB w w')) := by
  obtain ⟨i, hi, hi2⟩ := Option.map_eq_some_iff.1 hinfo
  simp only [Prod.mk.injEq] at hi2
  obtain ⟨hz, rfl, rfl⟩ := hi2
  have hlx := hown.1
  obtain ⟨hly, _, hq2⟩ := hq
  have hsmall : xs.length + ys.length ≤ 9223372036854775807 := by simp only [maxLen] at hm; omega
  -- a nil source
  cases hqa : q.a with
  | none =>
    have hq0 : ys = [] := by
      rcases hq2 with h | ⟨b, o, h, _⟩
      · exact h
      · rw [hqa] at h; simp at h
    subst hq0
    have hlen0 : q.len = 0 := hly
    rw [hlen0, hnil hqa, List.append_nil]
    refine ⟨s, w, ?_, hown, Fr.refl _ _, .inl ⟨rfl, rfl⟩⟩
    rcases hown.2 with rfl | ⟨g, junk, ha, hb, _, hle, _⟩
    · simp [Builtin.append_, run_underlying ht, sizeOf, typeInfo, hi, Builtin.lenOf, Builtin.firstCells, loadCells, loadCellsFrom]
    · simp [Builtin.append_, run_underlying ht, sizeOf, typeInfo, hi, Builtin.lenOf, Builtin.firstCells, loadCells, loadCellsFrom, ha, hle, storeCells]
  | some ad =>
    have hnews : ∀ j u, (ys.flatMap cells)[j]? = some u → w.cell? (ad.add j) = some u := by
      intro j u hu
      rcases hq2 with h | ⟨b, o, h, hb, hc⟩
      · subst h; simp at hu
      · rw [hqa] at h
        obtain rfl := Option.some.inj h
        have hj : j < ys.length * i.size := by rw [← flat_length hN]; exact (List.getElem?_eq_some_iff.1 hu).1
        have hk : j / i.size < ys.length := Nat.div_lt_of_lt_mul (by rw [Nat.mul_comm]; exact hj)
        have hx : ys[j / i.size]? = some ys[j / i.size] := List.getElem?_eq_getElem hk
        have hr : j % i.size < i.size := Nat.mod_lt _ hNp
        have he : j / i.size * i.size + j % i.size = j := by rw [Nat.mul_comm]; exact Nat.div_add_mod j i.size
        have hg := flat_get hN [] ys (j / i.size) _ (j % i.size) hx hr
        rw [he, List.append_nil, hu] at hg
        have := (hc _ _ hx).1 (j % i.size) u hg.symm
        rw [Addr.add_lit, show o + j = o + j / i.size * i.size + j % i.size by omega]
        exact this
    have h1 : ∀ u ∈ ys.flatMap cells, u.oneCell' = true := fun u hu => by
      obtain ⟨x, _, hx⟩ := List.mem_flatMap.1 hu
      exact h1c x u hx
    have hlen : (ys.flatMap cells).length = q.len * i.size := by rw [flat_length hN, hly]
    have hflat : (xs ++ ys).flatMap cells = xs.flatMap cells ++ ys.flatMap cells := List.flatMap_append
    have grown : ∀ (old c : Nat), old < xs.length + ys.length → c = grownCap w (xs.length + ys.length) old e →
        OwnL (w.drew.alloc (.cells ((xs.flatMap cells).toArray ++ (ys.flatMap cells).toArray ++ Builtin.zeroCells z.cells (c - (xs.length + ys.length))) e)) e i.size cells ⟨some ⟨w.heap.size, 0, none⟩, xs.length + ys.length, c⟩ (xs ++ ys) := by
      intro old c ho hc
      have hge : xs.length + ys.length ≤ c := hc ▸ grownCap_ge w (xs.length + ys.length) old e
      have hcm : c ≤ maxLen := hc ▸ grownCap_le_maxLen w (xs.length + ys.length) old e hm
      refine ⟨by simp, .inr ⟨w.heap.size, (Builtin.zeroCells z.cells (c - (xs.length + ys.length))).toList, rfl, ?_, ?_, hge, hcm⟩⟩
      · have := Blk.alloc_new w.drew ((xs.flatMap cells).toArray ++ (ys.flatMap cells).toArray ++ Builtin.zeroCells z.cells (c - (xs.length + ys.length))) e
        rw [hflat]
        have ea : ((xs.flatMap cells ++ ys.flatMap cells ++ (Builtin.zeroCells z.cells (c - (xs.length + ys.length))).toList).toArray) = (xs.flatMap cells).toArray ++ (ys.flatMap cells).toArray ++ Builtin.zeroCells z.cells (c - (xs.length + ys.length)) := by simp
        rw [ea]
        exact this
      · have ez : (Builtin.zeroCells z.cells (c - (xs.length + ys.length))).toList.length = (c - (xs.length + ys.length)) * i.size := by rw [Array.length_toList, size_zeroCells, hzs]
        rw [List.length_append, flat_length hN, ez, List.length_append, ← Nat.add_mul]
        show _ = c * i.size
        congr 1
        omega
    have frnew : ∀ o, Fr noB w (w.drew.alloc o) := fun o => ((Fr.refl _ _).drew).alloc _
    rcases hown.2 with rfl | ⟨g, junk, ha, hb, hcl, hle, hcm⟩
    · have hx0 : xs = [] := List.eq_nil_of_length_eq_zero hlx.symm
      subst hx0
      by_cases hm0 : q.len = 0
      · have hy0 : ys = [] := List.eq_nil_of_length_eq_zero (by rw [← hly]; exact hm0)
        subst hy0
        refine ⟨⟨none, 0, 0⟩, w, ?_, OwnL.nil _ _ _ _, Fr.refl _ _, .inl ⟨rfl, rfl⟩⟩
        simp [Builtin.append_, run_underlying ht, sizeOf, typeInfo, hi, Builtin.lenOf, Builtin.firstCells, loadCells, loadCellsFrom, hm0]
      · have hr := run_append_nil (P := P) w t ty e i z ht hi hz ad q.len q.cap (ys.flatMap cells) hlen hnews (by omega) (by simp only [List.length_nil] at hsmall; omega) (by simp only [List.length_nil, Nat.zero_add] at hbytes; rw [hly]; omega)
        have hgr := grown 0 (grownCap w q.len 0 e) (by simp only [List.length_nil]; omega) (by simp [hly])
        refine ⟨⟨some ⟨w.heap.size, 0, none⟩, q.len, grownCap w q.len 0 e⟩, _, hr, ?_, (frnew _).mono (fun _ _ h => h.elim), .inr ⟨_, rfl, Nat.le_refl _, frnew _⟩⟩
        simp only [List.nil_append, List.length_nil, Nat.zero_add, List.flatMap_nil, ← hly] at hgr ⊢
        simpa using hgr
    · obtain ⟨sa, slen, scap⟩ := s
      simp only at ha hlx hcl hle hcm
      subst ha
      have hsl : (xs.flatMap cells).length = slen * i.size := by rw [flat_length hN, hlx]
      by_cases hroom : slen + q.len ≤ scap
      · have hfit : slen * i.size + (ys.flatMap cells).length ≤ (xs.flatMap cells ++ junk).toArray.size := by
          rw [List.size_toArray, hcl, hlen, ← Nat.add_mul]; exact Nat.mul_le_mul_right _ hroom
        have hr := run_append_room (P := P) w t ty e i ht hi g slen scap _ hb ad q.len q.cap (ys.flatMap cells) hlen hnews h1 hroom hfit
        refine ⟨⟨some ⟨g, 0, none⟩, slen + q.len, scap⟩, _, hr, ⟨by simp [hlx, hly], .inr ⟨g, (xs.flatMap cells ++ junk).drop (slen * i.size + (ys.flatMap cells).length), rfl, ?_, ?_, hroom, hcm⟩⟩, (Fr.refl _ _).setRow (.inr ⟨_, rfl, rfl⟩) _, .inl ⟨rfl, by rw [size_setRow]⟩⟩
        · have hset := hb.setRow (cs' := ((xs.flatMap cells ++ junk).toArray.toList.take (slen * i.size) ++ ys.flatMap cells ++ (xs.flatMap cells ++ junk).toArray.toList.drop (slen * i.size + (ys.flatMap cells).length)).toArray)
          have et : (xs.flatMap cells ++ junk).toArray.toList.take (slen * i.size) = xs.flatMap cells := by rw [← hsl]; exact List.take_left
          rw [et] at hset
          rw [et, hflat]
          exact hset
        · have hrm := Nat.mul_le_mul_right i.size hroom
          rw [Nat.add_mul] at hrm
          rw [hflat, List.length_append, List.length_append, List.length_drop, hcl, hsl, hlen]
          show _ = scap * i.size
          omega
      · have holds : ∀ j u, (xs.flatMap cells)[j]? = some u → w.cell? ((⟨g, 0, none⟩ : Addr).add j) = some u := fun j u hu => by
          rw [Addr.add_lit, Nat.zero_add, hb.cell, List.getElem?_toArray, List.getElem?_append_left (List.getElem?_eq_some_iff.1 hu).1, hu]
        have hr := run_append_grow (P := P) w t ty e i z ht hi hz ⟨g, 0, none⟩ slen scap (xs.flatMap cells) hsl holds ad q.len q.cap (ys.flatMap cells) hlen hnews (by omega) (by rw [hlx, hly]; omega) (growslice_fits (by omega) (by rw [hlx, hly]; exact hbytes))
        have hgr := grown scap (grownCap w (slen + q.len) scap e) (by omega) (by rw [hlx, hly])
        refine ⟨⟨some ⟨w.heap.size, 0, none⟩, slen + q.len, grownCap w (slen + q.len) scap e⟩, _, hr, ?_, (frnew _).mono (fun _ _ h => h.elim), .inr ⟨_, rfl, Nat.le_refl _, frnew _⟩⟩
        rw [← hlx, ← hly] at hgr
        exact hgr

theorem wpList_append_rows {P : Program} {ops : Array Oper} {rest : List Oper} {o : Oper} {a : Act} {Q : Exit → Act → World → Prop} (hgd : o.guard = none) (sx xx : Operand) (t : TypeId)
    (ho : o.op = .call { callee := .builtin .append, args := #[sx, xx], argTypes := #[t, t] }) (ht : P.underlying t = some (.slice e)) (z : Value) (bytes : Nat)
    (hinfo : (P.info? e).map (fun i => (i.zero, i.size, i.bytes)) = some (some z, N, bytes)) (hzs : z.cells.size = N) (hNp : 0 < N) (hN : ∀ x, (cells x).length = N) (h1c : ∀ x, ∀ u ∈ cells x, u.oneCell' = true)
    (hs : a.eval sx = .slice s.a s.len s.cap) (hown : OwnL w e N cells s xs) {ok : α → Prop} {q : SlV} {ys : List α} (hx : a.eval xx = .slice q.a q.len q.cap) (hq : SlOf w N cells ok q ys) (hnil : q.a = none → q.cap = 0)
    (hm : xs.length + ys.length ≤ maxLen) (hbytes : (xs.length + ys.length) * bytes ≤ 140737488355328)
    (h : ∀ s' w', OwnL w' e N cells s' (xs ++ ys) → Fr (ownB s) w w' → ((s'.a = s.a ∧ w'.heap.size = w.heap.size) ∨ (∃ g', s'.a = some ⟨g', 0, none⟩ ∧ w.heap.size ≤ g' ∧ Fr noB w w')) → wpList P ops Q rest (a.put o.dst (.slice s'.a s'.len s'.cap)) w') :
    wpList P ops Q (o :: rest) a w :=
  wpList_plain hgd fun _ hK => by
    obtain ⟨s', w', hr, h1, h2, h3⟩ := run_append_rows (P := P) (ty := o.type) ht z bytes hinfo hzs hNp hN h1c hown hq hnil hm hbytes
    unfold Oper.wp execOp
    simp only [ho, resolve, invoke, builtin, Sem.run_bind, Sem.run_pure, Result.andThen_ok, List.map_toArray, List.map_cons, List.map_nil, hs, hx, hr]
    exact hK _ _ (h s' w' h1 h2 h3)

theorem wpMix_append_rows {P : Program} {ops : Array Oper} {rest : List Oper} {o : Oper} {a : Act} {S : World → Prop} {Q : Act → World → Prop} (hw : Region.wanted o (yielded ops a.tmps) = true) (sx xx : Operand) (t : TypeId)
    (ho : o.op = .call { callee := .builtin .append, args := #[sx, xx], argTypes := #[t, t] }) (ht : P.underlying t = some (.slice e)) (z : Value) (bytes : Nat)
    (hinfo : (P.info? e).map (fun i => (i.zero, i.size, i.bytes)) = some (some z, N, bytes)) (hzs : z.cells.size = N) (hNp : 0 < N) (hN : ∀ x, (cells x).length = N) (h1c : ∀ x, ∀ u ∈ cells x, u.oneCell' = true)
    (hs : a.eval sx = .slice s.a s.len s.cap) (hown : OwnL w e N cells s xs) {ok : α → Prop} {q : SlV} {ys : List α} (hx : a.eval xx = .slice q.a q.len q.cap) (hq : SlOf w N cells ok q ys) (hnil : q.a = none → q.cap = 0)
    (hm : xs.length + ys.length ≤ maxLen) (hbytes : (xs.length + ys.length) * bytes ≤ 140737488355328)
    (h : ∀ s' w', OwnL w' e N cells s' (xs ++ ys) → Fr (ownB s) w w' → ((s'.a = s.a ∧ w'.heap.size = w.heap.size) ∨ (∃ g', s'.a = some ⟨g', 0, none⟩ ∧ w.heap.size ≤ g' ∧ Fr noB w w')) → S w' ∧ wpMix P ops S Q rest (a.put o.dst (.slice s'.a s'.len s'.cap)) w') :
    wpMix P ops S Q (o :: rest) a w := by
  obtain ⟨s', w', hr, h1, h2, h3⟩ := run_append_rows (P := P) (ty := o.type) ht z bytes hinfo hzs hNp hN h1c hown hq hnil hm hbytes
  refine wpMix_run hw (by rw [ho]; rfl) (v := .slice s'.a s'.len s'.cap) (w' := w') ?_ (h s' w' h1 h2 h3).1 (h s' w' h1 h2 h3).2
  unfold execOp
  simp only [ho, resolve, invoke, builtin, Sem.run_bind, Sem.run_pure, Result.andThen_ok, List.map_toArray, List.map_cons, List.map_nil, hs, hx, hr]

/-! ### A store into an element -/
theorem flat_set1 (hN : ∀ x, (cells x).length = N) {x' : α} {u : Value} {j : Nat} (junk : List Value) : ∀ (xs : List α) (k : Nat) (x : α), xs[k]? = some x → j < N → cells x' = (cells x).set j u →
    (xs.flatMap cells ++ junk).set (k * N + j) u = (xs.set k x').flatMap cells ++ junk
  | [], k, x, h, _, _ => by simp at h
  | y :: ys, 0, x, h, hj, hc => by
    simp only [List.getElem?_cons_zero, Option.some.injEq] at h
    subst h
    rw [Nat.zero_mul, Nat.zero_add, List.set_cons_zero, List.flatMap_cons, List.flatMap_cons, List.append_assoc, List.set_append_left _ _ (by rw [hN]; exact hj), hc, List.append_assoc]
  | y :: ys, k + 1, x, h, hj, hc => by
    simp only [List.getElem?_cons_succ] at h
    rw [List.set_cons_succ, List.flatMap_cons, List.flatMap_cons, List.append_assoc, List.set_append_right _ _ (by rw [hN, Nat.add_mul]; omega), hN, show (k + 1) * N + j - N = k * N + j by rw [Nat.add_mul]; omega,
      flat_set1 hN junk ys k x h hj hc, List.append_assoc]
theorem OwnL.setField (h : OwnL w e N cells s xs) (hN : ∀ x, (cells x).length = N) {g : Nat} (hg : s.a = some ⟨g, 0, none⟩) {k : Nat} {x x' : α} (hx : xs[k]? = some x) {j : Nat} {u : Value} (hj : j < N) (hc : cells x' = (cells x).set j u) :
    OwnL (w.setCell ⟨g, k * N + j, none⟩ u) e N cells s (xs.set k x') := by
  obtain ⟨h1, h2⟩ := h
  refine ⟨by rw [List.length_set]; exact h1, ?_⟩
  rcases h2 with rfl | ⟨g', junk, ha, hb, hl, r⟩
  · simp at hg
  · rw [hg] at ha
    simp only [Option.some.injEq, Addr.mk.injEq, and_true] at ha
    subst ha
    refine .inr ⟨g, junk, hg, ?_, ?_, r⟩
    · have := hb.set (k * N + j) u
      rw [List.setIfInBounds_toArray, flat_set1 hN junk xs k x hx hj hc] at this
      exact this
    · rw [← flat_set1 hN junk xs k x hx hj hc, List.length_set]; exact hl

theorem flat_setN (hN : ∀ x, (cells x).length = N) {x' : α} (junk : List Value) : ∀ (xs : List α) (k : Nat), k < xs.length →
    (xs.flatMap cells ++ junk).take (k * N) ++ cells x' ++ (xs.flatMap cells ++ junk).drop (k * N + N) = (xs.set k x').flatMap cells ++ junk
  | [], k, h => by simp at h
  | y :: ys, 0, h => by
    rw [Nat.zero_mul, Nat.zero_add, List.take_zero, List.nil_append, List.set_cons_zero, List.flatMap_cons, List.flatMap_cons, List.append_assoc, List.drop_append, hN, Nat.sub_self, List.drop_zero, List.drop_of_length_le (by rw [hN]; exact Nat.le_refl _), List.nil_append, List.append_assoc]
  | y :: ys, k + 1, h => by
    have ih := flat_setN hN junk ys k (by simpa using h) (x' := x')
    rw [List.set_cons_succ, List.flatMap_cons, List.flatMap_cons, List.append_assoc, List.append_assoc, List.append_assoc, ← ih, List.take_append, List.drop_append, hN,
      List.take_of_length_le (by rw [hN, Nat.add_mul]; omega), List.drop_of_length_le (by rw [hN, Nat.add_mul]; omega), show (k + 1) * N - N = k * N by rw [Nat.add_mul]; omega, show (k + 1) * N + N - N = k * N + N by rw [Nat.add_mul]; omega]
    simp only [List.nil_append, List.append_assoc]

theorem OwnL.setElem (h : OwnL w e N cells s xs) (hN : ∀ x, (cells x).length = N) {g : Nat} (hg : s.a = some ⟨g, 0, none⟩) {k : Nat} (hk : k < xs.length) {x' : α} {t : TypeId} {P : Program} (hi : (P.info? t).map (·.size) = some N) (h1c : ∀ u ∈ cells x', u.oneCell' = true) :
    ∃ w', (storeVar t ⟨g, k * N, none⟩ (.agg (cells x').toArray)).run P w = .ok () w' ∧ OwnL w' e N cells s (xs.set k x') ∧ Fr (oneB g) w w' ∧ w'.heap.size = w.heap.size := by
  obtain ⟨h1, h2⟩ := h
  rcases h2 with rfl | ⟨g', junk, ha, hb, hl, hle, hcm⟩
  · simp at hg
  · rw [hg] at ha
    simp only [Option.some.injEq, Addr.mk.injEq, and_true] at ha
    subst ha
    have hfl : (xs.flatMap cells).length = xs.length * N := flat_length hN xs
    have hkN : k * N + N ≤ xs.length * N := by rw [← Nat.succ_mul]; exact Nat.mul_le_mul_right _ hk
    have hst := run_storeCells_at P g (k * N) e (cells x') 0 _ w hb (by rw [Nat.add_zero, hN, List.size_toArray, List.length_append, hfl]; omega) h1c
    refine ⟨w.setRow g ((xs.set k x').flatMap cells ++ junk).toArray, ?_, ⟨by rw [List.length_set]; exact h1, .inr ⟨g, junk, hg, hb.setRow, ?_, hle, hcm⟩⟩, (Fr.refl (oneB g) _).setRow (.inr (show oneB g g from rfl)) _, size_setRow _ _ _⟩
    · cases hq : P.info? t with
      | none => simp [hq] at hi
      | some i =>
        have hsz : i.size = N := by simpa [hq] using hi
        simp only [Nat.add_zero, hN] at hst
        rw [flat_setN hN junk xs k hk] at hst
        simp [storeVar, sizeOf, typeInfo, hq, Value.cells, hsz, hN, hst]
    · rw [List.length_append, flat_length hN, List.length_set, ← flat_length hN, ← List.length_append]; exact hl
end
end Go.Proofs.Ytgjabgneapdbiaa

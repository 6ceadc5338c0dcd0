/- Regions that draw their order and hold both operations that only read and a chain of operations that write or make memory: one walk in the order of the text serves every order. -/
import Derived.Test.YtgjabgneapdbiaaMem
import Derived.Deep.Quiet
namespace Go.Proofs.Ytgjabgneapdbiaa
open Go.RowKit
set_option linter.unusedSimpArgs false
set_option linter.unusedVariables false

/-- Operations that leave memory alone: they may be taken first. -/
def calmOp : Op → Bool
  | .call c => match c.callee with | .builtin .len | .builtin .cap | .builtin .min | .builtin .max => true | _ => false
  | .move _ | .assign _ | .pick .. | .load .. | .nilCheck _ | .binOp .. | .unOp .. | .convert .. | .fieldAddr .. | .field .. | .indexAddr .. | .index .. | .slice .. | .extract .. | .build .. | .makeFunc .. | .lookup .. => true
  | _ => false

theorem run_v_enter {P : Program} {s : Sem Value} {W w' : World} {f : FuncId} {args : Array Value} (h : (do pure (Next.value (← s)) : Sem Next).run P W = .ok (.enter f args) w') : False := by
  rw [Sem.run_bind] at h
  generalize s.run P W = r at h
  cases r with
  | ok a w => simp [Result.andThen, Sem.run_pure] at h
  | halt x w => simp [Result.andThen] at h

theorem calm_no_enter {o : Oper} (hc : calmOp o.op = true) {ρ : Operand → Value} {P : Program} {W w' : World} {f : FuncId} {args : Array Value} (h : (execOp ρ o).run P W = .ok (.enter f args) w') : False := by
  obtain ⟨dst, op, type, pos, after, guard⟩ := o
  simp only at hc
  cases op <;> simp only [calmOp, Bool.false_eq_true] at hc <;> unfold execOp at h <;> simp only at h
  case move x => simp [Sem.run_pure] at h
  case assign x => simp [Sem.run_pure] at h
  case pick c a b =>
    rw [Sem.run_bind] at h
    generalize (asBool (ρ c)).run P W = r at h
    cases r with
    | ok a w => simp [Result.andThen, Sem.run_pure] at h
    | halt x w => simp [Result.andThen] at h
  case nilCheck x =>
    have hp : ∀ {f' : FuncId} {args' : Array Value} {w₁ : World}, (runtimePanic (α := Next) .nilDeref).run P W = .ok (.enter f' args') w₁ → False := fun h => by
      simp [runtimePanic, goPanic, Sem.run_bind, go_sem] at h
    split at h
    · exact hp h
    · exact hp h
    · exact hp h
    · split at h
      · exact hp h
      · rw [Sem.run_bind, run_program] at h
        simp only [Result.andThen_ok] at h
        rw [Sem.run_bind] at h
        generalize (nilAhead _ _ _ _).run P W = r at h
        cases r with
        | ok a w =>
          simp only [Result.andThen_ok] at h
          split at h <;> simp [Sem.run_bind, Sem.run_pure, unsupported, go_sem] at h
        | halt x w => simp [Result.andThen] at h
      · simp [Sem.run_pure] at h
    · simp [Sem.run_pure] at h
  case call c =>
    rw [Sem.run_bind] at h
    unfold resolve at h
    split at hc <;> simp only [*] at h <;> simp only [Sem.run_pure, Result.andThen_ok, invoke, builtin] at h
    all_goals first | exact run_v_enter h | simp at hc
  all_goals exact run_v_enter h

section
variable {P : Program} {ops : Array Oper} {md : Region.Mode} {S : World → Prop} {Q : Act → World → Prop} {D : Act → World → Prop} {L : Array Bool → Act → World → Prop}

def noQ : Exit → Act → World → Prop := fun _ _ _ => False

/-- One operation of the walk. -/
def mOper (P : Program) (S : World → Prop) (o : Oper) (a : Act) (w : World) (K : Act → World → Prop) : Prop :=
  if calmOp o.op then o.quiet P a S (fun a' => K a' w) else o.wp P a w (fun a' w' => a'.defers = a.defers ∧ S w' ∧ K a' w') noQ
def mOp (P : Program) (ops : Array Oper) (S : World → Prop) (i : Nat) (K : Act → World → Prop) (a : Act) (w : World) : Prop :=
  match ops[i]? with
  | none => K a w
  | some o => if Region.wanted o (yielded ops a.tmps) then mOper P S o a w K else K (a.put o.dst undef) w

/-- The walk in the order of the text. -/
def wpMix (P : Program) (ops : Array Oper) (S : World → Prop) (Q : Act → World → Prop) : List Oper → Act → World → Prop
  | [], a, w => Q a w
  | o :: rest, a, w => if Region.wanted o (yielded ops a.tmps) then mOper P S o a w (wpMix P ops S Q rest) else wpMix P ops S Q rest (a.put o.dst undef) w

/-- Whatever order is picked; D: what holds where all have come up, L: what holds behind so many operations. -/
def wpAnyG (P : Program) (md : Region.Mode) (ops : Array Oper) (S : World → Prop) (D : Act → World → Prop) (L : Array Bool → Act → World → Prop) : Nat → Array Bool → Act → World → Prop
  | 0, listed, a, w => L listed a w
  | fuel + 1, listed, a, w => (Region.ready md ops listed = [] → D a w) ∧ ∀ i ∈ Region.ready md ops listed, mOp P ops S i (wpAnyG P md ops S D L fuel (listed.setIfInBounds i true)) a w
/-- .. to the end. -/
abbrev wpAnyM (P : Program) (md : Region.Mode) (ops : Array Oper) (S : World → Prop) (Q : Act → World → Prop) : Nat → Array Bool → Act → World → Prop :=
  wpAnyG P md ops S Q (fun listed a w => Region.ready md ops listed = [] ∧ Q a w)
/-- Behind the last operation counted nothing else may come up. -/
def LastL (md : Region.Mode) (ops : Array Oper) (C : Array Bool → Prop) (L : Array Bool → Act → World → Prop) : Prop := ∀ listed i a w, C listed → i ∈ Region.ready md ops listed → L (listed.setIfInBounds i true) a w → ∀ j ∈ Region.ready md ops listed, j = i
def StepC (md : Region.Mode) (ops : Array Oper) (C : Array Bool → Prop) : Prop := ∀ listed j, C listed → j ∈ Region.ready md ops listed → C (listed.setIfInBounds j true)

theorem calm_same {o : Oper} (hc : calmOp o.op = true) {a : Act} {W : World} {v : Value} (h : o.quietAt P a S W v) :
    (execOp a.eval o).run P W = .ok (.value v) W ∨ ((execOp a.eval o).run P W = .ok .skip W ∧ v = undef) := by
  unfold Oper.quietAt at h
  generalize hr : (execOp a.eval o).run P W = r at h
  cases r with
  | ok n w' =>
    cases n <;> simp only [Oper.quietUpon] at h
    case value u => obtain ⟨rfl, rfl⟩ := h; exact .inl rfl
    case skip => obtain ⟨rfl, rfl⟩ := h; exact .inr ⟨rfl, rfl⟩
    case enter f args => exact (calm_no_enter hc hr).elim
  | halt x w' => simp only [Oper.quietUpon] at h

theorem mOper_mono {o : Oper} {a : Act} {w : World} {K K' : Act → World → Prop} (hw : S w) (h : ∀ a w, S w → K a w → K' a w) (hh : mOper P S o a w K) : mOper P S o a w K' := by
  unfold mOper at *
  split
  · rename_i hc
    rw [if_pos hc] at hh
    obtain ⟨v, h1, h2⟩ := hh
    exact ⟨v, h1, h _ _ hw h2⟩
  · rename_i hc
    rw [if_neg hc] at hh
    exact Oper.wp_mono (fun a' w' ⟨h1, h2, h3⟩ => ⟨h1, h2, h _ _ h2 h3⟩) hh
theorem mOp_mono {i : Nat} {a : Act} {w : World} {K K' : Act → World → Prop} (hw : S w) (h : ∀ a w, S w → K a w → K' a w) (hh : mOp P ops S i K a w) : mOp P ops S i K' a w := by
  unfold mOp at *
  split
  · rename_i ho; simp only [ho] at hh; exact h _ _ hw hh
  · rename_i o ho
    simp only [ho] at hh
    split
    · rename_i hwt; simp only [hwt, if_true] at hh; exact mOper_mono hw h hh
    · rename_i hwt; simp only [hwt] at hh; exact h _ _ hw hh

theorem Oper.wp_noQ {o : Oper} {a : Act} {w : World} {K : Act → World → Prop} {Q' : Exit → Act → World → Prop} (h : o.wp P a w K noQ) : o.wp P a w K Q' := by
  unfold Oper.wp at *
  generalize (execOp a.eval o).run P w = r at *
  cases r with
  | ok n w' =>
    cases n <;> simp only [Oper.upon] at h ⊢ <;>
      first
        | exact h
        | exact Calls.mono h (fun e w'' he => by
            cases e
            · exact he
            · exact (he : False).elim
            · exact (he : LetsOut noQ).elim (fun _ ⟨_, hq⟩ => (hq : False).elim))
  | halt x w' => cases x <;> simp only [Oper.upon] at h ⊢ <;> first | exact h | exact (h : False).elim

theorem wpOp_of_mOp {i : Nat} {a : Act} {K K' : Act → World → Prop} {Q' : Exit → Act → World → Prop} {w : World} (hw : S w) (h : ∀ a w, S w → K a w → K' a w) (hh : mOp P ops S i K a w) : wpOp P ops Q' i K' a w := by
  unfold mOp at hh
  unfold wpOp
  split
  · rename_i ho; simp only [ho] at hh; exact h _ _ hw hh
  · rename_i o ho
    simp only [ho] at hh
    split
    · rename_i hwt
      simp only [hwt, if_true] at hh
      left
      unfold mOper at hh
      split at hh
      · rename_i hc
        obtain ⟨v, h1, h2⟩ := hh
        unfold Oper.wp
        rcases calm_same hc (h1 w hw) with e | ⟨e, rfl⟩
        · rw [e]; exact h _ _ hw h2
        · rw [e]; exact h _ _ hw h2
      · exact Oper.wp_noQ (Oper.wp_mono (fun a' w' ⟨_, h2, h3⟩ => h _ _ h2 h3) hh)
    · rename_i hwt; simp only [hwt] at hh; exact h _ _ hw hh

theorem wpAny_of_mixG {m : Nat} {Q' : Exit → Act → World → Prop} (hD : ∀ a w, S w → D a w → Q' .normal a w) (hL : ∀ listed a w, S w → L listed a w → wpAny P md ops Q' m listed a w) : ∀ (fuel : Nat) (listed : Array Bool) (a : Act) (w : World), S w →
    wpAnyG P md ops S D L fuel listed a w → wpAny P md ops Q' (fuel + m) listed a w
  | 0, _, _, _, hw, h => by rw [Nat.zero_add]; exact hL _ _ _ hw h
  | fuel + 1, _, _, _, hw, h => by
    rw [show fuel + 1 + m = (fuel + m) + 1 by omega]
    exact ⟨fun h0 => hD _ _ hw (h.1 h0), fun i hi => wpOp_of_mOp hw (fun a' w' hw' => wpAny_of_mixG hD hL fuel _ a' w' hw') (h.2 i hi)⟩
theorem wpAny_of_mix {Q' : Exit → Act → World → Prop} (hQ : ∀ a w, S w → Q a w → Q' .normal a w) (fuel : Nat) (listed : Array Bool) (a : Act) (w : World) (hw : S w)
    (h : wpAnyM P md ops S Q fuel listed a w) : wpAny P md ops Q' fuel listed a w :=
  wpAny_of_mixG (m := 0) hQ (fun _ _ _ hw h => ⟨h.1, hQ _ _ hw h.2⟩) fuel listed a w hw h

/-- A calm operation's value, whatever the world of the class; or an operation that is passed over. -/
def YieldsM (P : Program) (ops : Array Oper) (S : World → Prop) (o : Oper) (v : Value) (a : Act) : Prop :=
  (Region.wanted o (yielded ops a.tmps) = true ∧ calmOp o.op = true ∧ ∀ w, S w → o.quietAt P a S w v) ∨ (Region.wanted o (yielded ops a.tmps) = false ∧ v = undef)
theorem YieldsM.mOp {i : Nat} {o : Oper} {v : Value} {a : Act} {w : World} (hi : ops[i]? = some o) (hy : YieldsM P ops S o v a) {K : Act → World → Prop} (h : K (a.put o.dst v) w) : mOp P ops S i K a w := by
  unfold Go.Proofs.Ytgjabgneapdbiaa.mOp
  simp only [hi]
  rcases hy with ⟨hw, hc, hv⟩ | ⟨hw, rfl⟩
  · simp only [hw, if_true, mOper, hc]; exact ⟨v, hv, h⟩
  · simp only [hw, Bool.false_eq_true, if_false]; exact h
theorem YieldsM.of_same {o : Oper} {v : Value} {a a' : Act} (hy : YieldsM P ops S o v a) (he : execOp a'.eval o = execOp a.eval o)
    (hw : Region.wanted o (yielded ops a'.tmps) = Region.wanted o (yielded ops a.tmps)) : YieldsM P ops S o v a' := by
  unfold YieldsM Oper.quietAt at *
  rw [he, hw]
  exact hy

theorem wp_put {oj : Oper} {a : Act} {w : World} {x : Option Tmp} {v : Value} (hsj : ∀ cs b, oj.op ≠ .select cs b) (h1 : ∀ d, x = some d → d ∉ oj.looksAt ops) (h2 : ∀ d, x = some d → oj.dst ≠ some d)
    {K K' : Act → World → Prop} (hd : ∀ a' w', K a' w' → a'.defers = a.defers) (hK : ∀ u w', K ((a.put x v).put oj.dst u) w' → K' (a.put oj.dst u) w') (h : oj.wp P (a.put x v) w K noQ) : oj.wp P a w K' noQ := by
  unfold Oper.wp at *
  rw [execOp_put oj hsj a x v h1] at h
  generalize (execOp a.eval oj).run P w = r at *
  have hne : ∀ (d : Deferred) (b : Act), ({ b with defers := d :: b.defers } : Act).defers ≠ b.defers := fun d b e => by
    have := congrArg List.length e
    simp at this
  cases r with
  | ok n w' =>
    cases n <;> simp only [Oper.upon] at h ⊢
    case value u => exact hK _ _ h
    case skip => exact hK _ _ h
    case defer d =>
      exfalso
      have hp : ∀ (b : Act) (y : Option Tmp) (u : Value), (b.put y u).defers = b.defers := fun b y u => by cases y <;> rfl
      have e := hd _ _ h
      rw [hp] at e
      have e2 : (a.put x v).defers = a.defers := hp _ _ _
      have := congrArg List.length e
      rw [← e2] at this
      simp at this
    case enter f args =>
      refine Calls.mono h fun e w'' he => ?_
      cases e with
      | returned u => exact hK _ _ he
      | panicked c => exact he
      | outgrown => exact he
    case row row args => exact Rows.mono h fun u w'' he => hK _ _ he
  | halt x w' => cases x <;> simp only [Oper.upon] at h ⊢ <;> exact h

theorem wp_put' {oj : Oper} {a : Act} {w : World} {x : Option Tmp} {v : Value} (hsj : ∀ cs b, oj.op ≠ .select cs b) (h1 : ∀ d, x = some d → d ∉ oj.looksAt ops)
    {K K' : Act → World → Prop} (hd : ∀ a' w', K a' w' → a'.defers = a.defers) (hK : ∀ u w', K (a.put oj.dst u) w' → K' ((a.put x v).put oj.dst u) w') (h : oj.wp P a w K noQ) : oj.wp P (a.put x v) w K' noQ := by
  unfold Oper.wp at *
  rw [execOp_put oj hsj a x v h1]
  generalize (execOp a.eval oj).run P w = r at *
  cases r with
  | ok n w' =>
    cases n <;> simp only [Oper.upon] at h ⊢
    case value u => exact hK _ _ h
    case skip => exact hK _ _ h
    case defer d =>
      exfalso
      have hp : ∀ (b : Act) (y : Option Tmp) (u : Value), (b.put y u).defers = b.defers := fun b y u => by cases y <;> rfl
      have e := hd _ _ h
      rw [hp] at e
      have := congrArg List.length e
      simp at this
    case enter f args =>
      refine Calls.mono h fun e w'' he => ?_
      cases e with
      | returned u => exact hK _ _ he
      | panicked c => exact he
      | outgrown => exact he
    case row row args => exact Rows.mono h fun u w'' he => hK _ _ he
  | halt x w' => cases x <;> simp only [Oper.upon] at h ⊢ <;> exact h

theorem mOp_put {j : Nat} {oi oj : Oper} {v : Value} (hj : ops[j]? = some oj) (hap : oi.apart ops oj = true) (hsi : ∀ cs b, oi.op ≠ .select cs b) (hsj : ∀ cs b, oj.op ≠ .select cs b)
    {K : Act → World → Prop} {a : Act} {w : World} (hy : YieldsM P ops S oi v a) (h : mOp P ops S j K (a.put oi.dst v) w) :
    mOp P ops S j (fun a' w' => YieldsM P ops S oi v a' ∧ K (a'.put oi.dst v) w') a w := by
  obtain ⟨h1, h2, h3⟩ := Oper.apart_spec hap
  have keep : ∀ (a : Act), YieldsM P ops S oi v a → ∀ u, YieldsM P ops S oi v (a.put oj.dst u) := fun a hy u =>
    hy.of_same (execOp_put oi hsi a oj.dst u h3) (wanted_put oi a oj.dst u h3)
  have hp : ∀ (b : Act) (y : Option Tmp) (u : Value), (b.put y u).defers = b.defers := fun b y u => by cases y <;> rfl
  unfold mOp at *
  simp only [hj] at *
  rw [wanted_put oj a oi.dst v h1] at h
  split
  · rename_i hw
    simp only [hw, if_true] at h
    unfold mOper at *
    split
    · rename_i hc
      rw [if_pos hc] at h
      obtain ⟨u, hu, hn⟩ := h
      refine ⟨u, fun w hw' => ?_, keep a hy u, by rw [← Act.put_comm a v u h2]; exact hn⟩
      have := hu w hw'
      unfold Oper.quietAt at *
      rwa [execOp_put oj hsj a oi.dst v h1] at this
    · rename_i hc
      rw [if_neg hc] at h
      refine wp_put hsj h1 h2 (fun a' w' hh => by rw [hh.1, hp]) (fun u w' hh => ?_) h
      refine ⟨hp _ _ _, hh.2.1, keep a hy u, ?_⟩
      rw [← Act.put_comm a v u h2]
      exact hh.2.2
  · rename_i hw
    simp only [hw] at h
    exact ⟨keep a hy _, by rw [← Act.put_comm a v undef h2]; exact h⟩

/-- A calm operation, or one that is passed over, may be taken first. -/
theorem wpAnyG_first {C : Array Bool → Prop} (hC : StepC md ops C) (hL : LastL md ops C L) {i : Nat} {oi : Oper} {v : Value} (hi : ops[i]? = some oi) (hsel : ∀ (j : Nat) (o : Oper) cs b, ops[j]? = some o → o.op ≠ .select cs b) :
    ∀ (fuel : Nat) (listed : Array Bool) (a : Act) (w : World), S w → C listed →
      (∀ j oj, ops[j]? = some oj → j ≠ i → listed.getD j true = false → (∀ e ∈ oj.after, Region.binds md e = true → e.on ≠ i) → oi.apart ops oj = true) →
      i ∈ Region.ready md ops listed → YieldsM P ops S oi v a →
      wpAnyG P md ops S D L fuel (listed.setIfInBounds i true) (a.put oi.dst v) w → wpAnyG P md ops S D L (fuel + 1) listed a w := by
  intro fuel
  induction fuel with
  | zero =>
    intro listed a w hS hc _ hr hy H
    refine ⟨fun h => (by rw [h] at hr; cases hr), fun j hj => ?_⟩
    by_cases hji : j = i
    · subst hji; exact hy.mOp hi H
    · exact absurd (hL _ _ _ _ hc hr H j hj) hji
  | succ fuel ih =>
    intro listed a w hS hc hfree hr hy H
    refine ⟨fun h => (by rw [h] at hr; cases hr), fun j hj => ?_⟩
    by_cases hji : j = i
    · subst hji; exact hy.mOp hi H
    · have h1 := H.2 j (ready_mono hj hji)
      obtain ⟨hjun, oj, hoj, hall⟩ := mem_ready.1 hj
      have hnot : ∀ e ∈ oj.after, Region.binds md e = true → e.on ≠ i := fun e he hb heq => by
        have h1 := hall e he hb
        have h0 := (mem_ready.1 hr).1
        rw [heq] at h1
        rcases Nat.lt_or_ge i listed.size with h' | h'
        · simp [h'] at h0 h1; rw [h0] at h1; cases h1
        · simp [Array.getElem?_eq_none h'] at h1
      have h2 := mOp_put hoj (hfree j oj hoj hji hjun hnot) (fun cs b => hsel i oi cs b hi) (fun cs b => hsel j oj cs b hoj) hy h1
      have hfree' : ∀ k ok, ops[k]? = some ok → k ≠ i → (listed.setIfInBounds j true).getD k true = false →
          (∀ e ∈ ok.after, Region.binds md e = true → e.on ≠ i) → oi.apart ops ok = true := fun k ok hk hki hun hno => by
        refine hfree k ok hk hki ?_ hno
        by_cases hjk : j = k
        · subst hjk; exact hjun
        · rw [getD_set_ne true hjk] at hun; exact hun
      refine mOp_mono hS (fun a' w' hS' h3 => ih (listed.setIfInBounds j true) a' w' hS' (hC _ _ hc hj) hfree' (ready_mono hr (Ne.symm hji)) h3.1 ?_) h2
      rw [Array.setIfInBounds_comm _ _ hji]
      exact h3.2

/-- What an operation that is no calm one comes to: at least one outcome. -/
theorem wp_out {o : Oper} {a : Act} {w : World} {K : Act → World → Prop} (hd : ∀ a' w', K a' w' → a'.defers = a.defers) (h : o.wp P a w K noQ) : ∃ u w', K (a.put o.dst u) w' := by
  unfold Oper.wp at h
  generalize (execOp a.eval o).run P w = r at *
  cases r with
  | ok n w' =>
    cases n <;> simp only [Oper.upon] at h
    case value u => exact ⟨_, _, h⟩
    case skip => exact ⟨_, _, h⟩
    case defer d =>
      exfalso
      have hp : ∀ (b : Act) (y : Option Tmp) (u : Value), (b.put y u).defers = b.defers := fun b y u => by cases y <;> rfl
      have e := hd _ _ h
      rw [hp] at e
      have := congrArg List.length e
      simp at this
    case enter f args =>
      obtain ⟨e, w'', _, he, _⟩ := h []
      cases e with
      | returned u => exact ⟨_, _, he⟩
      | panicked c => exact (he : False).elim
      | outgrown => exact (he : LetsOut noQ).elim (fun _ ⟨_, hq⟩ => (hq : False).elim)
    case row row args =>
      obtain ⟨u, w'', he, _⟩ := h default []
      exact ⟨_, _, he⟩
  | halt x w' => cases x <;> simp only [Oper.upon] at h <;> exact (h : False).elim

theorem quiet_unique {o : Oper} {a : Act} {w : World} {v u : Value} (hc : calmOp o.op = true) (h1 : o.quietAt P a S w v) (h2 : o.quietAt P a S w u) : v = u := by
  rcases calm_same hc h1 with e1 | ⟨e1, rfl⟩ <;> rcases calm_same hc h2 with e2 | ⟨e2, rfl⟩
  · rw [e1] at e2; injection e2 with e; injection e
  · rw [e1] at e2; injection e2 with e; injection e
  · rw [e1] at e2; injection e2 with e; injection e
  · rfl

/-- Whatever has come up, what it waits for has come up, too. -/
def ClosedL (md : Region.Mode) (ops : Array Oper) (listed : Array Bool) : Prop := ∀ j oj, ops[j]? = some oj → listed.getD j false = true → ∀ e ∈ oj.after, Region.binds md e = true → listed.getD e.on false = true
theorem getD_both' {listed : Array Bool} {i : Nat} (h : listed.getD i true = false) : listed.getD i false = false := by
  rcases Nat.lt_or_ge i listed.size with h' | h'
  · simp [h'] at h ⊢; exact h
  · simp [Array.getElem?_eq_none h'] at h
theorem ClosedL.set {listed : Array Bool} {i : Nat} (h : ClosedL md ops listed) (hi : i ∈ Region.ready md ops listed) : ClosedL md ops (listed.setIfInBounds i true) := by
  obtain ⟨_, oi, hoi, hall⟩ := mem_ready.1 hi
  intro j oj hj hl e he hb
  by_cases hij : i = j
  · subst hij
    rw [hj] at hoi
    obtain rfl := Option.some.inj hoi
    exact getD_set_true (hall e he hb)
  · rw [getD_set_ne false hij] at hl
    exact getD_set_true (h j oj hj hl e he hb)

def blkStep (md : Region.Mode) (k : Nat) (acc : Array Bool) (o : Oper) : Array Bool := acc.push (o.after.any fun e => Region.binds md e && (e.on == k || acc.getD e.on false))
/-- Which operations wait for k, at once or through others. -/
def blkArr (md : Region.Mode) (ops : Array Oper) (k : Nat) : Array Bool := ops.toList.foldl (blkStep md k) #[]

theorem blk_fold {listed : Array Bool} {k : Nat} (hc : ClosedL md ops listed) (hk : listed.getD k false = false) : ∀ (l : List Oper) (acc : Array Bool), (∀ i, l[i]? = ops[acc.size + i]?) →
    (∀ j, acc.getD j false = true → j ∉ Region.ready md ops listed ∧ listed.getD j false = false) → ∀ j, (l.foldl (blkStep md k) acc).getD j false = true → j ∉ Region.ready md ops listed ∧ listed.getD j false = false
  | [], acc, _, h => h
  | o :: l, acc, hl, h => by
    rw [List.foldl_cons]
    have h0 : ops[acc.size]? = some o := by simpa using (hl 0).symm
    refine blk_fold hc hk l (blkStep md k acc o) (fun i => ?_) (fun j hj => ?_)
    · have := hl (i + 1)
      simp only [List.getElem?_cons_succ] at this
      rw [this, blkStep, Array.size_push, Nat.add_assoc, Nat.add_comm 1 i]
    · unfold blkStep at hj
      by_cases hjs : j = acc.size
      · subst hjs
        rw [Array.getD_eq_getD_getElem?, Array.getElem?_push_size] at hj
        simp only [Option.getD_some] at hj
        obtain ⟨e, he, hb⟩ := Array.any_eq_true'.1 hj
        simp only [Bool.and_eq_true, Bool.or_eq_true, beq_iff_eq] at hb
        have hu : listed.getD e.on false = false := by
          rcases hb.2 with h1 | h1
          · rw [h1]; exact hk
          · exact (h _ h1).2
        refine ⟨fun hr => ?_, ?_⟩
        · obtain ⟨_, o', ho', hall⟩ := mem_ready.1 hr
          rw [h0] at ho'
          obtain rfl := Option.some.inj ho'
          have := hall e he hb.1
          rw [hu] at this
          cases this
        · cases hx : listed.getD acc.size false with
          | false => rfl
          | true =>
            have := hc _ o h0 hx e he hb.1
            rw [hu] at this
            cases this
      · refine h j ?_
        rw [Array.getD_eq_getD_getElem?, Array.getElem?_push] at hj
        rw [if_neg hjs] at hj
        rw [Array.getD_eq_getD_getElem?]
        exact hj
theorem blk_ready {listed : Array Bool} {k j : Nat} (hc : ClosedL md ops listed) (hk : listed.getD k false = false) (h : (blkArr md ops k).getD j false = true) : j ∉ Region.ready md ops listed :=
  (blk_fold hc hk ops.toList #[] (fun i => by simp) (fun j hj => by simp at hj) j h).1

/-- An operation that writes or makes memory may be taken first, if whatever may come up with it is calm. -/
theorem wpAnyG_spine {C : Array Bool → Prop} (hC : StepC md ops C) (hL : LastL md ops C L) {k : Nat} {ok : Oper} (hk : ops[k]? = some ok) (hsel : ∀ (j : Nat) (o : Oper) cs b, ops[j]? = some o → o.op ≠ .select cs b) (hnc : calmOp ok.op = false) :
    ∀ (fuel : Nat) (listed : Array Bool) (a : Act) (w : World), S w → C listed →
      (∀ j oj, ops[j]? = some oj → j ≠ k → listed.getD j true = false → (∀ e ∈ oj.after, Region.binds md e = true → e.on ≠ k) → ok.apart ops oj = true) →
      ClosedL md ops listed → (∀ j oj, ops[j]? = some oj → j ≠ k → listed.getD j true = false → calmOp oj.op = true ∨ (blkArr md ops k).getD j false = true) →
      k ∈ Region.ready md ops listed → Region.wanted ok (yielded ops a.tmps) = true →
      ok.wp P a w (fun a' w' => a'.defers = a.defers ∧ S w' ∧ wpAnyG P md ops S D L fuel (listed.setIfInBounds k true) a' w') noQ → wpAnyG P md ops S D L (fuel + 1) listed a w := by
  have hp : ∀ (b : Act) (y : Option Tmp) (u : Value), (b.put y u).defers = b.defers := fun b y u => by cases y <;> rfl
  have here : ∀ (fuel : Nat) (listed : Array Bool) (a : Act) (w : World), Region.wanted ok (yielded ops a.tmps) = true →
      ok.wp P a w (fun a' w' => a'.defers = a.defers ∧ S w' ∧ wpAnyG P md ops S D L fuel (listed.setIfInBounds k true) a' w') noQ → mOp P ops S k (wpAnyG P md ops S D L fuel (listed.setIfInBounds k true)) a w := fun fuel listed a w hw H => by
    unfold mOp mOper
    simp only [hk, hw, if_true, hnc, Bool.false_eq_true, if_false]
    exact H
  intro fuel
  induction fuel with
  | zero =>
    intro listed a w hS hc _ _ _ hr hw H
    refine ⟨fun h => (by rw [h] at hr; cases hr), fun j hj => ?_⟩
    by_cases hjk : j = k
    · subst hjk; exact here 0 listed a w hw H
    · obtain ⟨u, w', _, _, h1⟩ := wp_out (fun a' w' hh => hh.1) H
      exact absurd (hL _ _ _ _ hc hr h1 j hj) hjk
  | succ fuel ih =>
    intro listed a w hS hc hfree hcl hspine hr hw H
    refine ⟨fun h => (by rw [h] at hr; cases hr), fun j hj => ?_⟩
    by_cases hjk : j = k
    · subst hjk; exact here (fuel + 1) listed a w hw H
    · obtain ⟨hjun, oj, hoj, hall⟩ := mem_ready.1 hj
      have hnot : ∀ e ∈ oj.after, Region.binds md e = true → e.on ≠ k := fun e he hb heq => by
        have h1 := hall e he hb
        have h0 := (mem_ready.1 hr).1
        rw [heq] at h1
        rcases Nat.lt_or_ge k listed.size with h' | h'
        · simp [h'] at h0 h1; rw [h0] at h1; cases h1
        · simp [Array.getElem?_eq_none h'] at h1
      have hap := hfree j oj hoj hjk hjun hnot
      obtain ⟨a1, a2, a3⟩ := Oper.apart_spec hap
      have a2' : ∀ d, oj.dst = some d → ok.dst ≠ some d := fun d hd he => a2 d he hd
      have hfree' : ∀ i oi, ops[i]? = some oi → i ≠ k → (listed.setIfInBounds j true).getD i true = false →
          (∀ e ∈ oi.after, Region.binds md e = true → e.on ≠ k) → ok.apart ops oi = true := fun i oi hi hik hun hno => by
        refine hfree i oi hi hik ?_ hno
        by_cases hji : j = i
        · subst hji; exact hjun
        · rw [getD_set_ne true hji] at hun; exact hun
      have hready' := ready_mono hr (Ne.symm hjk)
      -- what j comes to behind k
      have hj2 : ∀ (a' : Act) (w' : World), wpAnyG P md ops S D L (fuel + 1) (listed.setIfInBounds k true) a' w' → mOp P ops S j (wpAnyG P md ops S D L fuel ((listed.setIfInBounds k true).setIfInBounds j true)) a' w' :=
        fun a' w' h => h.2 j (ready_mono hj hjk)
      obtain ⟨u0, w0, hd0, hS0, h0⟩ := wp_out (fun a' w' hh => hh.1) H
      have m0 := hj2 _ _ h0
      have hwj : ∀ u, Region.wanted oj (yielded ops (a.put ok.dst u).tmps) = Region.wanted oj (yielded ops a.tmps) := fun u => wanted_put oj a ok.dst u a1
      have hej : ∀ u, execOp (a.put ok.dst u).eval oj = execOp a.eval oj := fun u => execOp_put oj (fun cs b => hsel j oj cs b hoj) a ok.dst u a1
      unfold mOp at m0
      simp only [hoj] at m0
      rw [hwj] at m0
      by_cases hwt : Region.wanted oj (yielded ops a.tmps) = true
      · rw [if_pos hwt] at m0
        have hcalm : calmOp oj.op = true := by
          rcases hspine j oj hoj hjk hjun with h | h
          · exact h
          · exact absurd hj (blk_ready hcl (getD_both' (mem_ready.1 hr).1) h)
        unfold mOper at m0
        rw [if_pos hcalm] at m0
        obtain ⟨v, hv, _⟩ := m0
        have hv' : ∀ W, S W → oj.quietAt P a S W v := fun W hW => by
          have := hv W hW
          unfold Oper.quietAt at *
          rwa [hej] at this
        have hspine' : ∀ i oi, ops[i]? = some oi → i ≠ k → (listed.setIfInBounds j true).getD i true = false → calmOp oi.op = true ∨ (blkArr md ops k).getD i false = true := fun i oi hi hik hun => by
          have hun' : listed.getD i true = false := by
            by_cases hji : j = i
            · subst hji; exact hjun
            · rw [getD_set_ne true hji] at hun; exact hun
          exact hspine i oi hi hik hun'
        unfold mOp mOper
        simp only [hoj, hwt, if_true, hcalm]
        refine ⟨v, hv', ih (listed.setIfInBounds j true) (a.put oj.dst v) w hS (hC _ _ hc hj) hfree' (hcl.set hj) hspine' hready' (by rw [wanted_put ok a oj.dst v a3]; exact hw) ?_⟩
        refine wp_put' (fun cs b => hsel k ok cs b hk) a3 (fun a' w' hh => hh.1) (fun u w' hh => ?_) H
        obtain ⟨_, hS', h'⟩ := hh
        have m := hj2 _ _ h'
        unfold mOp at m
        simp only [hoj] at m
        rw [hwj, if_pos hwt] at m
        unfold mOper at m
        rw [if_pos hcalm] at m
        obtain ⟨v', hv2, hn⟩ := m
        have hq : oj.quietAt P a S w' v' := by
          have := hv2 w' hS'
          unfold Oper.quietAt at *
          rwa [hej] at this
        have e := quiet_unique hcalm (hv' w' hS') hq
        subst e
        refine ⟨by rw [hp, hp], hS', ?_⟩
        rw [Act.put_comm a v u a2', Array.setIfInBounds_comm _ _ hjk]
        exact hn
      · have hwf : Region.wanted oj (yielded ops a.tmps) = false := by simpa using hwt
        have hspine' : ∀ i oi, ops[i]? = some oi → i ≠ k → (listed.setIfInBounds j true).getD i true = false → calmOp oi.op = true ∨ (blkArr md ops k).getD i false = true := fun i oi hi hik hun => by
          have hun' : listed.getD i true = false := by
            by_cases hji : j = i
            · subst hji; exact hjun
            · rw [getD_set_ne true hji] at hun; exact hun
          exact hspine i oi hi hik hun'
        unfold mOp
        simp only [hoj, hwf, Bool.false_eq_true, if_false]
        refine ih (listed.setIfInBounds j true) (a.put oj.dst undef) w hS (hC _ _ hc hj) hfree' (hcl.set hj) hspine' hready' (by rw [wanted_put ok a oj.dst undef a3]; exact hw) ?_
        refine wp_put' (fun cs b => hsel k ok cs b hk) a3 (fun a' w' hh => hh.1) (fun u w' hh => ?_) H
        obtain ⟨_, hS', h'⟩ := hh
        have m := hj2 _ _ h'
        unfold mOp at m
        simp only [hoj] at m
        rw [hwj, hwf] at m
        simp only [Bool.false_eq_true, if_false] at m
        refine ⟨by rw [hp, hp], hS', ?_⟩
        rw [Act.put_comm a undef u a2', Array.setIfInBounds_comm _ _ hjk]
        exact m

/-! ### The order of the text -/
def spineB (md : Region.Mode) (ops : Array Oper) (listed : Array Bool) (k : Nat) : Bool :=
  let blk := blkArr md ops k
  (List.range ops.size).all fun j => j == k || listed.getD j true || blk.getD j false || match ops[j]? with
    | some oj => calmOp oj.op
    | none => true
def mixFromG (md : Region.Mode) (ops : Array Oper) (base : Array Bool → Bool) : Nat → Nat → Array Bool → Bool
  | 0, _, listed => base listed
  | fuel + 1, k, listed => (Region.ready md ops listed).contains k && Region.free md ops listed k && (match ops[k]? with | some o => calmOp o.op || spineB md ops listed k | none => false) &&
      mixFromG md ops base fuel (k + 1) (listed.setIfInBounds k true)
def mixB (md : Region.Mode) (ops : Array Oper) : Bool := Region.noSelect ops && mixFromG md ops (fun listed => (Region.ready md ops listed).isEmpty) ops.size 0 (Array.replicate ops.size false)
/-- The last operation waits for each other one, at once or through others. -/
def lastB (md : Region.Mode) (ops : Array Oper) (n : Nat) : Bool := (List.range n).all (fun i => (blkArr md ops i).getD n false)
def mixTB (md : Region.Mode) (ops : Array Oper) (n : Nat) : Bool := Region.noSelect ops && decide (ops.size = n + 1) && lastB md ops n && mixFromG md ops (fun listed => Region.ready md ops listed == [n]) n 0 (Array.replicate ops.size false)

theorem spineB_spec {listed : Array Bool} {k : Nat} (h : spineB md ops listed k = true) (j : Nat) (oj : Oper) (hj : ops[j]? = some oj) (hne : j ≠ k) (hun : listed.getD j true = false) :
    calmOp oj.op = true ∨ (blkArr md ops k).getD j false = true := by
  simp only [spineB, List.all_eq_true, List.mem_range] at h
  have h1 := h j (Array.getElem?_eq_some_iff.1 hj).1
  simp only [hj, Bool.or_eq_true, beq_iff_eq, hne, false_or, hun, Bool.false_eq_true] at h1
  exact h1.symm

theorem wpAnyG_lex {C : Array Bool → Prop} (hC : StepC md ops C) (hL : LastL md ops C L) {base : Array Bool → Bool} (hb : ∀ listed a w, ClosedL md ops listed → base listed = true → Q a w → L listed a w) (hs : Region.noSelect ops = true) : ∀ (l : List Oper) (k : Nat) (listed : Array Bool) (a : Act) (w : World), S w → C listed → ClosedL md ops listed → (∀ j, j < l.length → l[j]? = ops[k + j]?) →
    mixFromG md ops base l.length k listed = true → wpMix P ops S Q l a w → wpAnyG P md ops S D L l.length listed a w
  | [], _, _, _, _, _, _, hcl, _, hB, h => hb _ _ _ hcl hB h
  | o :: l, k, listed, a, w, hS, hcC, hcl, hl, hB, h => by
    have h0 : ops[k]? = some o := by simpa using (hl 0 (by simp)).symm
    have hl' : ∀ j, j < l.length → l[j]? = ops[(k + 1) + j]? := fun j hj => by have := hl (j + 1) (by simp; omega); simpa [Nat.add_assoc, Nat.add_comm 1 j] using this
    simp only [List.length_cons, mixFromG, Bool.and_eq_true, h0] at hB
    obtain ⟨⟨⟨hr, hf⟩, hc⟩, hB'⟩ := hB
    have hr' : k ∈ Region.ready md ops listed := by simpa using hr
    unfold wpMix at h
    by_cases hw : Region.wanted o (yielded ops a.tmps) = true
    · rw [if_pos hw] at h
      unfold mOper at h
      by_cases hcalm : calmOp o.op = true
      · rw [if_pos hcalm] at h
        obtain ⟨v, hv, hn⟩ := h
        exact wpAnyG_first hC hL h0 (Region.noSelect_spec hs) l.length listed a w hS hcC (Region.free_spec h0 hf) hr' (.inl ⟨hw, hcalm, hv⟩) (wpAnyG_lex hC hL hb hs l (k + 1) _ _ w hS (hC _ _ hcC hr') (hcl.set hr') hl' hB' hn)
      · rw [if_neg hcalm] at h
        have hnc : calmOp o.op = false := by simpa using hcalm
        have hsp : spineB md ops listed k = true := by simpa [hnc] using hc
        exact wpAnyG_spine hC hL h0 (Region.noSelect_spec hs) hnc l.length listed a w hS hcC (Region.free_spec h0 hf) hcl (spineB_spec hsp) hr' hw
          (Oper.wp_mono (fun a' w' hh => ⟨hh.1, hh.2.1, wpAnyG_lex hC hL hb hs l (k + 1) _ a' w' hh.2.1 (hC _ _ hcC hr') (hcl.set hr') hl' hB' hh.2.2⟩) h)
    · rw [if_neg hw] at h
      exact wpAnyG_first hC hL h0 (Region.noSelect_spec hs) l.length listed a w hS hcC (Region.free_spec h0 hf) hr' (.inr ⟨by simpa using hw, rfl⟩) (wpAnyG_lex hC hL hb hs l (k + 1) _ _ w hS (hC _ _ hcC hr') (hcl.set hr') hl' hB' h)

/-- One walk in the order of the text serves every order. -/
theorem wp_region_mix {id : Nat} {Q' : Exit → Act → World → Prop} {a : Act} {w : World} {l : List Oper} (S : World → Prop) (hm : P.follows .mixedOrders = true) (hB : mixB .any l.toArray = true) (hS : S w.drew)
    (h : wpMix P l.toArray S (fun a' w' => Q' .normal a' w') l a w.drew) : (Code.region id l.toArray true).wp P Q' a w := by
  simp only [mixB, Bool.and_eq_true] at hB
  refine wp_region_any hm (wpAny_of_mix (S := S) (Q := fun a' w' => Q' .normal a' w') (fun _ _ _ h => h) _ _ _ _ hS ?_)
  have := wpAnyG_lex (S := S) (md := .any) (D := fun a' w' => Q' .normal a' w') (L := fun listed a w => Region.ready .any l.toArray listed = [] ∧ Q' .normal a w) (C := fun _ => True) (fun _ _ _ _ => trivial) (fun listed i a w _ hi h j hj => by
    by_cases e : j = i
    · exact e
    · have := ready_mono hj e
      rw [h.1] at this
      cases this) (base := fun listed => (Region.ready .any l.toArray listed).isEmpty) (fun listed a w _ hb h => ⟨by simpa using hb, h⟩) hB.1 l 0 (Array.replicate l.toArray.size false) a w.drew hS trivial (fun j oj hj hl => by
    exfalso
    simp only [Array.getD_eq_getD_getElem?, Array.getElem?_replicate] at hl
    split at hl <;> simp at hl) (by simp) (by simpa using hB.2) h
  simpa using this

theorem last_ready {n i : Nat} {listed : Array Bool} (hc : ClosedL md ops listed) (hB : lastB md ops n = true) (hn : n ∈ Region.ready md ops listed) (hi : i < n) : listed.getD i false = true := by
  unfold lastB at hB
  simp only [List.all_eq_true, List.mem_range] at hB
  cases hx : listed.getD i false with
  | true => rfl
  | false => exact absurd hn (blk_ready hc hx (hB i hi))
theorem tail_leaf {Q' : Exit → Act → World → Prop} {l : List Oper} {n : Nat} {listed : Array Bool} {a' : Act} {w' : World} (hll : l.length = n + 1) (hlast : lastB .any l.toArray n = true)
    (h : Region.ready .any l.toArray listed = [n] ∧ ClosedL .any l.toArray listed ∧ wpList P l.toArray Q' (l.drop n) a' w') : wpAny P .any l.toArray Q' 1 listed a' w' := by
  have hsz : l.toArray.size = n + 1 := by simpa using hll
  have hon : ∃ o, l.toArray[n]? = some o ∧ l.drop n = [o] := by
    refine ⟨l[n]'(by omega), by simp, ?_⟩
    rw [List.drop_eq_getElem_cons (by omega), List.drop_eq_nil_of_le (by omega)]
  obtain ⟨o, ho, hd⟩ := hon
  obtain ⟨hr, hcl, hw2⟩ := h
  rw [hd] at hw2
  refine ⟨fun h0 => by rw [hr] at h0; simp at h0, fun i hi => ?_⟩
  rw [hr] at hi
  have hin : i = n := by simpa using hi
  subst hin
  have hdone : Region.ready .any l.toArray (listed.setIfInBounds i true) = [] := by
    apply List.eq_nil_iff_forall_not_mem.2
    intro j hj
    obtain ⟨hun, oj, hoj, _⟩ := mem_ready.1 hj
    have hjl := (Array.getElem?_eq_some_iff.1 hoj).1
    rw [hsz] at hjl
    have hi' : i ∈ Region.ready .any l.toArray listed := by rw [hr]; simp
    by_cases e : j = i
    · subst e
      rcases Nat.lt_or_ge j listed.size with h' | h'
      · simp [h'] at hun
      · have := (mem_ready.1 hi').1
        simp [Array.getElem?_eq_none h'] at this
    · have hlj := last_ready hcl hlast hi' (show j < i by omega)
      rw [getD_set_ne true (Ne.symm e)] at hun
      rcases Nat.lt_or_ge j listed.size with h' | h'
      · simp [h'] at hun hlj; rw [hun] at hlj; cases hlj
      · simp [Array.getElem?_eq_none h'] at hlj
  unfold wpOp
  simp only [ho]
  unfold wpList at hw2
  split
  · rename_i hwt
    rw [if_pos hwt] at hw2
    rcases hw2 with h | h
    · exact .inl (Oper.wp_mono (fun a w h => ⟨hdone, h⟩) h)
    · exact .inr h
  · rename_i hwt
    rw [if_neg hwt] at hw2
    exact ⟨hdone, hw2⟩

/-- .. and the last operation may be whatever it is. -/
theorem wp_region_mixT {id : Nat} {Q' : Exit → Act → World → Prop} {a : Act} {w : World} {l : List Oper} (n : Nat) (S : World → Prop) (hm : P.follows .mixedOrders = true) (hB : mixTB .any l.toArray n = true) (hS : S w.drew)
    (h : wpMix P l.toArray S (fun a' w' => wpList P l.toArray Q' (l.drop n) a' w') (l.take n) a w.drew) : (Code.region id l.toArray true).wp P Q' a w := by
  simp only [mixTB, Bool.and_eq_true, decide_eq_true_eq] at hB
  obtain ⟨⟨⟨hsel, hsz⟩, hlast⟩, hmix⟩ := hB
  have hll : l.length = n + 1 := by simpa using hsz
  have htl : (l.take n).length = n := by simp; omega
  have hon : ∃ o, l.toArray[n]? = some o ∧ l.drop n = [o] := by
    refine ⟨l[n]'(by omega), by simp, ?_⟩
    rw [List.drop_eq_getElem_cons (by omega), List.drop_eq_nil_of_le (by omega)]
  obtain ⟨o, ho, hd⟩ := hon
  rw [hd] at h
  have hL : LastL .any l.toArray (ClosedL .any l.toArray) (fun listed a w => Region.ready .any l.toArray listed = [n] ∧ ClosedL .any l.toArray listed ∧ wpList P l.toArray Q' [o] a w) := fun listed i a w hcl hi h j hj => by
    by_cases e : j = i
    · exact e
    · exfalso
      have h1 := ready_mono hj e
      rw [h.1] at h1
      have hjn : j = n := by simpa using h1
      subst hjn
      obtain ⟨hun, oi, hoi, _⟩ := mem_ready.1 hi
      have hin : i < j := by
        have := (Array.getElem?_eq_some_iff.1 hoi).1
        rw [hsz] at this
        omega
      have := last_ready hcl hlast hj hin
      rcases Nat.lt_or_ge i listed.size with h' | h'
      · simp [h'] at hun this; rw [hun] at this; cases this
      · simp [Array.getElem?_eq_none h'] at this
  have hlex := wpAnyG_lex (P := P) (S := S) (md := .any) (D := fun _ _ => False) (Q := fun a' w' => wpList P l.toArray Q' [o] a' w') (fun _ _ h hj => h.set hj) hL (base := fun listed => Region.ready .any l.toArray listed == [n]) (fun listed a w hc hb h => ⟨by simpa using hb, hc, h⟩) hsel (l.take n) 0 (Array.replicate l.toArray.size false) a w.drew hS (fun j oj hj hl => by
      exfalso
      simp only [Array.getD_eq_getD_getElem?, Array.getElem?_replicate] at hl
      split at hl <;> simp at hl)
    (fun j oj hj hl => by
      exfalso
      simp only [Array.getD_eq_getD_getElem?, Array.getElem?_replicate] at hl
      split at hl <;> simp at hl) ?_ ?_ h
  · refine wp_region_any hm ?_
    have hall := wpAny_of_mixG (m := 1) (Q' := Q') (md := .any) (fun _ _ _ h => h.elim) (fun listed a' w' hw' h => ?_) _ _ _ _ hS hlex
    · rw [htl, hsz] at hall
      rw [hsz]
      exact hall
    · exact tail_leaf hll hlast (by rw [hd]; exact h)
  · intro j hj
    rw [htl] at hj
    rw [List.getElem?_take_of_lt hj]; simp
  · rw [htl]; exact hmix
theorem wpMix_nil {a : Act} {w : World} (h : Q a w) : wpMix P ops S Q [] a w := h
theorem wpMix_skip {o : Oper} {rest : List Oper} {a : Act} {w : World} (hw : Region.wanted o (yielded ops a.tmps) = false) (h : wpMix P ops S Q rest (a.put o.dst undef) w) : wpMix P ops S Q (o :: rest) a w := by
  unfold wpMix; rw [if_neg (by rw [hw]; exact Bool.false_ne_true)]; exact h
theorem wpMix_calm {o : Oper} {rest : List Oper} {a : Act} {w : World} (hw : Region.wanted o (yielded ops a.tmps) = true) (hc : calmOp o.op = true)
    (h : ∀ K : Act → Prop, (∀ a, wpMix P ops S Q rest a w → K a) → o.quiet P a S K) : wpMix P ops S Q (o :: rest) a w := by
  unfold wpMix mOper; rw [if_pos hw, if_pos hc]; exact h _ (fun _ h => h)
theorem wpMix_spine {o : Oper} {rest : List Oper} {a : Act} {w : World} (hw : Region.wanted o (yielded ops a.tmps) = true) (hc : calmOp o.op = false)
    (h : ∀ K : Act → World → Prop, (∀ a' w', a'.defers = a.defers → S w' → wpMix P ops S Q rest a' w' → K a' w') → o.wp P a w K noQ) : wpMix P ops S Q (o :: rest) a w := by
  unfold wpMix mOper; rw [if_pos hw, if_neg (by rw [hc]; exact Bool.false_ne_true)]; exact h _ (fun _ _ h1 h2 h3 => ⟨h1, h2, h3⟩)

theorem wpMix_load_at {a : Act} {o : Oper} {rest : List Oper} {w : World} (hgd : o.guard = none) (ty : TypeId) (x : Operand) (ho : o.op = .load ty x)
    (b off : Nat) (hx : a.eval x = .pointer (some ⟨b, off, none⟩)) (cs : List Value) (hc : ∀ w, S w → CellsAt w b off cs) (d : TypeDesc)
    (hu : P.underlying ty = some d) (hd : (match d with | .struct _ | .array _ _ => true | _ => false) = true) (hi : (P.info? ty).map (·.size) = some cs.length)
    (h : wpMix P ops S Q rest (a.put o.dst (.agg cs.toArray)) w) : wpMix P ops S Q (o :: rest) a w := by
  unfold wpMix mOper
  rw [if_pos (by simp [Region.wanted, hgd]), if_pos (by rw [ho]; rfl)]
  refine ⟨_, fun w hw => ?_, h⟩
  unfold Oper.quietAt execOp
  simp only [ho, hx, Instr.loadAt, Instr.sureAddr, Sem.run_bind, Sem.run_pure, Result.andThen_ok, run_loadVar_at w ty b off cs (hc w hw) d hu hd hi]
  exact ⟨rfl, rfl⟩
end

theorem run_buildSlice_as {P : Program} {t e : TypeId} (ht : P.underlying t = some (.slice e)) (z : Value) (size : Nat) (hinfo : (P.info? e).map (fun i => (i.zero, i.size)) = some (some z, size)) (n : Nat) (parts : Array (Nat × Value)) (C : Array Value)
    (hsz : n * size ≤ 2 ^ 24) (h0 : n * size ≠ 0) (hf : Instr.fill (fun j => some (j * size, size)) ((Array.range (n * size)).map (z.cells[· % z.cells.size]!)) parts.toList = some C) (w : World) :
    (Instr.buildSlice t n parts).run P w = .ok (.slice (some ⟨w.heap.size, 0, none⟩) n n) (w.alloc (.cells C e)) := by
  obtain ⟨i, hi, hi2⟩ := Option.map_eq_some_iff.1 hinfo
  simp only [Prod.mk.injEq] at hi2
  obtain ⟨hz, rfl⟩ := hi2
  have hn : ¬ n * i.size > 2 ^ 24 := by omega
  unfold Instr.buildSlice
  simp only [Sem.run_bind, run_underlying ht, Result.andThen_ok, sizeOf, typeInfo, hi]
  simp [Sem.run_bind, typeInfo, hi, hn, h0, zeroValue, hz, hf, newRow]

theorem exec_v {P : Program} {s : Sem Value} {w w' : World} {v : Value} (h : s.run P w = .ok v w') : (do pure (Next.value (← s)) : Sem Next).run P w = .ok (.value v) w' := by
  rw [Sem.run_bind, h]; rfl
theorem exec_u {P : Program} {s : Sem Unit} {w w' : World} (h : s.run P w = .ok () w') : (do s; pure Next.skip : Sem Next).run P w = .ok .skip w' := by
  rw [Sem.run_bind, h]; rfl

section
variable {P : Program} {ops : Array Oper} {S : World → Prop} {Q : Act → World → Prop}
theorem wpMix_run {o : Oper} {rest : List Oper} {a : Act} {w w' : World} {v : Value} (hw : Region.wanted o (yielded ops a.tmps) = true) (hc : calmOp o.op = false)
    (hr : (execOp a.eval o).run P w = .ok (.value v) w') (hS : S w') (h : wpMix P ops S Q rest (a.put o.dst v) w') : wpMix P ops S Q (o :: rest) a w := by
  refine wpMix_spine hw hc (fun K hK => ?_)
  unfold Oper.wp
  rw [hr]
  exact hK _ _ (by cases o.dst <;> rfl) hS h
theorem wpMix_buildSlice {o : Oper} {rest : List Oper} {a : Act} {w : World} (hgd : o.guard = none) (t : TypeId) (n : Nat) (parts : Array (Nat × Operand)) (ho : o.op = .buildSlice t n parts) (vals : Array (Nat × Value))
    (hv : (parts.map fun (i, x) => (i, a.eval x)) = vals) {e : TypeId} (ht : P.underlying t = some (.slice e)) (z : Value) (size : Nat) (hinfo : (P.info? e).map (fun i => (i.zero, i.size)) = some (some z, size)) (C : Array Value)
    (hsz : n * size ≤ 2 ^ 24) (h0 : n * size ≠ 0) (hf : Instr.fill (fun j => some (j * size, size)) ((Array.range (n * size)).map (z.cells[· % z.cells.size]!)) vals.toList = some C)
    (hS : S (w.alloc (.cells C e))) (h : wpMix P ops S Q rest (a.put o.dst (.slice (some ⟨w.heap.size, 0, none⟩) n n)) (w.alloc (.cells C e))) : wpMix P ops S Q (o :: rest) a w := by
  refine wpMix_run (by simp [Region.wanted, hgd]) (by rw [ho]; rfl) (w' := w.alloc (.cells C e)) (v := .slice (some ⟨w.heap.size, 0, none⟩) n n) ?_ hS h
  unfold execOp
  simp only [ho, hv]
  exact exec_v (run_buildSlice_as ht z size hinfo n vals C hsz h0 hf w)
theorem wpList_buildSlice {o : Oper} {rest : List Oper} {a : Act} {w : World} {Q : Exit → Act → World → Prop} (hgd : o.guard = none) (t : TypeId) (n : Nat) (parts : Array (Nat × Operand)) (ho : o.op = .buildSlice t n parts) (vals : Array (Nat × Value))
    (hv : (parts.map fun (i, x) => (i, a.eval x)) = vals) {e : TypeId} (ht : P.underlying t = some (.slice e)) (z : Value) (size : Nat) (hinfo : (P.info? e).map (fun i => (i.zero, i.size)) = some (some z, size)) (C : Array Value)
    (hsz : n * size ≤ 2 ^ 24) (h0 : n * size ≠ 0) (hf : Instr.fill (fun j => some (j * size, size)) ((Array.range (n * size)).map (z.cells[· % z.cells.size]!)) vals.toList = some C)
    (h : wpList P ops Q rest (a.put o.dst (.slice (some ⟨w.heap.size, 0, none⟩) n n)) (w.alloc (.cells C e))) : wpList P ops Q (o :: rest) a w :=
  wpList_plain hgd fun _ hK => by
    unfold Oper.wp execOp
    simp only [ho, hv]
    rw [exec_v (run_buildSlice_as ht z size hinfo n vals C hsz h0 hf w)]
    exact hK _ _ h

theorem wpMix_load_atw {a : Act} {o : Oper} {rest : List Oper} {w : World} (hw : Region.wanted o (yielded ops a.tmps) = true) (ty : TypeId) (x : Operand) (ho : o.op = .load ty x)
    (b off : Nat) (hx : a.eval x = .pointer (some ⟨b, off, none⟩)) (cs : List Value) (hc : ∀ w, S w → CellsAt w b off cs) (d : TypeDesc)
    (hu : P.underlying ty = some d) (hd : (match d with | .struct _ | .array _ _ => true | _ => false) = true) (hi : (P.info? ty).map (·.size) = some cs.length)
    (h : wpMix P ops S Q rest (a.put o.dst (.agg cs.toArray)) w) : wpMix P ops S Q (o :: rest) a w := by
  unfold wpMix mOper
  rw [if_pos hw, if_pos (by rw [ho]; rfl)]
  refine ⟨_, fun w hw => ?_, h⟩
  unfold Oper.quietAt execOp
  simp only [ho, hx, Instr.loadAt, Instr.sureAddr, Sem.run_bind, Sem.run_pure, Result.andThen_ok, run_loadVar_at w ty b off cs (hc w hw) d hu hd hi]
  exact ⟨rfl, rfl⟩
theorem wpList_load_atw {o : Oper} {rest : List Oper} {a : Act} {w : World} {Q : Exit → Act → World → Prop} (hw : Region.wanted o (yielded ops a.tmps) = true) (ty : TypeId) (x : Operand) (ho : o.op = .load ty x)
    (b off : Nat) (hx : a.eval x = .pointer (some ⟨b, off, none⟩)) (cs : List Value) (hc : CellsAt w b off cs) (d : TypeDesc)
    (hu : P.underlying ty = some d) (hd : (match d with | .struct _ | .array _ _ => true | _ => false) = true) (hi : (P.info? ty).map (·.size) = some cs.length)
    (h : wpList P ops Q rest (a.put o.dst (.agg cs.toArray)) w) : wpList P ops Q (o :: rest) a w :=
  wpList_step fun _ hK => by
    rw [if_pos hw]
    unfold Oper.wp execOp
    simp only [ho, hx, Instr.loadAt, Instr.sureAddr, Sem.run_bind, Sem.run_pure, Result.andThen_ok, run_loadVar_at w ty b off cs hc d hu hd hi]
    exact hK _ _ h
end
end Go.Proofs.Ytgjabgneapdbiaa

/- What the functions of package match, and of the document's answer to chapter 15, do. -/
import Derived.Test.YtgdbafgkledpbaaAddr
import Derived.Test.YtgdbafgkledpbaaMirror
import Derived.BigQuiet
namespace Go.Proofs.Ytgdbafgkledpbaa
open Go.RowKit
set_option linter.unusedSimpArgs false
set_option linter.unusedVariables false

/-- Two texts, byte by byte. -/
def strEq (a b : ByteArray) : Bool := a.toList == b.toList

/-- A table with its prefixes. -/
structure TableM where
  nm : NamedM
  l : List PrefixM
  deriving Inhabited
def TableM.cells (t : TableM) : List Value := t.nm.cells
def TableM.ok (w : World) (t : TableM) : Prop := t.nm.wf ∧ SlOf w 2 PrefixM.cells PrefixM.wf t.nm.l t.l
/-- The tables. -/
def Tabs (w : World) (s : SlV) (ts : List TableM) : Prop := SlOf w 2 TableM.cells (TableM.ok w) s ts

def inB (ts : List TableM) (name : ByteArray) (a : Nat) : Bool :=
  match ts.find? (fun t => strEq t.nm.name name) with
  | some t => t.l.any (fun p => hasB p.addr p.len a)
  | none => false

set_option maxHeartbeats 400000 in
theorem in1 (x : NamedM) (name : ByteArray) (g : Nat) (w : World) (hg : w.cell? ⟨g, 0, none⟩ = some (.string name)) :
    Calls Try.prog 24 #[x.val, .pointer (some ⟨g, 0, none⟩)] w fun e w' => e = .returned (.bool (strEq x.name name)) ∧ Fr noB w w' := by
  have hlt := block_of_cell hg
  unfold NamedM.val
  go_enter Try.func24, Try.ntmps24
  go_wp2
  go_ret
  exact ⟨rfl, (Fr.refl _ _).alloc _⟩

/-- The first place at which a test holds; -1: there is none. -/
def IdxIs {α : Type} (p : α → Bool) (xs : List α) (n : Int) : Prop :=
  (∃ (i : Nat) (x : α), n = (i : Int) ∧ xs[i]? = some x ∧ p x = true ∧ ∀ (j : Nat) (y : α), j < i → xs[j]? = some y → p y = false) ∨ (n = -1 ∧ ∀ (j : Nat) (y : α), xs[j]? = some y → p y = false)

/-- The head of IndexFunc's loop. -/
def IdxAt {α : Type} (p : α → Bool) (xs : List α) (w : World) (i : Value) (wr : World) : Prop :=
  ∃ k : Nat, k ≤ xs.length ∧ i = .int .i64 k ∧ (∀ (j : Nat) (y : α), j < k → xs[j]? = some y → p y = false) ∧ Fr noB w wr

theorem Tabs.fr {w w' : World} {s : SlV} {ts : List TableM} (h : Tabs w s ts) (f : Fr noB w w') : Tabs w' s ts :=
  SlOf.fr h f (fun _ _ h => h) (fun x hx => ⟨hx.1, hx.2.fr f (fun _ _ h => h) (fun _ h => h)⟩)

set_option maxHeartbeats 800000 in
theorem indexNamed (s : SlV) (ts : List TableM) (name : ByteArray) (g : Nat) (w : World) (hs : Tabs w s ts) (hg : w.cell? ⟨g, 0, none⟩ = some (.string name)) :
    Calls Try.prog 23 #[.slice s.a s.len s.cap, .func (.func 24) #[] #[.pointer (some ⟨g, 0, none⟩)]] w
      fun e w' => (∃ n, e = .returned (.int .i64 n) ∧ IdxIs (fun t => strEq t.nm.name name) ts n) ∧ Fr noB w w' := by
  have hlt := block_of_cell hg
  obtain ⟨a, len, cap⟩ := s
  have hlen : len = ts.length := hs.1
  have hmax : len ≤ maxLen := hs.2.1
  unfold maxLen at hmax
  have Hs := hide hs; have Hlen := hide hlen; have Hg := hide hg
  clear hs hlen hg
  go_enter Try.func23, Try.ntmps23
  go_wp2_with fail
  go_loopw [8] (IdxAt (fun t : TableM => strEq t.nm.name name) ts w) (fun i _ => len - (intOf i).toNat)
  case atStart => exact ⟨0, Nat.zero_le _, rfl, fun _ _ h => absurd h (Nat.not_lt_zero _), Fr.refl _ _⟩
  case round =>
    obtain ⟨k, hk, rfl, hno, hf⟩ := hrel
    have Hno := hide hno; have Hf := hide hf
    clear hno hf
    by_cases hlt2 : k < len
    · have hk2 : k < ts.length := by have := Hlen.out; omega
      have hx : ts[k]? = some ts[k] := List.getElem?_eq_getElem hk2
      obtain ⟨b, o, rfl, hb, hc, _⟩ := SlOf.at (Hs.out.fr Hf.out) hx
      obtain ⟨c0, c1⟩ := cells2 hc
      have Hx := hide hx
      clear hx hc hk
      generalize ts[k] = t at *
      have hmul : ((k : Int) * 2).toNat = k * 2 := by omega
      have hgr : wr.cell? ⟨g, 0, none⟩ = some (.string name) := (Hf.out.cell hlt (fun h => h)).trans Hg.out
      go_wp2_with fail
      refine (in1 t.nm name g wr hgr).mono ?_
      rintro e w2 ⟨rfl, hf2⟩
      have Hf2 := hide hf2
      clear hf2 hgr c0 c1
      cases hp : strEq t.nm.name name with
      | true =>
        go_wp2_with fail
        go_ret
        exact ⟨⟨_, rfl, .inl ⟨k, t, rfl, Hx.out, hp, Hno.out⟩⟩, Hf.out.tr Hf2.out⟩
      | false =>
        have Hp := hide hp
        clear hp
        go_wp2_with fail
        go_roundw
        case rel =>
          refine ⟨k + 1, by omega, by go_num, fun j y hj hy => ?_, Hf.out.tr Hf2.out⟩
          by_cases e : j = k
          · subst e
            rw [Hx.out] at hy
            obtain rfl := Option.some.inj hy
            exact Hp.out
          · exact Hno.out j y (by omega) hy
        case measure => simp [intOf]; omega
    · have hke : k = ts.length := by have := Hlen.out; omega
      go_wp2_with fail
      go_ret
      refine ⟨⟨-1, rfl, .inr ⟨rfl, fun j y hj => Hno.out j y ?_ hj⟩⟩, Hf.out⟩
      rw [hke]
      exact (List.getElem?_eq_some_iff.1 hj).1

set_option maxHeartbeats 400000 in
theorem in2 (x : PrefixM) (hx : x.wf) (n : Nat) (hn : n < 4294967296) (g : Nat) (w : World) (hg : w.cell? ⟨g, 0, none⟩ = some (.int .u32 (n : Nat))) :
    Calls Try.prog 26 #[x.val, .pointer (some ⟨g, 0, none⟩)] w fun e w' => e = .returned (.bool (hasB x.addr x.len n)) ∧ Fr noB w w' := by
  unfold PrefixM.val
  have hx1 : x.addr < 4294967296 := hx.1
  have hlt := block_of_cell hg
  go_enter Try.func26, Try.ntmps26
  go_wp2_with fail
  refine (addr_Has _ _ _ hx1 hn _).mono ?_
  rintro e w1 ⟨rfl, hf⟩
  have Hf := hide hf
  clear hf
  go_wp2_with fail
  go_ret
  exact ⟨rfl, ((Fr.refl _ _).alloc _).tr Hf.out⟩

set_option maxHeartbeats 800000 in
theorem indexPrefix (s : SlV) (ts : List PrefixM) (n : Nat) (hn : n < 4294967296) (g : Nat) (w : World) (hs : SlOf w 2 PrefixM.cells PrefixM.wf s ts) (hg : w.cell? ⟨g, 0, none⟩ = some (.int .u32 (n : Nat))) :
    Calls Try.prog 29 #[.slice s.a s.len s.cap, .func (.func 26) #[] #[.pointer (some ⟨g, 0, none⟩)]] w
      fun e w' => (∃ m, e = .returned (.int .i64 m) ∧ IdxIs (fun t => hasB t.addr t.len n) ts m) ∧ Fr noB w w' := by
  have hlt := block_of_cell hg
  obtain ⟨a, len, cap⟩ := s
  have hlen : len = ts.length := hs.1
  have hmax : len ≤ maxLen := hs.2.1
  unfold maxLen at hmax
  have Hs := hide hs; have Hlen := hide hlen; have Hg := hide hg
  clear hs hlen hg
  go_enter Try.func29, Try.ntmps29
  go_wp2_with fail
  go_loopw [8] (IdxAt (fun t : PrefixM => hasB t.addr t.len n) ts w) (fun i _ => len - (intOf i).toNat)
  case atStart => exact ⟨0, Nat.zero_le _, rfl, fun _ _ h => absurd h (Nat.not_lt_zero _), Fr.refl _ _⟩
  case round =>
    obtain ⟨k, hk, rfl, hno, hf⟩ := hrel
    have Hno := hide hno; have Hf := hide hf
    clear hno hf
    by_cases hlt2 : k < len
    · have hk2 : k < ts.length := by have := Hlen.out; omega
      have hx : ts[k]? = some ts[k] := List.getElem?_eq_getElem hk2
      obtain ⟨b, o, rfl, hb, hc, hwf⟩ := (Hs.out.fr Hf.out (fun _ _ h => h) (fun _ h => h)).at hx
      obtain ⟨c0, c1⟩ := cells2 hc
      have Hx := hide hx
      clear hx hc hk
      generalize ts[k] = t at *
      have hmul : ((k : Int) * 2).toNat = k * 2 := by omega
      have hgr : wr.cell? ⟨g, 0, none⟩ = some (.int .u32 (n : Nat)) := (Hf.out.cell hlt (fun h => h)).trans Hg.out
      go_wp2_with fail
      refine (in2 t hwf n hn g wr hgr).mono ?_
      rintro e w2 ⟨rfl, hf2⟩
      have Hf2 := hide hf2
      clear hf2 hgr c0 c1
      cases hp : hasB t.addr t.len n with
      | true =>
        go_wp2_with fail
        go_ret
        exact ⟨⟨_, rfl, .inl ⟨k, t, rfl, Hx.out, hp, Hno.out⟩⟩, Hf.out.tr Hf2.out⟩
      | false =>
        have Hp := hide hp
        clear hp
        go_wp2_with fail
        go_roundw
        case rel =>
          refine ⟨k + 1, by omega, by go_num, fun j y hj hy => ?_, Hf.out.tr Hf2.out⟩
          by_cases e : j = k
          · subst e
            rw [Hx.out] at hy
            obtain rfl := Option.some.inj hy
            exact Hp.out
          · exact Hno.out j y (by omega) hy
        case measure => simp [intOf]; omega
    · have hke : k = ts.length := by have := Hlen.out; omega
      go_wp2_with fail
      go_ret
      refine ⟨⟨-1, rfl, .inr ⟨rfl, fun j y hj => Hno.out j y ?_ hj⟩⟩, Hf.out⟩
      rw [hke]
      exact (List.getElem?_eq_some_iff.1 hj).1


/-- slices.ContainsFunc at prefixes. -/
theorem any_of_idx {α : Type} {p : α → Bool} {xs : List α} {n : Int} (h : IdxIs p xs n) : (decide (0 ≤ n)) = xs.any p := by
  rcases h with ⟨i, x, rfl, hx, hp, _⟩ | ⟨rfl, hno⟩
  · have : xs.any p = true := List.any_eq_true.2 ⟨x, List.mem_of_getElem? hx, hp⟩
    rw [this]; simp
  · have : xs.any p = false := by
      rw [List.any_eq_false]
      intro x hx
      obtain ⟨j, hj⟩ := List.getElem?_of_mem hx
      simp [hno j x hj]
    rw [this]; rfl

set_option maxHeartbeats 400000 in
theorem containsPrefix (s : SlV) (ts : List PrefixM) (n : Nat) (hn : n < 4294967296) (g : Nat) (w : World) (hs : SlOf w 2 PrefixM.cells PrefixM.wf s ts) (hg : w.cell? ⟨g, 0, none⟩ = some (.int .u32 (n : Nat))) :
    Calls Try.prog 25 #[.slice s.a s.len s.cap, .func (.func 26) #[] #[.pointer (some ⟨g, 0, none⟩)]] w
      fun e w' => e = .returned (.bool (ts.any (fun t => hasB t.addr t.len n))) ∧ Fr noB w w' := by
  have Hs := hide hs; have Hg := hide hg
  clear hs hg
  go_enter Try.func25, Try.ntmps25
  go_wp2_with fail
  refine (indexPrefix s ts n hn g _ Hs.out Hg.out).mono ?_
  rintro e w1 ⟨⟨m, rfl, hi⟩, hf⟩
  have Hi := hide (any_of_idx hi)
  have Hf := hide hf
  clear hf hi
  go_wp2_with fail
  go_ret
  exact ⟨ret_bool Hi.out, Hf.out⟩

theorem inB_of_idx {ts : List TableM} {name : ByteArray} {a : Nat} {n : Int} (h : IdxIs (fun t => strEq t.nm.name name) ts n) :
    (n < 0 ∧ inB ts name a = false) ∨ ∃ (i : Nat) (t : TableM), n = (i : Int) ∧ ts[i]? = some t ∧ inB ts name a = t.l.any (fun p => hasB p.addr p.len a) := by
  rcases h with ⟨i, t, rfl, hx, hp, hno⟩ | ⟨rfl, hno⟩
  · refine .inr ⟨i, t, rfl, hx, ?_⟩
    have hf : ts.find? (fun t => strEq t.nm.name name) = some t := by
      rw [List.find?_eq_some_iff_getElem]
      refine ⟨hp, i, (List.getElem?_eq_some_iff.1 hx).1, (List.getElem?_eq_some_iff.1 hx).2, fun j hj => ?_⟩
      have hjl : j < ts.length := Nat.lt_trans hj (List.getElem?_eq_some_iff.1 hx).1
      simp [hno j ts[j] hj (List.getElem?_eq_getElem hjl)]
    unfold inB
    rw [hf]
  · refine .inl ⟨by omega, ?_⟩
    have hf : ts.find? (fun t => strEq t.nm.name name) = none := by
      rw [List.find?_eq_none]
      intro x hx
      obtain ⟨j, hj⟩ := List.getElem?_of_mem hx
      simp [hno j x hj]
    unfold inB
    rw [hf]

set_option maxHeartbeats 800000 in
theorem match_in (s : SlV) (ts : List TableM) (name : ByteArray) (n : Nat) (hn : n < 4294967296) (w : World) (hs : Tabs w s ts) :
    Calls Try.prog 19 #[.slice s.a s.len s.cap, .string name, .int .u32 (n : Nat)] w fun e w' => e = .returned (.bool (inB ts name n)) ∧ Fr noB w w' := by
  have Hs := hide hs
  clear hs
  go_enter Try.func19, Try.ntmps19
  go_wp2_with fail
  have hf0 : Fr noB w ((w.alloc (.cells #[.string name] 9)).alloc (.cells #[.int .u32 (n : Nat)] 24)) := ((Fr.refl _ _).alloc _).alloc _
  have hg0 : ((w.alloc (.cells #[.string name] 9)).alloc (.cells #[.int .u32 (n : Nat)] 24)).cell? ⟨w.heap.size, 0, none⟩ = some (.string name) := by go_simp
  have hg1 : ((w.alloc (.cells #[.string name] 9)).alloc (.cells #[.int .u32 (n : Nat)] 24)).cell? ⟨w.heap.size + 1, 0, none⟩ = some (.int .u32 (n : Nat)) := by go_simp
  have hz0 : w.heap.size + 1 < ((w.alloc (.cells #[.string name] 9)).alloc (.cells #[.int .u32 (n : Nat)] 24)).heap.size := by simp
  generalize (w.alloc (.cells #[.string name] 9)).alloc (.cells #[.int .u32 (n : Nat)] 24) = w1 at *
  have Hf0 := hide hf0; have Hg0 := hide hg0; have Hg1 := hide hg1
  clear hf0 hg0 hg1
  refine (indexNamed s ts name _ _ (Hs.out.fr Hf0.out) Hg0.out).mono ?_
  rintro e w2 ⟨⟨m, rfl, hi⟩, hf⟩
  have Hf := hide hf
  clear hf
  rcases inB_of_idx (a := n) hi with ⟨hm, hb⟩ | ⟨i, t, rfl, ht, hb⟩
  · have Hb := hide hb
    clear hb hi
    go_wp2_with fail
    go_ret
    exact ⟨ret_bool Hb.out.symm, Hf0.out.tr Hf.out⟩
  · have Hb := hide hb
    have hil : i < s.len := by
      have := (List.getElem?_eq_some_iff.1 ht).1
      have := Hs.out.1
      omega
    clear hb hi
    obtain ⟨b, o, hsa, hb, hc, hok⟩ := SlOf.at ((Hs.out.fr Hf0.out).fr Hf.out) ht
    obtain ⟨c0, c1⟩ := cells2 hc
    obtain ⟨a, len, cap⟩ := s
    simp only at hsa hil
    subst hsa
    clear hc ht
    have Hok := hide hok
    clear hok
    have hmul : ((i : Int) * 2).toNat = i * 2 := by omega
    go_wp2_with fail
    refine (containsPrefix t.nm.l t.l n hn _ _ Hok.out.2 ?_).mono ?_
    · exact (Hf.out.cell hz0 (fun h => h)).trans Hg1.out
    rintro e w3 ⟨rfl, hf3⟩
    have Hf3 := hide hf3
    clear hf3
    go_wp2_with fail
    go_ret
    exact ⟨ret_bool Hb.out.symm, (Hf0.out.tr Hf.out).tr Hf3.out⟩

/-- Is an address and a port in a side? -/
def sideB (s : SideM) (ts : List TableM) (a : Nat) (port : Int) : Bool :=
  if port < s.ports.low ∨ s.ports.high < port then false
  else if s.any then true
  else if s.table.toList.isEmpty then hasB s.pfx.addr s.pfx.len a
  else inB ts s.table a

set_option maxHeartbeats 800000 in
theorem match_side (x : SideM) (hx : x.wf) (s : SlV) (ts : List TableM) (n : Nat) (hn : n < 4294967296) (port : Int) (w : World) (hs : Tabs w s ts) :
    Calls Try.prog 14 #[x.val, .slice s.a s.len s.cap, .int .u32 (n : Nat), .int .i64 port] w fun e w' => e = .returned (.bool (sideB x ts n port)) ∧ Fr noB w w' := by
  have Hs := hide hs
  clear hs
  have hp1 : x.pfx.addr < 4294967296 := hx.2.1.1
  unfold SideM.val
  by_cases h1 : port < x.ports.low
  · have Fin := hide (show sideB x ts n port = false by unfold sideB; rw [if_pos (.inl h1)])
    go_enter Try.func14, Try.ntmps14
    go_wp2_with fail
    go_ret
    exact ⟨ret_bool Fin.out.symm, (Fr.refl _ _).alloc _⟩
  by_cases h2 : x.ports.high < port
  · have Fin := hide (show sideB x ts n port = false by unfold sideB; rw [if_pos (.inr h2)])
    go_enter Try.func14, Try.ntmps14
    go_wp2_with fail
    go_ret
    exact ⟨ret_bool Fin.out.symm, (Fr.refl _ _).alloc _⟩
  have h12 : ¬ (port < x.ports.low ∨ x.ports.high < port) := by omega
  by_cases h3 : x.any = true
  · have Fin := hide (show sideB x ts n port = true by unfold sideB; rw [if_neg h12, if_pos h3])
    clear h12
    go_enter Try.func14, Try.ntmps14
    go_wp2_with fail
    go_ret
    exact ⟨ret_bool Fin.out.symm, (Fr.refl _ _).alloc _⟩
  have h3' : x.any = false := by simpa using h3
  by_cases h4 : x.table.toList.isEmpty = true
  · have Fin := hide (show sideB x ts n port = hasB x.pfx.addr x.pfx.len n by unfold sideB; rw [if_neg h12, if_neg h3, if_pos h4])
    clear h12
    go_enter Try.func14, Try.ntmps14
    go_wp2_with fail
    refine (addr_Has _ _ _ hp1 hn _).mono ?_
    rintro e w1 ⟨rfl, hf⟩
    have Hf := hide hf
    clear hf
    go_wp2_with fail
    go_ret
    exact ⟨ret_bool Fin.out.symm, ((Fr.refl _ _).alloc _).tr Hf.out⟩
  · have h4' : x.table.toList.isEmpty = false := by simpa using h4
    have Fin := hide (show sideB x ts n port = inB ts x.table n by unfold sideB; rw [if_neg h12, if_neg h3, if_neg h4])
    clear h12
    go_enter Try.func14, Try.ntmps14
    go_wp2_with fail
    refine (match_in s ts _ n hn _ (Hs.out.fr ((Fr.refl _ _).alloc _))).mono ?_
    rintro e w1 ⟨rfl, hf⟩
    have Hf := hide hf
    clear hf
    go_wp2_with fail
    go_ret
    exact ⟨ret_bool Fin.out.symm, ((Fr.refl _ _).alloc _).tr Hf.out⟩

/-- The ports that count. -/
def portA (p : PacketM) : Int := if p.ip.proto = 6 ∨ p.ip.proto = 17 then p.src else 0
def portB (p : PacketM) : Int := if p.ip.proto = 6 ∨ p.ip.proto = 17 then p.dst else 0
/-- Does a rule mean a packet? -/
def ruleB (r : RuleM) (ts : List TableM) (iface : ByteArray) (p : PacketM) : Bool :=
  (r.on.toList.isEmpty || strEq r.on iface) && (r.proto == 0 || r.proto == p.ip.proto) && sideB r.frm ts p.ip.src (portA p) && sideB r.to ts p.ip.dst (portB p) &&
    (r.mask == 0 || bits .and .i64 p.flags r.mask == r.set) && (r.kind == -1 || r.kind == p.kind)

theorem match_side_v {x : SideM} {s : SlV} {ts : List TableM} {n : Nat} {port : Int} {b : Bool} (h : sideB x ts n port = b) (hx : x.wf) (hn : n < 4294967296) (w : World) (hs : Tabs w s ts) :
    Calls Try.prog 14 #[x.val, .slice s.a s.len s.cap, .int .u32 (n : Nat), .int .i64 port] w fun e w' => e = .returned (.bool b) ∧ Fr noB w w' := by
  rw [← h]; exact match_side x hx s ts n hn port w hs

end Go.Proofs.Ytgdbafgkledpbaa

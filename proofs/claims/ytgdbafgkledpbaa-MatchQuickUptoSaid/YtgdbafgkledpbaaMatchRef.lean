/- The document's answer to chapter 15: In, Side, One. -/
import Derived.Test.YtgdbafgkledpbaaMatchOne
import Derived.Deep.DeepCutAuto
namespace Go.Proofs.Ytgdbafgkledpbaa
open Go.RowKit Go.BigFrame
set_option linter.unusedSimpArgs false
set_option linter.unusedVariables false

theorem inB_hit {ts : List TableM} {name : ByteArray} {a k : Nat} {t : TableM} (hx : ts[k]? = some t) (hp : strEq t.nm.name name = true)
    (hno : ∀ (j : Nat) (y : TableM), j < k → ts[j]? = some y → strEq y.nm.name name = false) : inB ts name a = t.l.any (fun p => hasB p.addr p.len a) := by
  rcases inB_of_idx (a := a) (.inl ⟨k, t, rfl, hx, hp, hno⟩ : IdxIs (fun t => strEq t.nm.name name) ts (k : Int)) with ⟨h, _⟩ | ⟨i, t', hi, ht, h⟩
  · omega
  · obtain rfl : k = i := by omega
    rw [hx] at ht
    obtain rfl := Option.some.inj ht
    exact h
theorem inB_miss {ts : List TableM} {name : ByteArray} {a : Nat} (hno : ∀ (j : Nat) (y : TableM), ts[j]? = some y → strEq y.nm.name name = false) : inB ts name a = false := by
  rcases inB_of_idx (a := a) (.inr ⟨rfl, hno⟩ : IdxIs (fun t => strEq t.nm.name name) ts (-1)) with ⟨_, h⟩ | ⟨i, t', hi, _⟩
  · exact h
  · omega

set_option maxHeartbeats 1600000 in
theorem ref_in (s : SlV) (ts : List TableM) (name : ByteArray) (n : Nat) (hn : n < 4294967296) (w : World) (hs : Tabs w s ts) :
    Calls Try.prog 21 #[.slice s.a s.len s.cap, .string name, .int .u32 (n : Nat)] w fun e w' => e = .returned (.bool (inB ts name n)) ∧ Fr noB w w' := by
  obtain ⟨a, len, cap⟩ := s
  have hlen : len = ts.length := hs.1
  have hmax : len ≤ maxLen := hs.2.1
  unfold maxLen at hmax
  have Hs := hide hs; have Hlen := hide hlen
  clear hs hlen
  go_enter Try.func21, Try.ntmps21
  go_wp2_with fail
  go_loopw [7] (IdxAt (fun t : TableM => strEq t.nm.name name) ts w) (fun i _ => len - (intOf i).toNat)
  case atStart => exact ⟨0, Nat.zero_le _, rfl, fun _ _ h => absurd h (Nat.not_lt_zero _), Fr.refl _ _⟩
  case round =>
    obtain ⟨k, hk, rfl, hno, hf⟩ := hrel
    have Hno := hide hno; have Hf := hide hf
    clear hno hf
    by_cases hlt2 : k < len
    · have hk2 : k < ts.length := by have := Hlen.out; omega
      have hx : ts[k]? = some ts[k] := List.getElem?_eq_getElem hk2
      obtain ⟨b, o, rfl, hb, hc, hok⟩ := SlOf.at (Hs.out.fr Hf.out) hx
      obtain ⟨c0, c1⟩ := cells2 hc
      have Hx := hide hx; have Hok := hide hok
      clear hx hc hk hok
      generalize ts[k] = t at *
      have hmul : ((k : Int) * 2).toNat = k * 2 := by omega
      cases hp : strEq t.nm.name name with
      | false =>
        have hp' : (t.nm.name.toList == name.toList) = false := hp
        have Hp := hide hp
        clear hp
        go_wp2_with fail
        clear hp'
        go_roundw
        case rel =>
          refine ⟨k + 1, by omega, by go_num, fun j y hj hy => ?_, Hf.out⟩
          by_cases e : j = k
          · subst e
            rw [Hx.out] at hy
            obtain rfl := Option.some.inj hy
            exact Hp.out
          · exact Hno.out j y (by omega) hy
        case measure => simp [intOf]; omega
      | true =>
        have hp' : (t.nm.name.toList == name.toList) = true := hp
        have Fin := hide (inB_hit (a := n) Hx.out hp Hno.out)
        clear hp
        go_wp2_with fail
        clear hp'
        obtain ⟨sl, ln⟩ : ∃ sl : SlV, sl = t.nm.l := ⟨_, rfl⟩
        have hsl : SlOf wr 2 PrefixM.cells PrefixM.wf t.nm.l t.l := Hok.out.2
        have hll : t.nm.l.len = t.l.length := hsl.1
        have hlm : t.nm.l.len ≤ maxLen := hsl.2.1
        unfold maxLen at hlm
        have Hsl := hide hsl; have Hll := hide hll
        clear hsl hll Hok
        rw [← ln] at c1 hlm Hsl Hll
        clear ln
        obtain ⟨la, ll, lc⟩ := sl
        simp only at c1 hlm Hsl Hll
        obtain ⟨wo, rfl⟩ : ∃ wo : World, wo = wr := ⟨_, rfl⟩
        go_loopw [8] (IdxAt (fun q : PrefixM => hasB q.addr q.len n) t.l wo) (fun i _ => ll - (intOf i).toNat)
        case atStart => exact ⟨0, Nat.zero_le _, rfl, fun _ _ h => absurd h (Nat.not_lt_zero _), Fr.refl _ _⟩
        case round =>
          obtain ⟨m, hm, rfl, hno2, hf2⟩ := hrel
          have Hno2 := hide hno2; have Hf2 := hide hf2
          have c0' : wr.cell? ⟨b, o + k * 2, none⟩ = _ := (hf2.cell hb (fun h => h)).trans c0
          have c1' : wr.cell? ⟨b, o + k * 2 + 1, none⟩ = _ := (hf2.cell hb (fun h => h)).trans c1
          have C0 := hide c0; have C1 := hide c1
          clear hno2 hf2 c0 c1
          by_cases hlt3 : m < ll
          · have hm2 : m < t.l.length := by have := Hll.out; omega
            have hy : t.l[m]? = some t.l[m] := List.getElem?_eq_getElem hm2
            obtain ⟨b2, o2, rfl, hb2, hc2, hwf⟩ := SlOf.at (Hsl.out.fr Hf2.out (fun _ _ h => h) (fun _ h => h)) hy
            obtain ⟨d0, d1⟩ := cells2 hc2
            have Hy := hide hy
            clear hy hc2 hm
            generalize t.l[m] = q at *
            have hmul2 : ((m : Int) * 2).toNat = m * 2 := by omega
            go_wp2_with fail
            refine (ref3_Has _ _ _ hwf.1 hn _).mono ?_
            rintro e w3 ⟨rfl, hf3⟩
            have Hf3 := hide hf3
            clear hf3 c0' c1' d0 d1
            cases hq : hasB q.addr q.len n with
            | true =>
              have Hq := hide hq
              clear hq
              go_wp2_with fail
              go_ret
              refine ⟨ret_bool ?_, (Hf.out.tr Hf2.out).tr Hf3.out⟩
              rw [Fin.out]
              exact (List.any_eq_true.2 ⟨q, List.mem_of_getElem? Hy.out, Hq.out⟩).symm
            | false =>
              have Hq := hide hq
              clear hq
              go_wp2_with fail
              go_roundw
              case rel =>
                refine ⟨m + 1, by omega, by go_num, fun j y hj hy => ?_, Hf2.out.tr Hf3.out⟩
                by_cases e : j = m
                · subst e
                  rw [Hy.out] at hy
                  obtain rfl := Option.some.inj hy
                  exact Hq.out
                · exact Hno2.out j y (by omega) hy
              case measure => simp [intOf]; omega
          · have hme : m = t.l.length := by have := Hll.out; omega
            have Hme := hide hme
            clear hme
            go_wp2_with fail
            go_ret
            refine ⟨ret_bool ?_, Hf.out.tr Hf2.out⟩
            rw [Fin.out]
            symm
            rw [List.any_eq_false]
            intro y hy
            obtain ⟨j, hj⟩ := List.getElem?_of_mem hy
            simp [Hno2.out j y (by rw [Hme.out]; exact (List.getElem?_eq_some_iff.1 hj).1) hj]
    · have hke : k = ts.length := by have := Hlen.out; omega
      have Hke := hide hke
      clear hke
      go_wp2_with fail
      go_ret
      refine ⟨ret_bool (inB_miss fun j y hj => Hno.out j y ?_ hj).symm, Hf.out⟩
      rw [Hke.out]
      exact (List.getElem?_eq_some_iff.1 hj).1

set_option maxHeartbeats 800000 in
theorem ref_side (x : SideM) (hx : x.wf) (s : SlV) (ts : List TableM) (n : Nat) (hn : n < 4294967296) (port : Int) (w : World) (hs : Tabs w s ts) :
    Calls Try.prog 15 #[x.val, .slice s.a s.len s.cap, .int .u32 (n : Nat), .int .i64 port] w fun e w' => e = .returned (.bool (sideB x ts n port)) ∧ Fr noB w w' := by
  have Hs := hide hs
  clear hs
  have hp1 : x.pfx.addr < 4294967296 := hx.2.1.1
  unfold SideM.val
  by_cases h1 : port < x.ports.low
  · have Fin := hide (show sideB x ts n port = false by unfold sideB; rw [if_pos (.inl h1)])
    go_enter Try.func15, Try.ntmps15
    go_wp2_with fail
    go_ret
    exact ⟨ret_bool Fin.out.symm, (Fr.refl _ _).alloc _⟩
  by_cases h2 : x.ports.high < port
  · have Fin := hide (show sideB x ts n port = false by unfold sideB; rw [if_pos (.inr h2)])
    go_enter Try.func15, Try.ntmps15
    go_wp2_with fail
    go_ret
    exact ⟨ret_bool Fin.out.symm, (Fr.refl _ _).alloc _⟩
  have h12 : ¬ (port < x.ports.low ∨ x.ports.high < port) := by omega
  by_cases h3 : x.any = true
  · have Fin := hide (show sideB x ts n port = true by unfold sideB; rw [if_neg h12, if_pos h3])
    clear h12
    go_enter Try.func15, Try.ntmps15
    go_wp2_with fail
    go_ret
    exact ⟨ret_bool Fin.out.symm, (Fr.refl _ _).alloc _⟩
  have h3' : x.any = false := by simpa using h3
  by_cases h4 : x.table.toList.isEmpty = true
  · have Fin := hide (show sideB x ts n port = hasB x.pfx.addr x.pfx.len n by unfold sideB; rw [if_neg h12, if_neg h3, if_pos h4])
    clear h12
    go_enter Try.func15, Try.ntmps15
    go_wp2_with fail
    refine (ref3_Has _ _ _ hp1 hn _).mono ?_
    rintro e w1 ⟨rfl, hf⟩
    have Hf := hide hf
    clear hf
    go_wp2_with fail
    go_ret
    exact ⟨ret_bool Fin.out.symm, ((Fr.refl _ _).alloc _).tr Hf.out⟩
  · have h4' : x.table.toList.isEmpty = false := by simpa using h4
    have Fin := hide (show sideB x ts n port = inB ts x.table n by unfold sideB; rw [if_neg h12, if_neg h3, if_neg h4])
    clear h12
    go_enter Try.func15, Try.ntmps15
    go_wp2_with fail
    refine (ref_in s ts _ n hn _ (Hs.out.fr ((Fr.refl _ _).alloc _))).mono ?_
    rintro e w1 ⟨rfl, hf⟩
    have Hf := hide hf
    clear hf
    go_wp2_with fail
    go_ret
    exact ⟨ret_bool Fin.out.symm, ((Fr.refl _ _).alloc _).tr Hf.out⟩

theorem ref_side_v {x : SideM} {s : SlV} {ts : List TableM} {n : Nat} {port : Int} {b : Bool} (h : sideB x ts n port = b) (hx : x.wf) (hn : n < 4294967296) (w : World) (hs : Tabs w s ts) :
    Calls Try.prog 15 #[x.val, .slice s.a s.len s.cap, .int .u32 (n : Nat), .int .i64 port] w fun e w' => e = .returned (.bool b) ∧ Fr noB w w' := by
  rw [← h]; exact ref_side x hx s ts n hn port w hs


def Rb1 (r : RuleM) (iface : ByteArray) : Bool := !r.on.toList.isEmpty && !(r.on.toList == iface.toList)
def Rb2 (r : RuleM) (p : PacketM) : Bool := !(r.proto == 0) && !(r.proto == p.ip.proto)
def Rb3 (r : RuleM) (p : PacketM) : Bool := !(r.mask == 0) && !(bits .and .i64 p.flags r.mask == r.set)
def Rb4 (r : RuleM) (p : PacketM) : Bool := !(r.kind == -1) && !(r.kind == p.kind)
theorem ruleB_eq (r : RuleM) (ts : List TableM) (iface : ByteArray) (p : PacketM) :
    ruleB r ts iface p = (!Rb1 r iface && !Rb2 r p && !Rb3 r p && !Rb4 r p && sideB r.frm ts p.ip.src (portA p) && sideB r.to ts p.ip.dst (portB p)) := by
  simp only [ruleB, Rb1, Rb2, Rb3, Rb4, strEq, Bool.not_and, Bool.not_not]
  generalize (r.on.toList.isEmpty || (r.on.toList == iface.toList)) = a1
  generalize (r.proto == 0 || r.proto == p.ip.proto) = a2
  generalize (r.mask == 0 || bits .and .i64 p.flags r.mask == r.set) = a3
  generalize (r.kind == -1 || r.kind == p.kind) = a4
  generalize sideB r.frm ts p.ip.src (portA p) = a5
  generalize sideB r.to ts p.ip.dst (portB p) = a6
  cases a1 <;> cases a2 <;> cases a3 <;> cases a4 <;> cases a5 <;> cases a6 <;> rfl


set_option maxRecDepth 100000 in
set_option maxHeartbeats 4000000 in
theorem ref_one (r : RuleM) (hr : r.wf) (p : PacketM) (hp : p.wf) (iface : ByteArray) (s : SlV) (ts : List TableM) (w : World) (hs : Tabs w s ts) :
    Calls Try.prog 11 #[r.val, .slice s.a s.len s.cap, .string iface, p.val] w fun e w' => e = .returned (.bool (ruleB r ts iface p)) ∧ Fr noB w w' := by
  have Hs := hide hs
  clear hs
  unfold RuleM.val PacketM.val
  go_enter Try.func11, Try.ntmps11
  go_upto_region 1 with (fail)
  have hb1 : Blk ((w.alloc (.cells r.cells.toArray 43)).alloc (.cells p.cells.toArray 30)) w.heap.size r.cells.toArray 43 := (Blk.alloc_new _ _ _).fr ((Fr.refl noB _).alloc _) (fun h => h)
  have hb2 : Blk ((w.alloc (.cells r.cells.toArray 43)).alloc (.cells p.cells.toArray 30)) (w.heap.size + 1) p.cells.toArray 30 := by
    have h := Blk.alloc_new (w.alloc (.cells r.cells.toArray 43)) p.cells.toArray 30
    simpa using h
  have hf : Fr noB w ((w.alloc (.cells r.cells.toArray 43)).alloc (.cells p.cells.toArray 30)) := ((Fr.refl _ _).alloc _).alloc _
  unfold RuleM.cells PacketM.cells at hb1 hb2 hf
  generalize (w.alloc _).alloc _ = w1 at *
  have Hf := hide hf
  clear hf
  have hR := fun j => hb1.cell j
  have hP := fun j => hb2.cell j
  have hGR := fun (z : Grow w1) j => Grow.blk hb1 z j
  have hGP := fun (z : Grow w1) j => Grow.blk hb2 z j
  have Hh := hide hGR; have Hh2 := hide hGP
  clear hGR hGP Hh Hh2
  have HB1 := hide hb1; have HB2 := hide hb2
  clear hb1 hb2
  go_quiet (fail)
  go_upto_region 2 with (fail)
  have hf1 := (Fr.refl noB w1).drewN nq
  generalize hw2 : w1.drewN nq = w2 at *
  have Hf1 := hide hf1
  have hR := fun j => (HB1.out.fr Hf1.out (fun h => h)).cell j
  have hP := fun j => (HB2.out.fr Hf1.out (fun h => h)).cell j
  clear hw2 hf1
  go_cut [24] (fun v wr => v = .bool (!IsTU p) ∧ w2 = wr)
  case first =>
    by_cases h6 : p.ip.proto = 6
    · have hq1 : (p.ip.proto != 6) = false := by simp [h6]
      have Fin := hide (show (!IsTU p) = false by simp [IsTU, h6])
      clear h6
      go_wp2_with fail
      go_meet
      exact ⟨by rw [Fin.out], rfl⟩
    have hq1 : (p.ip.proto != 6) = true := by simp [h6]
    by_cases h17 : p.ip.proto = 17
    · have hq2 : (p.ip.proto != 17) = false := by simp [h17]
      have Fin := hide (show (!IsTU p) = false by simp [IsTU, h17])
      clear h6 h17
      go_wp2_with fail
      go_meet
      exact ⟨by rw [Fin.out], rfl⟩
    · have hq2 : (p.ip.proto != 17) = true := by simp [h17]
      have Fin := hide (show (!IsTU p) = true by simp [IsTU, h6, h17])
      clear h6 h17
      go_wp2_with fail
      go_meet
      exact ⟨by rw [Fin.out], rfl⟩
  case rest =>
    obtain ⟨rfl, rfl⟩ := hcut
    go_upto_if 24 with (fail)
    go_cut [9, 10] (fun a b wr => OneAt p a b ∧ w2 = wr)
    case first =>
      cases ht : IsTU p with
      | true =>
        have Fin := hide (show OneAt p (.int .i64 p.src) (.int .i64 p.dst) by have h := of_decide_eq_true ht; exact ⟨by unfold portA; rw [if_pos h], by unfold portB; rw [if_pos h]⟩)
        clear ht
        go_wp2_with fail
        go_meet
        exact ⟨Fin.out, rfl⟩
      | false =>
        have Fin := hide (show OneAt p (.int .i64 0) (.int .i64 0) by have h := of_decide_eq_false ht; exact ⟨by unfold portA; rw [if_neg h], by unfold portB; rw [if_neg h]⟩)
        clear ht
        go_wp2_with fail
        go_meet
        exact ⟨Fin.out, rfl⟩
    case rest =>
      obtain ⟨⟨rfl, rfl⟩, rfl⟩ := hcut
      have hr1 : r.frm.wf := hr.2.2.1
      have hr2 : r.to.wf := hr.2.2.2.1
      have hp1 : p.ip.src < 4294967296 := hp.1.2.2.2.2.2.1
      have hp2 : p.ip.dst < 4294967296 := hp.1.2.2.2.2.2.2
      have Eq := hide (ruleB_eq r ts iface p)
      clear hr hp
      go_upto_region 4 with (fail)
      go_cut [25] (fun v wr => v = .bool (Rb1 r iface) ∧ w2 = wr)
      case first =>
        cases h1 : (r.on.toList.isEmpty) with
        | true =>
          have Fin := hide (show Rb1 r iface = false by simp [Rb1, h1])
          go_wp2_with fail
          go_meet
          exact ⟨by rw [Fin.out], rfl⟩
        | false =>
          cases h2 : (r.on.toList == iface.toList) with
          | true =>
            have Fin := hide (show Rb1 r iface = false by simp [Rb1, h1, h2])
            go_wp2_with fail
            go_meet
            exact ⟨by rw [Fin.out], rfl⟩
          | false =>
            have Fin := hide (show Rb1 r iface = true by simp [Rb1, h1, h2])
            go_wp2_with fail
            go_meet
            exact ⟨by rw [Fin.out], rfl⟩
      case rest =>
        obtain ⟨rfl, rfl⟩ := hcut
        cases hb0 : Rb1 r iface with
        | true =>
          have Fin := hide (show ruleB r ts iface p = false by rw [Eq.out]; simp [hb0])
          clear hb0
          go_wp2_with fail
          go_ret
          exact ⟨ret_bool Fin.out.symm, Hf.out.tr Hf1.out⟩
        | false =>
          go_upto_region 5 with (fail)
          go_cut [25] (fun v wr => v = .bool (Rb2 r p) ∧ w2 = wr)
          case first =>
            cases h1 : (r.proto == 0) with
            | true =>
              have g1 : (r.proto != 0) = false := by rw [bne, h1]; rfl
              have Fin := hide (show Rb2 r p = false by simp [Rb2, h1])
              clear h1
              go_wp2_with fail
              go_meet
              exact ⟨by rw [Fin.out], rfl⟩
            | false =>
              have g1 : (r.proto != 0) = true := by rw [bne, h1]; rfl
              cases h2 : (r.proto == p.ip.proto) with
              | true =>
                have g2 : (r.proto != p.ip.proto) = false := by rw [bne, h2]; rfl
                have Fin := hide (show Rb2 r p = false by simp [Rb2, h1, h2])
                clear h1
                clear h2
                go_wp2_with fail
                go_meet
                exact ⟨by rw [Fin.out], rfl⟩
              | false =>
                have g2 : (r.proto != p.ip.proto) = true := by rw [bne, h2]; rfl
                have Fin := hide (show Rb2 r p = true by simp [Rb2, h1, h2])
                clear h1
                clear h2
                go_wp2_with fail
                go_meet
                exact ⟨by rw [Fin.out], rfl⟩
          case rest =>
            obtain ⟨rfl, rfl⟩ := hcut
            cases hb1 : Rb2 r p with
            | true =>
              have Fin := hide (show ruleB r ts iface p = false by rw [Eq.out]; simp [hb0, hb1])
              clear hb0 hb1
              go_wp2_with fail
              go_ret
              exact ⟨ret_bool Fin.out.symm, Hf.out.tr Hf1.out⟩
            | false =>
              go_upto_region 7 with (fail)
              go_cut [46] (fun v wr => v = .bool (Rb3 r p) ∧ w2 = wr)
              case first =>
                cases h1 : (r.mask == 0) with
                | true =>
                  have g1 : (r.mask != 0) = false := by rw [bne, h1]; rfl
                  have Fin := hide (show Rb3 r p = false by simp [Rb3, h1])
                  clear h1
                  go_wp2_with fail
                  go_meet
                  exact ⟨by rw [Fin.out], rfl⟩
                | false =>
                  have g1 : (r.mask != 0) = true := by rw [bne, h1]; rfl
                  cases h2 : (bits .and .i64 p.flags r.mask == r.set) with
                  | true =>
                    have g2 : (bits .and .i64 p.flags r.mask != r.set) = false := by rw [bne, h2]; rfl
                    have Fin := hide (show Rb3 r p = false by simp [Rb3, h1, h2])
                    clear h1
                    clear h2
                    go_wp2_with fail
                    go_meet
                    exact ⟨by rw [Fin.out], rfl⟩
                  | false =>
                    have g2 : (bits .and .i64 p.flags r.mask != r.set) = true := by rw [bne, h2]; rfl
                    have Fin := hide (show Rb3 r p = true by simp [Rb3, h1, h2])
                    clear h1
                    clear h2
                    go_wp2_with fail
                    go_meet
                    exact ⟨by rw [Fin.out], rfl⟩
              case rest =>
                obtain ⟨rfl, rfl⟩ := hcut
                cases hb2 : Rb3 r p with
                | true =>
                  have Fin := hide (show ruleB r ts iface p = false by rw [Eq.out]; simp [hb0, hb1, hb2])
                  clear hb0 hb1 hb2
                  go_wp2_with fail
                  go_ret
                  exact ⟨ret_bool Fin.out.symm, Hf.out.tr Hf1.out⟩
                | false =>
                  go_upto_region 8 with (fail)
                  go_cut [46] (fun v wr => v = .bool (Rb4 r p) ∧ w2 = wr)
                  case first =>
                    cases h1 : (r.kind == -1) with
                    | true =>
                      have g1 : (r.kind != -1) = false := by rw [bne, h1]; rfl
                      have Fin := hide (show Rb4 r p = false by simp [Rb4, h1])
                      clear h1
                      go_wp2_with fail
                      go_meet
                      exact ⟨by rw [Fin.out], rfl⟩
                    | false =>
                      have g1 : (r.kind != -1) = true := by rw [bne, h1]; rfl
                      cases h2 : (r.kind == p.kind) with
                      | true =>
                        have g2 : (r.kind != p.kind) = false := by rw [bne, h2]; rfl
                        have Fin := hide (show Rb4 r p = false by simp [Rb4, h1, h2])
                        clear h1
                        clear h2
                        go_wp2_with fail
                        go_meet
                        exact ⟨by rw [Fin.out], rfl⟩
                      | false =>
                        have g2 : (r.kind != p.kind) = true := by rw [bne, h2]; rfl
                        have Fin := hide (show Rb4 r p = true by simp [Rb4, h1, h2])
                        clear h1
                        clear h2
                        go_wp2_with fail
                        go_meet
                        exact ⟨by rw [Fin.out], rfl⟩
                  case rest =>
                    obtain ⟨rfl, rfl⟩ := hcut
                    cases hb3 : Rb4 r p with
                    | true =>
                      have Fin := hide (show ruleB r ts iface p = false by rw [Eq.out]; simp [hb0, hb1, hb2, hb3])
                      clear hb0 hb1 hb2 hb3
                      go_wp2_with fail
                      go_ret
                      exact ⟨ret_bool Fin.out.symm, Hf.out.tr Hf1.out⟩
                    | false =>
                      have hE : ruleB r ts iface p = (sideB r.frm ts p.ip.src (portA p) && sideB r.to ts p.ip.dst (portB p)) := by rw [Eq.out]; simp [hb0, hb1, hb2, hb3]
                      have HE := hide hE
                      clear hE hb0 hb1 hb2 hb3
                      go_upto_region 10 with (fail)
                      cases hS1 : sideB r.frm ts p.ip.src (portA p) with
                      | false =>
                        go_wp2_with fail
                        refine (ref_side_v hS1 hr1 hp1 _ ((Hs.out.fr Hf.out).fr Hf1.out)).mono ?_
                        rintro e W1 ⟨rfl, hW1⟩
                        have Fin := hide (show ruleB r ts iface p = false by rw [HE.out, hS1]; rfl)
                        have HW1 := hide hW1
                        clear hW1 hS1
                        go_wp2_with fail
                        go_ret
                        exact ⟨ret_bool Fin.out.symm, (Hf.out.tr Hf1.out).tr HW1.out⟩
                      | true =>
                        go_wp2_with fail
                        refine (ref_side_v hS1 hr1 hp1 _ ((Hs.out.fr Hf.out).fr Hf1.out)).mono ?_
                        rintro e W1 ⟨rfl, hW1⟩
                        have HW1 := hide hW1
                        have Fin := hide (show ruleB r ts iface p = sideB r.to ts p.ip.dst (portB p) by rw [HE.out, hS1]; rfl)
                        have hR2 := fun j => ((HB1.out.fr Hf1.out (fun h => h)).fr HW1.out (fun h => h)).cell j
                        have hP2 := fun j => ((HB2.out.fr Hf1.out (fun h => h)).fr HW1.out (fun h => h)).cell j
                        clear hR hP hW1 hS1
                        go_wp2_with fail
                        refine (ref_side_v rfl hr2 hp2 _ (((Hs.out.fr Hf.out).fr Hf1.out).fr HW1.out)).mono ?_
                        rintro e W2 ⟨rfl, hW2⟩
                        have HW2 := hide hW2
                        clear hW2
                        go_wp2_with fail
                        go_ret
                        exact ⟨ret_bool Fin.out.symm, ((Hf.out.tr Hf1.out).tr HW1.out).tr HW2.out⟩

end Go.Proofs.Ytgdbafgkledpbaa

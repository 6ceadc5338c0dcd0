/- match.One: which rules mean a packet. -/
import Derived.Test.YtgdbafgkledpbaaMatch
import Derived.Deep.DeepCutAuto
namespace Go.Proofs.Ytgdbafgkledpbaa
open Go.RowKit Go.BigFrame
set_option linter.unusedSimpArgs false
set_option linter.unusedVariables false

def IsTU (p : PacketM) : Bool := decide (p.ip.proto = 6 ∨ p.ip.proto = 17)
def OneEnd (w : World) (b : Bool) (v : Value) (wr : World) : Prop := v = .bool b ∧ Fr noB w wr
/-- Before the test: the two ports, and the blocks of the rule and the packet. -/
def OneAt (p : PacketM) (a b : Value) : Prop := a = .int .i64 (portA p) ∧ b = .int .i64 (portB p)

set_option maxRecDepth 100000 in
set_option maxHeartbeats 4000000 in
theorem match_one (r : RuleM) (hr : r.wf) (p : PacketM) (hp : p.wf) (iface : ByteArray) (s : SlV) (ts : List TableM) (w : World) (hs : Tabs w s ts) :
    Calls Try.prog 10 #[r.val, .slice s.a s.len s.cap, .string iface, p.val] w fun e w' => e = .returned (.bool (ruleB r ts iface p)) ∧ Fr noB w w' := by
  have Hs := hide hs
  clear hs
  unfold RuleM.val PacketM.val
  go_enter Try.func10, Try.ntmps10
  go_upto_region 2 with (fail)
  have hb1 : Blk ((w.alloc (.cells r.cells.toArray 43)).alloc (.cells p.cells.toArray 30)) w.heap.size r.cells.toArray 43 := (Blk.alloc_new _ _ _).fr ((Fr.refl noB _).alloc _) (fun h => h)
  have hb2 : Blk ((w.alloc (.cells r.cells.toArray 43)).alloc (.cells p.cells.toArray 30)) (w.heap.size + 1) p.cells.toArray 30 := by
    have h := Blk.alloc_new (w.alloc (.cells r.cells.toArray 43)) p.cells.toArray 30
    simpa using h
  have hf : Fr noB w ((w.alloc (.cells r.cells.toArray 43)).alloc (.cells p.cells.toArray 30)) := ((Fr.refl _ _).alloc _).alloc _
  unfold RuleM.cells PacketM.cells at hb1 hb2 hf
  generalize (w.alloc _).alloc _ = w1 at *
  have Hf := hide hf
  clear hf
  have hR := fun j => hb1.cell j
  have hP := fun j => hb2.cell j
  have hGR := fun (z : Grow w1) j => Grow.blk hb1 z j
  have hGP := fun (z : Grow w1) j => Grow.blk hb2 z j
  have Hh := hide hGR; have Hh2 := hide hGP
  clear hGR hGP Hh Hh2
  have HB1 := hide hb1; have HB2 := hide hb2
  clear hb1 hb2
  go_cut [20] (fun v wr => v = .bool (IsTU p) ∧ w1 = wr)
  case first =>
    by_cases h6 : p.ip.proto = 6
    · have hq1 : (p.ip.proto == 6) = true := by simp [h6]
      have Fin := hide (show IsTU p = true by simp [IsTU, h6])
      clear h6
      go_wp2_with fail
      go_meet
      exact ⟨by rw [Fin.out], rfl⟩
    have hq1 : (p.ip.proto == 6) = false := by simp [h6]
    by_cases h17 : p.ip.proto = 17
    · have hq2 : (p.ip.proto == 17) = true := by simp [h17]
      have Fin := hide (show IsTU p = true by simp [IsTU, h17])
      clear h6 h17
      go_wp2_with fail
      go_meet
      exact ⟨by rw [Fin.out], rfl⟩
    · have hq2 : (p.ip.proto == 17) = false := by simp [h17]
      have Fin := hide (show IsTU p = false by simp [IsTU, h6, h17])
      clear h6 h17
      go_wp2_with fail
      go_meet
      exact ⟨by rw [Fin.out], rfl⟩
  case rest =>
    obtain ⟨rfl, rfl⟩ := hcut
    go_upto_if 20 with (fail)
    go_cut [9, 10] (fun a b wr => OneAt p a b ∧ Fr noB w1 wr)
    case first =>
      cases ht : IsTU p with
      | true =>
        have Fin := hide (show OneAt p (.int .i64 p.src) (.int .i64 p.dst) by have h := of_decide_eq_true ht; exact ⟨by unfold portA; rw [if_pos h], by unfold portB; rw [if_pos h]⟩)
        clear ht
        go_wp2_with fail
        go_quiet (fail)
        go_wp2_with fail
        go_meet
        exact ⟨Fin.out, (Fr.refl _ _).drewN _⟩
      | false =>
        have Fin := hide (show OneAt p (.int .i64 0) (.int .i64 0) by have h := of_decide_eq_false ht; exact ⟨by unfold portA; rw [if_neg h], by unfold portB; rw [if_neg h]⟩)
        clear ht
        go_wp2_with fail
        go_meet
        exact ⟨Fin.out, Fr.refl _ _⟩
    case rest =>
      obtain ⟨⟨rfl, rfl⟩, hf2⟩ := hcut
      have Hf2 := hide hf2
      clear hf2 hR hP
      have hGR : ∀ W, Fr noB wc W → ∀ j, W.cell? ⟨w.heap.size, j, none⟩ = _ := fun W h j => ((HB1.out.fr Hf2.out (fun h => h)).fr h (fun h => h)).cell j
      have hGP : ∀ W, Fr noB wc W → ∀ j, W.cell? ⟨w.heap.size + 1, j, none⟩ = _ := fun W h j => ((HB2.out.fr Hf2.out (fun h => h)).fr h (fun h => h)).cell j
      have hwc : Fr noB wc wc := Fr.refl _ _
      have hr1 : r.frm.wf := hr.2.2.1
      have hr2 : r.to.wf := hr.2.2.2.1
      have hp1 : p.ip.src < 4294967296 := hp.1.2.2.2.2.2.1
      have hp2 : p.ip.dst < 4294967296 := hp.1.2.2.2.2.2.2
      clear hr hp
      go_upto_region 4 with (fail)
      go_cut [8] (OneEnd w (ruleB r ts iface p))
      case first =>
        cases hE : r.on.toList.isEmpty with
        | true =>
          cases hP0 : (r.proto == 0) with
          | true =>
            cases hS1 : sideB r.frm ts p.ip.src (portA p) with
            | false =>
              have Fin := hide (show ruleB r ts iface p = false by simp [ruleB, strEq, hE, hP0, hS1])
              simp only [List.append_eq, List.cons_append, List.nil_append]
              go_wp2_with fail
              refine (match_side_v hS1 hr1 hp1 _ ((Hs.out.fr Hf.out).fr Hf2.out)).mono ?_
              rintro e W1 ⟨rfl, hW1⟩
              go_wp2_with fail
              go_meet
              exact ⟨by rw [Fin.out], (Hf.out.tr Hf2.out).tr hW1⟩
            | true =>
              cases hS2 : sideB r.to ts p.ip.dst (portB p) with
              | false =>
                have Fin := hide (show ruleB r ts iface p = false by simp [ruleB, strEq, hE, hP0, hS1, hS2])
                simp only [List.append_eq, List.cons_append, List.nil_append]
                go_wp2_with fail
                refine (match_side_v hS1 hr1 hp1 _ ((Hs.out.fr Hf.out).fr Hf2.out)).mono ?_
                rintro e W1 ⟨rfl, hW1⟩
                go_wp2_with fail
                refine (match_side_v hS2 hr2 hp2 _ ((Hs.out.fr Hf.out).fr (Hf2.out.tr hW1))).mono ?_
                rintro e W2 ⟨rfl, hW2'⟩
                have hW2 := hW1.tr hW2'
                clear hW1 hW2'
                go_wp2_with fail
                go_meet
                exact ⟨by rw [Fin.out], (Hf.out.tr Hf2.out).tr hW2⟩
              | true =>
                cases hM0 : (r.mask == 0) with
                | true =>
                  cases hK0 : (r.kind == -1) with
                  | true =>
                    have Fin := hide (show ruleB r ts iface p = true by simp [ruleB, strEq, hE, hP0, hS1, hS2, hM0, hK0])
                    simp only [List.append_eq, List.cons_append, List.nil_append]
                    go_wp2_with fail
                    refine (match_side_v hS1 hr1 hp1 _ ((Hs.out.fr Hf.out).fr Hf2.out)).mono ?_
                    rintro e W1 ⟨rfl, hW1⟩
                    go_wp2_with fail
                    refine (match_side_v hS2 hr2 hp2 _ ((Hs.out.fr Hf.out).fr (Hf2.out.tr hW1))).mono ?_
                    rintro e W2 ⟨rfl, hW2'⟩
                    have hW2 := hW1.tr hW2'
                    clear hW1 hW2'
                    go_wp2_with fail
                    go_meet
                    exact ⟨by rw [Fin.out], (Hf.out.tr Hf2.out).tr hW2⟩
                  | false =>
                    cases hK1 : (r.kind == p.kind) with
                    | false =>
                      have Fin := hide (show ruleB r ts iface p = false by simp [ruleB, strEq, hE, hP0, hS1, hS2, hM0, hK0, hK1])
                      simp only [List.append_eq, List.cons_append, List.nil_append]
                      go_wp2_with fail
                      refine (match_side_v hS1 hr1 hp1 _ ((Hs.out.fr Hf.out).fr Hf2.out)).mono ?_
                      rintro e W1 ⟨rfl, hW1⟩
                      go_wp2_with fail
                      refine (match_side_v hS2 hr2 hp2 _ ((Hs.out.fr Hf.out).fr (Hf2.out.tr hW1))).mono ?_
                      rintro e W2 ⟨rfl, hW2'⟩
                      have hW2 := hW1.tr hW2'
                      clear hW1 hW2'
                      go_wp2_with fail
                      go_meet
                      exact ⟨by rw [Fin.out], (Hf.out.tr Hf2.out).tr hW2⟩
                    | true =>
                      have Fin := hide (show ruleB r ts iface p = true by simp [ruleB, strEq, hE, hP0, hS1, hS2, hM0, hK0, hK1])
                      simp only [List.append_eq, List.cons_append, List.nil_append]
                      go_wp2_with fail
                      refine (match_side_v hS1 hr1 hp1 _ ((Hs.out.fr Hf.out).fr Hf2.out)).mono ?_
                      rintro e W1 ⟨rfl, hW1⟩
                      go_wp2_with fail
                      refine (match_side_v hS2 hr2 hp2 _ ((Hs.out.fr Hf.out).fr (Hf2.out.tr hW1))).mono ?_
                      rintro e W2 ⟨rfl, hW2'⟩
                      have hW2 := hW1.tr hW2'
                      clear hW1 hW2'
                      go_wp2_with fail
                      go_meet
                      exact ⟨by rw [Fin.out], (Hf.out.tr Hf2.out).tr hW2⟩
                | false =>
                  cases hM1 : (bits .and .i64 p.flags r.mask == r.set) with
                  | false =>
                    have Fin := hide (show ruleB r ts iface p = false by simp [ruleB, strEq, hE, hP0, hS1, hS2, hM0, hM1])
                    simp only [List.append_eq, List.cons_append, List.nil_append]
                    go_wp2_with fail
                    refine (match_side_v hS1 hr1 hp1 _ ((Hs.out.fr Hf.out).fr Hf2.out)).mono ?_
                    rintro e W1 ⟨rfl, hW1⟩
                    go_wp2_with fail
                    refine (match_side_v hS2 hr2 hp2 _ ((Hs.out.fr Hf.out).fr (Hf2.out.tr hW1))).mono ?_
                    rintro e W2 ⟨rfl, hW2'⟩
                    have hW2 := hW1.tr hW2'
                    clear hW1 hW2'
                    go_wp2_with fail
                    go_meet
                    exact ⟨by rw [Fin.out], (Hf.out.tr Hf2.out).tr hW2⟩
                  | true =>
                    cases hK0 : (r.kind == -1) with
                    | true =>
                      have Fin := hide (show ruleB r ts iface p = true by simp [ruleB, strEq, hE, hP0, hS1, hS2, hM0, hM1, hK0])
                      simp only [List.append_eq, List.cons_append, List.nil_append]
                      go_wp2_with fail
                      refine (match_side_v hS1 hr1 hp1 _ ((Hs.out.fr Hf.out).fr Hf2.out)).mono ?_
                      rintro e W1 ⟨rfl, hW1⟩
                      go_wp2_with fail
                      refine (match_side_v hS2 hr2 hp2 _ ((Hs.out.fr Hf.out).fr (Hf2.out.tr hW1))).mono ?_
                      rintro e W2 ⟨rfl, hW2'⟩
                      have hW2 := hW1.tr hW2'
                      clear hW1 hW2'
                      go_wp2_with fail
                      go_meet
                      exact ⟨by rw [Fin.out], (Hf.out.tr Hf2.out).tr hW2⟩
                    | false =>
                      cases hK1 : (r.kind == p.kind) with
                      | false =>
                        have Fin := hide (show ruleB r ts iface p = false by simp [ruleB, strEq, hE, hP0, hS1, hS2, hM0, hM1, hK0, hK1])
                        simp only [List.append_eq, List.cons_append, List.nil_append]
                        go_wp2_with fail
                        refine (match_side_v hS1 hr1 hp1 _ ((Hs.out.fr Hf.out).fr Hf2.out)).mono ?_
                        rintro e W1 ⟨rfl, hW1⟩
                        go_wp2_with fail
                        refine (match_side_v hS2 hr2 hp2 _ ((Hs.out.fr Hf.out).fr (Hf2.out.tr hW1))).mono ?_
                        rintro e W2 ⟨rfl, hW2'⟩
                        have hW2 := hW1.tr hW2'
                        clear hW1 hW2'
                        go_wp2_with fail
                        go_meet
                        exact ⟨by rw [Fin.out], (Hf.out.tr Hf2.out).tr hW2⟩
                      | true =>
                        have Fin := hide (show ruleB r ts iface p = true by simp [ruleB, strEq, hE, hP0, hS1, hS2, hM0, hM1, hK0, hK1])
                        simp only [List.append_eq, List.cons_append, List.nil_append]
                        go_wp2_with fail
                        refine (match_side_v hS1 hr1 hp1 _ ((Hs.out.fr Hf.out).fr Hf2.out)).mono ?_
                        rintro e W1 ⟨rfl, hW1⟩
                        go_wp2_with fail
                        refine (match_side_v hS2 hr2 hp2 _ ((Hs.out.fr Hf.out).fr (Hf2.out.tr hW1))).mono ?_
                        rintro e W2 ⟨rfl, hW2'⟩
                        have hW2 := hW1.tr hW2'
                        clear hW1 hW2'
                        go_wp2_with fail
                        go_meet
                        exact ⟨by rw [Fin.out], (Hf.out.tr Hf2.out).tr hW2⟩
          | false =>
            cases hP1 : (r.proto == p.ip.proto) with
            | false =>
              have Fin := hide (show ruleB r ts iface p = false by simp [ruleB, strEq, hE, hP0, hP1])
              simp only [List.append_eq, List.cons_append, List.nil_append]
              go_wp2_with fail
              go_meet
              exact ⟨by rw [Fin.out], (Hf.out.tr Hf2.out)⟩
            | true =>
              cases hS1 : sideB r.frm ts p.ip.src (portA p) with
              | false =>
                have Fin := hide (show ruleB r ts iface p = false by simp [ruleB, strEq, hE, hP0, hP1, hS1])
                simp only [List.append_eq, List.cons_append, List.nil_append]
                go_wp2_with fail
                refine (match_side_v hS1 hr1 hp1 _ ((Hs.out.fr Hf.out).fr Hf2.out)).mono ?_
                rintro e W1 ⟨rfl, hW1⟩
                go_wp2_with fail
                go_meet
                exact ⟨by rw [Fin.out], (Hf.out.tr Hf2.out).tr hW1⟩
              | true =>
                cases hS2 : sideB r.to ts p.ip.dst (portB p) with
                | false =>
                  have Fin := hide (show ruleB r ts iface p = false by simp [ruleB, strEq, hE, hP0, hP1, hS1, hS2])
                  simp only [List.append_eq, List.cons_append, List.nil_append]
                  go_wp2_with fail
                  refine (match_side_v hS1 hr1 hp1 _ ((Hs.out.fr Hf.out).fr Hf2.out)).mono ?_
                  rintro e W1 ⟨rfl, hW1⟩
                  go_wp2_with fail
                  refine (match_side_v hS2 hr2 hp2 _ ((Hs.out.fr Hf.out).fr (Hf2.out.tr hW1))).mono ?_
                  rintro e W2 ⟨rfl, hW2'⟩
                  have hW2 := hW1.tr hW2'
                  clear hW1 hW2'
                  go_wp2_with fail
                  go_meet
                  exact ⟨by rw [Fin.out], (Hf.out.tr Hf2.out).tr hW2⟩
                | true =>
                  cases hM0 : (r.mask == 0) with
                  | true =>
                    cases hK0 : (r.kind == -1) with
                    | true =>
                      have Fin := hide (show ruleB r ts iface p = true by simp [ruleB, strEq, hE, hP0, hP1, hS1, hS2, hM0, hK0])
                      simp only [List.append_eq, List.cons_append, List.nil_append]
                      go_wp2_with fail
                      refine (match_side_v hS1 hr1 hp1 _ ((Hs.out.fr Hf.out).fr Hf2.out)).mono ?_
                      rintro e W1 ⟨rfl, hW1⟩
                      go_wp2_with fail
                      refine (match_side_v hS2 hr2 hp2 _ ((Hs.out.fr Hf.out).fr (Hf2.out.tr hW1))).mono ?_
                      rintro e W2 ⟨rfl, hW2'⟩
                      have hW2 := hW1.tr hW2'
                      clear hW1 hW2'
                      go_wp2_with fail
                      go_meet
                      exact ⟨by rw [Fin.out], (Hf.out.tr Hf2.out).tr hW2⟩
                    | false =>
                      cases hK1 : (r.kind == p.kind) with
                      | false =>
                        have Fin := hide (show ruleB r ts iface p = false by simp [ruleB, strEq, hE, hP0, hP1, hS1, hS2, hM0, hK0, hK1])
                        simp only [List.append_eq, List.cons_append, List.nil_append]
                        go_wp2_with fail
                        refine (match_side_v hS1 hr1 hp1 _ ((Hs.out.fr Hf.out).fr Hf2.out)).mono ?_
                        rintro e W1 ⟨rfl, hW1⟩
                        go_wp2_with fail
                        refine (match_side_v hS2 hr2 hp2 _ ((Hs.out.fr Hf.out).fr (Hf2.out.tr hW1))).mono ?_
                        rintro e W2 ⟨rfl, hW2'⟩
                        have hW2 := hW1.tr hW2'
                        clear hW1 hW2'
                        go_wp2_with fail
                        go_meet
                        exact ⟨by rw [Fin.out], (Hf.out.tr Hf2.out).tr hW2⟩
                      | true =>
                        have Fin := hide (show ruleB r ts iface p = true by simp [ruleB, strEq, hE, hP0, hP1, hS1, hS2, hM0, hK0, hK1])
                        simp only [List.append_eq, List.cons_append, List.nil_append]
                        go_wp2_with fail
                        refine (match_side_v hS1 hr1 hp1 _ ((Hs.out.fr Hf.out).fr Hf2.out)).mono ?_
                        rintro e W1 ⟨rfl, hW1⟩
                        go_wp2_with fail
                        refine (match_side_v hS2 hr2 hp2 _ ((Hs.out.fr Hf.out).fr (Hf2.out.tr hW1))).mono ?_
                        rintro e W2 ⟨rfl, hW2'⟩
                        have hW2 := hW1.tr hW2'
                        clear hW1 hW2'
                        go_wp2_with fail
                        go_meet
                        exact ⟨by rw [Fin.out], (Hf.out.tr Hf2.out).tr hW2⟩
                  | false =>
                    cases hM1 : (bits .and .i64 p.flags r.mask == r.set) with
                    | false =>
                      have Fin := hide (show ruleB r ts iface p = false by simp [ruleB, strEq, hE, hP0, hP1, hS1, hS2, hM0, hM1])
                      simp only [List.append_eq, List.cons_append, List.nil_append]
                      go_wp2_with fail
                      refine (match_side_v hS1 hr1 hp1 _ ((Hs.out.fr Hf.out).fr Hf2.out)).mono ?_
                      rintro e W1 ⟨rfl, hW1⟩
                      go_wp2_with fail
                      refine (match_side_v hS2 hr2 hp2 _ ((Hs.out.fr Hf.out).fr (Hf2.out.tr hW1))).mono ?_
                      rintro e W2 ⟨rfl, hW2'⟩
                      have hW2 := hW1.tr hW2'
                      clear hW1 hW2'
                      go_wp2_with fail
                      go_meet
                      exact ⟨by rw [Fin.out], (Hf.out.tr Hf2.out).tr hW2⟩
                    | true =>
                      cases hK0 : (r.kind == -1) with
                      | true =>
                        have Fin := hide (show ruleB r ts iface p = true by simp [ruleB, strEq, hE, hP0, hP1, hS1, hS2, hM0, hM1, hK0])
                        simp only [List.append_eq, List.cons_append, List.nil_append]
                        go_wp2_with fail
                        refine (match_side_v hS1 hr1 hp1 _ ((Hs.out.fr Hf.out).fr Hf2.out)).mono ?_
                        rintro e W1 ⟨rfl, hW1⟩
                        go_wp2_with fail
                        refine (match_side_v hS2 hr2 hp2 _ ((Hs.out.fr Hf.out).fr (Hf2.out.tr hW1))).mono ?_
                        rintro e W2 ⟨rfl, hW2'⟩
                        have hW2 := hW1.tr hW2'
                        clear hW1 hW2'
                        go_wp2_with fail
                        go_meet
                        exact ⟨by rw [Fin.out], (Hf.out.tr Hf2.out).tr hW2⟩
                      | false =>
                        cases hK1 : (r.kind == p.kind) with
                        | false =>
                          have Fin := hide (show ruleB r ts iface p = false by simp [ruleB, strEq, hE, hP0, hP1, hS1, hS2, hM0, hM1, hK0, hK1])
                          simp only [List.append_eq, List.cons_append, List.nil_append]
                          go_wp2_with fail
                          refine (match_side_v hS1 hr1 hp1 _ ((Hs.out.fr Hf.out).fr Hf2.out)).mono ?_
                          rintro e W1 ⟨rfl, hW1⟩
                          go_wp2_with fail
                          refine (match_side_v hS2 hr2 hp2 _ ((Hs.out.fr Hf.out).fr (Hf2.out.tr hW1))).mono ?_
                          rintro e W2 ⟨rfl, hW2'⟩
                          have hW2 := hW1.tr hW2'
                          clear hW1 hW2'
                          go_wp2_with fail
                          go_meet
                          exact ⟨by rw [Fin.out], (Hf.out.tr Hf2.out).tr hW2⟩
                        | true =>
                          have Fin := hide (show ruleB r ts iface p = true by simp [ruleB, strEq, hE, hP0, hP1, hS1, hS2, hM0, hM1, hK0, hK1])
                          simp only [List.append_eq, List.cons_append, List.nil_append]
                          go_wp2_with fail
                          refine (match_side_v hS1 hr1 hp1 _ ((Hs.out.fr Hf.out).fr Hf2.out)).mono ?_
                          rintro e W1 ⟨rfl, hW1⟩
                          go_wp2_with fail
                          refine (match_side_v hS2 hr2 hp2 _ ((Hs.out.fr Hf.out).fr (Hf2.out.tr hW1))).mono ?_
                          rintro e W2 ⟨rfl, hW2'⟩
                          have hW2 := hW1.tr hW2'
                          clear hW1 hW2'
                          go_wp2_with fail
                          go_meet
                          exact ⟨by rw [Fin.out], (Hf.out.tr Hf2.out).tr hW2⟩
        | false =>
          cases hI : (r.on.toList == iface.toList) with
          | false =>
            have Fin := hide (show ruleB r ts iface p = false by simp [ruleB, strEq, hE, hI])
            simp only [List.append_eq, List.cons_append, List.nil_append]
            go_wp2_with fail
            go_meet
            exact ⟨by rw [Fin.out], (Hf.out.tr Hf2.out)⟩
          | true =>
            cases hP0 : (r.proto == 0) with
            | true =>
              cases hS1 : sideB r.frm ts p.ip.src (portA p) with
              | false =>
                have Fin := hide (show ruleB r ts iface p = false by simp [ruleB, strEq, hE, hI, hP0, hS1])
                simp only [List.append_eq, List.cons_append, List.nil_append]
                go_wp2_with fail
                refine (match_side_v hS1 hr1 hp1 _ ((Hs.out.fr Hf.out).fr Hf2.out)).mono ?_
                rintro e W1 ⟨rfl, hW1⟩
                go_wp2_with fail
                go_meet
                exact ⟨by rw [Fin.out], (Hf.out.tr Hf2.out).tr hW1⟩
              | true =>
                cases hS2 : sideB r.to ts p.ip.dst (portB p) with
                | false =>
                  have Fin := hide (show ruleB r ts iface p = false by simp [ruleB, strEq, hE, hI, hP0, hS1, hS2])
                  simp only [List.append_eq, List.cons_append, List.nil_append]
                  go_wp2_with fail
                  refine (match_side_v hS1 hr1 hp1 _ ((Hs.out.fr Hf.out).fr Hf2.out)).mono ?_
                  rintro e W1 ⟨rfl, hW1⟩
                  go_wp2_with fail
                  refine (match_side_v hS2 hr2 hp2 _ ((Hs.out.fr Hf.out).fr (Hf2.out.tr hW1))).mono ?_
                  rintro e W2 ⟨rfl, hW2'⟩
                  have hW2 := hW1.tr hW2'
                  clear hW1 hW2'
                  go_wp2_with fail
                  go_meet
                  exact ⟨by rw [Fin.out], (Hf.out.tr Hf2.out).tr hW2⟩
                | true =>
                  cases hM0 : (r.mask == 0) with
                  | true =>
                    cases hK0 : (r.kind == -1) with
                    | true =>
                      have Fin := hide (show ruleB r ts iface p = true by simp [ruleB, strEq, hE, hI, hP0, hS1, hS2, hM0, hK0])
                      simp only [List.append_eq, List.cons_append, List.nil_append]
                      go_wp2_with fail
                      refine (match_side_v hS1 hr1 hp1 _ ((Hs.out.fr Hf.out).fr Hf2.out)).mono ?_
                      rintro e W1 ⟨rfl, hW1⟩
                      go_wp2_with fail
                      refine (match_side_v hS2 hr2 hp2 _ ((Hs.out.fr Hf.out).fr (Hf2.out.tr hW1))).mono ?_
                      rintro e W2 ⟨rfl, hW2'⟩
                      have hW2 := hW1.tr hW2'
                      clear hW1 hW2'
                      go_wp2_with fail
                      go_meet
                      exact ⟨by rw [Fin.out], (Hf.out.tr Hf2.out).tr hW2⟩
                    | false =>
                      cases hK1 : (r.kind == p.kind) with
                      | false =>
                        have Fin := hide (show ruleB r ts iface p = false by simp [ruleB, strEq, hE, hI, hP0, hS1, hS2, hM0, hK0, hK1])
                        simp only [List.append_eq, List.cons_append, List.nil_append]
                        go_wp2_with fail
                        refine (match_side_v hS1 hr1 hp1 _ ((Hs.out.fr Hf.out).fr Hf2.out)).mono ?_
                        rintro e W1 ⟨rfl, hW1⟩
                        go_wp2_with fail
                        refine (match_side_v hS2 hr2 hp2 _ ((Hs.out.fr Hf.out).fr (Hf2.out.tr hW1))).mono ?_
                        rintro e W2 ⟨rfl, hW2'⟩
                        have hW2 := hW1.tr hW2'
                        clear hW1 hW2'
                        go_wp2_with fail
                        go_meet
                        exact ⟨by rw [Fin.out], (Hf.out.tr Hf2.out).tr hW2⟩
                      | true =>
                        have Fin := hide (show ruleB r ts iface p = true by simp [ruleB, strEq, hE, hI, hP0, hS1, hS2, hM0, hK0, hK1])
                        simp only [List.append_eq, List.cons_append, List.nil_append]
                        go_wp2_with fail
                        refine (match_side_v hS1 hr1 hp1 _ ((Hs.out.fr Hf.out).fr Hf2.out)).mono ?_
                        rintro e W1 ⟨rfl, hW1⟩
                        go_wp2_with fail
                        refine (match_side_v hS2 hr2 hp2 _ ((Hs.out.fr Hf.out).fr (Hf2.out.tr hW1))).mono ?_
                        rintro e W2 ⟨rfl, hW2'⟩
                        have hW2 := hW1.tr hW2'
                        clear hW1 hW2'
                        go_wp2_with fail
                        go_meet
                        exact ⟨by rw [Fin.out], (Hf.out.tr Hf2.out).tr hW2⟩
                  | false =>
                    cases hM1 : (bits .and .i64 p.flags r.mask == r.set) with
                    | false =>
                      have Fin := hide (show ruleB r ts iface p = false by simp [ruleB, strEq, hE, hI, hP0, hS1, hS2, hM0, hM1])
                      simp only [List.append_eq, List.cons_append, List.nil_append]
                      go_wp2_with fail
                      refine (match_side_v hS1 hr1 hp1 _ ((Hs.out.fr Hf.out).fr Hf2.out)).mono ?_
                      rintro e W1 ⟨rfl, hW1⟩
                      go_wp2_with fail
                      refine (match_side_v hS2 hr2 hp2 _ ((Hs.out.fr Hf.out).fr (Hf2.out.tr hW1))).mono ?_
                      rintro e W2 ⟨rfl, hW2'⟩
                      have hW2 := hW1.tr hW2'
                      clear hW1 hW2'
                      go_wp2_with fail
                      go_meet
                      exact ⟨by rw [Fin.out], (Hf.out.tr Hf2.out).tr hW2⟩
                    | true =>
                      cases hK0 : (r.kind == -1) with
                      | true =>
                        have Fin := hide (show ruleB r ts iface p = true by simp [ruleB, strEq, hE, hI, hP0, hS1, hS2, hM0, hM1, hK0])
                        simp only [List.append_eq, List.cons_append, List.nil_append]
                        go_wp2_with fail
                        refine (match_side_v hS1 hr1 hp1 _ ((Hs.out.fr Hf.out).fr Hf2.out)).mono ?_
                        rintro e W1 ⟨rfl, hW1⟩
                        go_wp2_with fail
                        refine (match_side_v hS2 hr2 hp2 _ ((Hs.out.fr Hf.out).fr (Hf2.out.tr hW1))).mono ?_
                        rintro e W2 ⟨rfl, hW2'⟩
                        have hW2 := hW1.tr hW2'
                        clear hW1 hW2'
                        go_wp2_with fail
                        go_meet
                        exact ⟨by rw [Fin.out], (Hf.out.tr Hf2.out).tr hW2⟩
                      | false =>
                        cases hK1 : (r.kind == p.kind) with
                        | false =>
                          have Fin := hide (show ruleB r ts iface p = false by simp [ruleB, strEq, hE, hI, hP0, hS1, hS2, hM0, hM1, hK0, hK1])
                          simp only [List.append_eq, List.cons_append, List.nil_append]
                          go_wp2_with fail
                          refine (match_side_v hS1 hr1 hp1 _ ((Hs.out.fr Hf.out).fr Hf2.out)).mono ?_
                          rintro e W1 ⟨rfl, hW1⟩
                          go_wp2_with fail
                          refine (match_side_v hS2 hr2 hp2 _ ((Hs.out.fr Hf.out).fr (Hf2.out.tr hW1))).mono ?_
                          rintro e W2 ⟨rfl, hW2'⟩
                          have hW2 := hW1.tr hW2'
                          clear hW1 hW2'
                          go_wp2_with fail
                          go_meet
                          exact ⟨by rw [Fin.out], (Hf.out.tr Hf2.out).tr hW2⟩
                        | true =>
                          have Fin := hide (show ruleB r ts iface p = true by simp [ruleB, strEq, hE, hI, hP0, hS1, hS2, hM0, hM1, hK0, hK1])
                          simp only [List.append_eq, List.cons_append, List.nil_append]
                          go_wp2_with fail
                          refine (match_side_v hS1 hr1 hp1 _ ((Hs.out.fr Hf.out).fr Hf2.out)).mono ?_
                          rintro e W1 ⟨rfl, hW1⟩
                          go_wp2_with fail
                          refine (match_side_v hS2 hr2 hp2 _ ((Hs.out.fr Hf.out).fr (Hf2.out.tr hW1))).mono ?_
                          rintro e W2 ⟨rfl, hW2'⟩
                          have hW2 := hW1.tr hW2'
                          clear hW1 hW2'
                          go_wp2_with fail
                          go_meet
                          exact ⟨by rw [Fin.out], (Hf.out.tr Hf2.out).tr hW2⟩
            | false =>
              cases hP1 : (r.proto == p.ip.proto) with
              | false =>
                have Fin := hide (show ruleB r ts iface p = false by simp [ruleB, strEq, hE, hI, hP0, hP1])
                simp only [List.append_eq, List.cons_append, List.nil_append]
                go_wp2_with fail
                go_meet
                exact ⟨by rw [Fin.out], (Hf.out.tr Hf2.out)⟩
              | true =>
                cases hS1 : sideB r.frm ts p.ip.src (portA p) with
                | false =>
                  have Fin := hide (show ruleB r ts iface p = false by simp [ruleB, strEq, hE, hI, hP0, hP1, hS1])
                  simp only [List.append_eq, List.cons_append, List.nil_append]
                  go_wp2_with fail
                  refine (match_side_v hS1 hr1 hp1 _ ((Hs.out.fr Hf.out).fr Hf2.out)).mono ?_
                  rintro e W1 ⟨rfl, hW1⟩
                  go_wp2_with fail
                  go_meet
                  exact ⟨by rw [Fin.out], (Hf.out.tr Hf2.out).tr hW1⟩
                | true =>
                  cases hS2 : sideB r.to ts p.ip.dst (portB p) with
                  | false =>
                    have Fin := hide (show ruleB r ts iface p = false by simp [ruleB, strEq, hE, hI, hP0, hP1, hS1, hS2])
                    simp only [List.append_eq, List.cons_append, List.nil_append]
                    go_wp2_with fail
                    refine (match_side_v hS1 hr1 hp1 _ ((Hs.out.fr Hf.out).fr Hf2.out)).mono ?_
                    rintro e W1 ⟨rfl, hW1⟩
                    go_wp2_with fail
                    refine (match_side_v hS2 hr2 hp2 _ ((Hs.out.fr Hf.out).fr (Hf2.out.tr hW1))).mono ?_
                    rintro e W2 ⟨rfl, hW2'⟩
                    have hW2 := hW1.tr hW2'
                    clear hW1 hW2'
                    go_wp2_with fail
                    go_meet
                    exact ⟨by rw [Fin.out], (Hf.out.tr Hf2.out).tr hW2⟩
                  | true =>
                    cases hM0 : (r.mask == 0) with
                    | true =>
                      cases hK0 : (r.kind == -1) with
                      | true =>
                        have Fin := hide (show ruleB r ts iface p = true by simp [ruleB, strEq, hE, hI, hP0, hP1, hS1, hS2, hM0, hK0])
                        simp only [List.append_eq, List.cons_append, List.nil_append]
                        go_wp2_with fail
                        refine (match_side_v hS1 hr1 hp1 _ ((Hs.out.fr Hf.out).fr Hf2.out)).mono ?_
                        rintro e W1 ⟨rfl, hW1⟩
                        go_wp2_with fail
                        refine (match_side_v hS2 hr2 hp2 _ ((Hs.out.fr Hf.out).fr (Hf2.out.tr hW1))).mono ?_
                        rintro e W2 ⟨rfl, hW2'⟩
                        have hW2 := hW1.tr hW2'
                        clear hW1 hW2'
                        go_wp2_with fail
                        go_meet
                        exact ⟨by rw [Fin.out], (Hf.out.tr Hf2.out).tr hW2⟩
                      | false =>
                        cases hK1 : (r.kind == p.kind) with
                        | false =>
                          have Fin := hide (show ruleB r ts iface p = false by simp [ruleB, strEq, hE, hI, hP0, hP1, hS1, hS2, hM0, hK0, hK1])
                          simp only [List.append_eq, List.cons_append, List.nil_append]
                          go_wp2_with fail
                          refine (match_side_v hS1 hr1 hp1 _ ((Hs.out.fr Hf.out).fr Hf2.out)).mono ?_
                          rintro e W1 ⟨rfl, hW1⟩
                          go_wp2_with fail
                          refine (match_side_v hS2 hr2 hp2 _ ((Hs.out.fr Hf.out).fr (Hf2.out.tr hW1))).mono ?_
                          rintro e W2 ⟨rfl, hW2'⟩
                          have hW2 := hW1.tr hW2'
                          clear hW1 hW2'
                          go_wp2_with fail
                          go_meet
                          exact ⟨by rw [Fin.out], (Hf.out.tr Hf2.out).tr hW2⟩
                        | true =>
                          have Fin := hide (show ruleB r ts iface p = true by simp [ruleB, strEq, hE, hI, hP0, hP1, hS1, hS2, hM0, hK0, hK1])
                          simp only [List.append_eq, List.cons_append, List.nil_append]
                          go_wp2_with fail
                          refine (match_side_v hS1 hr1 hp1 _ ((Hs.out.fr Hf.out).fr Hf2.out)).mono ?_
                          rintro e W1 ⟨rfl, hW1⟩
                          go_wp2_with fail
                          refine (match_side_v hS2 hr2 hp2 _ ((Hs.out.fr Hf.out).fr (Hf2.out.tr hW1))).mono ?_
                          rintro e W2 ⟨rfl, hW2'⟩
                          have hW2 := hW1.tr hW2'
                          clear hW1 hW2'
                          go_wp2_with fail
                          go_meet
                          exact ⟨by rw [Fin.out], (Hf.out.tr Hf2.out).tr hW2⟩
                    | false =>
                      cases hM1 : (bits .and .i64 p.flags r.mask == r.set) with
                      | false =>
                        have Fin := hide (show ruleB r ts iface p = false by simp [ruleB, strEq, hE, hI, hP0, hP1, hS1, hS2, hM0, hM1])
                        simp only [List.append_eq, List.cons_append, List.nil_append]
                        go_wp2_with fail
                        refine (match_side_v hS1 hr1 hp1 _ ((Hs.out.fr Hf.out).fr Hf2.out)).mono ?_
                        rintro e W1 ⟨rfl, hW1⟩
                        go_wp2_with fail
                        refine (match_side_v hS2 hr2 hp2 _ ((Hs.out.fr Hf.out).fr (Hf2.out.tr hW1))).mono ?_
                        rintro e W2 ⟨rfl, hW2'⟩
                        have hW2 := hW1.tr hW2'
                        clear hW1 hW2'
                        go_wp2_with fail
                        go_meet
                        exact ⟨by rw [Fin.out], (Hf.out.tr Hf2.out).tr hW2⟩
                      | true =>
                        cases hK0 : (r.kind == -1) with
                        | true =>
                          have Fin := hide (show ruleB r ts iface p = true by simp [ruleB, strEq, hE, hI, hP0, hP1, hS1, hS2, hM0, hM1, hK0])
                          simp only [List.append_eq, List.cons_append, List.nil_append]
                          go_wp2_with fail
                          refine (match_side_v hS1 hr1 hp1 _ ((Hs.out.fr Hf.out).fr Hf2.out)).mono ?_
                          rintro e W1 ⟨rfl, hW1⟩
                          go_wp2_with fail
                          refine (match_side_v hS2 hr2 hp2 _ ((Hs.out.fr Hf.out).fr (Hf2.out.tr hW1))).mono ?_
                          rintro e W2 ⟨rfl, hW2'⟩
                          have hW2 := hW1.tr hW2'
                          clear hW1 hW2'
                          go_wp2_with fail
                          go_meet
                          exact ⟨by rw [Fin.out], (Hf.out.tr Hf2.out).tr hW2⟩
                        | false =>
                          cases hK1 : (r.kind == p.kind) with
                          | false =>
                            have Fin := hide (show ruleB r ts iface p = false by simp [ruleB, strEq, hE, hI, hP0, hP1, hS1, hS2, hM0, hM1, hK0, hK1])
                            simp only [List.append_eq, List.cons_append, List.nil_append]
                            go_wp2_with fail
                            refine (match_side_v hS1 hr1 hp1 _ ((Hs.out.fr Hf.out).fr Hf2.out)).mono ?_
                            rintro e W1 ⟨rfl, hW1⟩
                            go_wp2_with fail
                            refine (match_side_v hS2 hr2 hp2 _ ((Hs.out.fr Hf.out).fr (Hf2.out.tr hW1))).mono ?_
                            rintro e W2 ⟨rfl, hW2'⟩
                            have hW2 := hW1.tr hW2'
                            clear hW1 hW2'
                            go_wp2_with fail
                            go_meet
                            exact ⟨by rw [Fin.out], (Hf.out.tr Hf2.out).tr hW2⟩
                          | true =>
                            have Fin := hide (show ruleB r ts iface p = true by simp [ruleB, strEq, hE, hI, hP0, hP1, hS1, hS2, hM0, hM1, hK0, hK1])
                            simp only [List.append_eq, List.cons_append, List.nil_append]
                            go_wp2_with fail
                            refine (match_side_v hS1 hr1 hp1 _ ((Hs.out.fr Hf.out).fr Hf2.out)).mono ?_
                            rintro e W1 ⟨rfl, hW1⟩
                            go_wp2_with fail
                            refine (match_side_v hS2 hr2 hp2 _ ((Hs.out.fr Hf.out).fr (Hf2.out.tr hW1))).mono ?_
                            rintro e W2 ⟨rfl, hW2'⟩
                            have hW2 := hW1.tr hW2'
                            clear hW1 hW2'
                            go_wp2_with fail
                            go_meet
                            exact ⟨by rw [Fin.out], (Hf.out.tr Hf2.out).tr hW2⟩
      case rest =>
        obtain ⟨rfl, hf3⟩ := hcut
        have Hf3 := hide hf3
        clear hf3
        go_wp2_with fail
        go_ret
        exact ⟨rfl, Hf3.out⟩

end Go.Proofs.Ytgdbafgkledpbaa

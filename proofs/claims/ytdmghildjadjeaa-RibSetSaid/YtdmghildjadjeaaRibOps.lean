/- rib: New, All, Copy, Add, Del. -/
import Derived.Test.YtdmghildjadjeaaRibIs
import Derived.Lib.SliceRun
namespace Go.Proofs.Ytdmghildjadjeaa
open Go.RowKit Go.BigFrame
set_option linter.unusedSimpArgs false
set_option linter.unusedVariables false
attribute [local irreducible] wpMix wpAnyG

def newB (w w' : World) : Nat → Prop := fun b => w.heap.size ≤ b ∧ b < w'.heap.size
def RibNewTo (w : World) (g : Nat) (l : List RouteM) (e : Ending) (w' : World) : Prop := e = .returned (.pointer (some ⟨g, 0, none⟩)) ∧ Rib w' (newB w w') g l ∧ Fr noB w w'
theorem rib_new (w : World) : Calls Try.prog 14 #[] w (RibNewTo w w.heap.size []) := by
  go_enter Try.func14, Try.ntmps14
  go_wp2_with fail
  go_ret
  refine ⟨rfl, ⟨⟨⟨none, 0, 0⟩, Blk.alloc_new w #[.slice none 0 0] 59, OwnL.nil _ _ _ _, ?_, ?_⟩, ?_, ?_, ?_, ?_, ?_, ?_⟩, (Fr.refl _ _).alloc _⟩
  · rintro ⟨a, ha, _⟩; simp at ha
  · rintro b ⟨a, ha, _⟩; simp at ha
  · exact ⟨Nat.le_refl _, by simp⟩
  · intro b hb; exact hb.2
  · exact List.Pairwise.nil
  · simp
  · simp
  · simp

set_option maxHeartbeats 1000000 in
theorem rib_clone (w : World) (s : SlV) (l : List RouteM) (hs : OwnR w s l) (hlen : l.length ≤ 256) :
    Calls Try.prog 34 #[.slice s.a s.len s.cap] w fun e w' => ∃ s', e = .returned (.slice s'.a s'.len s'.cap) ∧ NewL w w' 26 6 RouteM.cells s' l ∧ Fr noB w w' := by
  have hsl := hs.1
  have Hs := hide hs
  have Hq := hide (hs.slof RouteM.length (ok := fun _ => True) (fun _ _ => trivial))
  obtain ⟨sa, sl, sc⟩ := s
  simp only at hsl ⊢
  have Hsl := hide hsl
  have hl : sl ≤ 256 := by omega
  have q22 : ∀ (w : World) (a : Option Addr) (n c n' c' : Nat), (binOp .eql 35 (.slice a n c) (.slice none n' c')).run Try.prog w = .ok (.bool a.isNone) w := fun w a n c n' c' => Lib.run_eql_slice_nil w _ _ a n c n' c' Try.underlying35
  clear hs hsl hlen
  cases sa with
  | none =>
    have h0 := Hs.out.nilcap rfl
    simp only [SlV.mk.injEq, true_and] at h0
    obtain ⟨rfl, rfl⟩ := h0
    have hnil : l = [] := List.eq_nil_of_length_eq_zero (by have := Hsl.out; omega)
    subst hnil
    go_enter Try.func34, Try.ntmps34
    go_wp2_with fail
    go_ret
    exact ⟨⟨none, 0, 0⟩, rfl, NewL.nil _ _ _ _ _, Fr.refl _ _⟩
  | some ad =>
    go_enter Try.func34, Try.ntmps34
    go_wp2_with (first | (refine wpList_build0 rfl 35 rfl Try.underlying35 (by kernel_rfl) ?_) | (refine wpList_append_new (w0 := w) (N := 6) (cells := RouteM.cells) (xs := []) (s := ⟨some ⟨w.heap.size, 0, none⟩, 0, 0⟩) (q := ⟨some ad, sl, sc⟩) (ys := l) (ok := fun _ => True) rfl (.tmp 5) (.tmp 6) 35 rfl Try.underlying35 _ 48 route_info (by kernel_rfl) (by decide) RouteM.length RouteM.mem rfl (NewL.zero _ _ (Fr.refl _ _) _ _ _) ((Fr.refl _ _).alloc _) rfl (SlOf.fr Hq.out ((Fr.refl noB _).alloc _) (fun _ _ h => h) (fun _ h => h)) (fun h => by cases h) (by have := Hsl.out; simp [maxLen]; omega) (by have := Hsl.out; simp; omega) ?_; intro s1 v1 hn1 hf1 _))
    go_ret
    exact ⟨s1, rfl, by simpa using hn1, hf1⟩

def AllTo (w : World) (l : List RouteM) (e : Ending) (w' : World) : Prop := ∃ s', e = .returned (.slice s'.a s'.len s'.cap) ∧ NewL w w' 26 6 RouteM.cells s' l ∧ Fr noB w w'
theorem rib_all (w : World) (F : Nat → Prop) (g : Nat) (l : List RouteM) (h : Rib w F g l) :
    Calls Try.prog 16 #[.pointer (some ⟨g, 0, none⟩)] w (AllTo w l) := by
  have hlen := h.len
  obtain ⟨⟨⟨sa, sl, sc⟩, hb, ho, _, _⟩, _⟩ := h
  have c0 : w.cell? ⟨g, 0, none⟩ = some (.slice sa sl sc) := hb.cell 0
  go_enter Try.func16, Try.ntmps16
  go_wp2_with fail
  refine (rib_clone _ ⟨sa, sl, sc⟩ l ho hlen).mono ?_
  rintro e w1 ⟨s1, rfl, hn, hf⟩
  have Hn := hide hn; have Hf := hide hf
  clear c0 hn hf
  go_wp2_with fail
  go_ret
  exact ⟨s1, rfl, Hn.out, Hf.out⟩
theorem rib_all_nil (w : World) : Calls Try.prog 16 #[.pointer none] w fun e w' => e = .returned (.slice none 0 0) ∧ Fr noB w w' := by
  go_enter Try.func16, Try.ntmps16
  go_wp2_with fail
  go_ret
  exact ⟨rfl, Fr.refl _ _⟩
theorem rib_copy_nil (w : World) : Calls Try.prog 26 #[.pointer none] w fun e w' => e = .returned (.pointer none) ∧ Fr noB w w' := by
  go_enter Try.func26, Try.ntmps26
  go_wp2_with fail
  go_ret
  exact ⟨rfl, Fr.refl _ _⟩
def CopyTo (w : World) (l : List RouteM) (e : Ending) (w' : World) : Prop := ∃ g, e = .returned (.pointer (some ⟨g, 0, none⟩)) ∧ Rib w' (newB w w') g l ∧ Fr noB w w'
theorem rib_copy (w : World) (F : Nat → Prop) (g : Nat) (l : List RouteM) (h : Rib w F g l) :
    Calls Try.prog 26 #[.pointer (some ⟨g, 0, none⟩)] w (CopyTo w l) := by
  have H := hide h
  clear h
  go_enter Try.func26, Try.ntmps26
  go_wp2_with fail
  refine (rib_all _ F g l H.out).mono ?_
  rintro e w1 ⟨s1, rfl, hn, hf⟩
  have Hn := hide hn; have Hf := hide hf
  clear hn hf
  go_wp2_with fail
  go_ret
  refine ⟨w1.heap.size, rfl, ⟨⟨s1, Blk.alloc_new w1 #[.slice s1.a s1.len s1.cap] 59, (Hn.out.fr ((Fr.refl _ _).alloc _)).1, ?_, ?_⟩, ⟨Hf.out.size, by simp⟩, fun b hb => hb.2, H.out.sorted, H.out.len, H.out.wf, H.out.is⟩, Hf.out.alloc _⟩
  · intro hb
    have := Hn.out.1.lt _ hb
    omega
  · intro b hb
    exact ⟨Hn.out.2 b hb, by have := Hn.out.1.lt b hb; simp; omega⟩
end Go.Proofs.Ytdmghildjadjeaa

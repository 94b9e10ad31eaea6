/- The document's example of a tag. -/
import Derived.Test.YtleeacgimikdbaaDoorM6
namespace Go.Proofs.YtleeacgimikdbaaDoor
open Go.RowKit
attribute [local go_sem ↓] Go.wp_at_zero Go.wp_at_succ
def jefe : List UInt8 := [74, 101, 102, 101]
def what1 : List UInt8 := [119, 104, 97, 116, 32, 100, 111, 32, 121, 97, 32, 119, 97, 110, 116, 32]
def what2 : List UInt8 := [102, 111, 114, 32, 110, 111, 116, 104, 105, 110, 103, 63]
def whatAll : List UInt8 := [119, 104, 97, 116, 32, 100, 111, 32, 121, 97, 32, 119, 97, 110, 116, 32, 102, 111, 114, 32, 110, 111, 116, 104, 105, 110, 103, 63]
theorem hexJefe0 : hexOf (tagOf jefe whatAll) = [53, 98, 100, 99, 99, 49, 52, 54, 98, 102, 54, 48, 55, 53, 52, 101, 54, 97, 48, 52, 50, 52, 50, 54, 48, 56, 57, 53, 55, 53, 99, 55, 53, 97, 48, 48, 51, 102, 48, 56, 57, 100, 50, 55, 51, 57, 56, 51, 57, 100, 101, 99, 53, 56, 98, 57, 54, 52, 101, 99, 51, 56, 52, 51] := by decide +kernel
theorem conv22_1 (w : World) (o : Obj) (C : Array Value) (n c : Nat) : (convert 22 22 (.slice (some ⟨w.heap.size + 1, 0, none⟩) n c)).run Tryd.prog ((w.alloc o).alloc (.cells C 5)) = .ok (.slice (some ⟨w.heap.size + 1, 0, none⟩) n c) ((w.alloc o).alloc (.cells C 5 (C.size, C.size + 1))) := by
  have := conv22 (w.alloc o) C n c
  rw [show (w.alloc o).heap.size = w.heap.size + 1 by simp] at this
  exact this
theorem conv22_2 (w : World) (o o2 : Obj) (C : Array Value) (n c : Nat) : (convert 22 22 (.slice (some ⟨w.heap.size + 1 + 1, 0, none⟩) n c)).run Tryd.prog (((w.alloc o).alloc o2).alloc (.cells C 5)) = .ok (.slice (some ⟨w.heap.size + 1 + 1, 0, none⟩) n c) (((w.alloc o).alloc o2).alloc (.cells C 5 (C.size, C.size + 1))) := by
  have := conv22_1 (w.alloc o) o2 C n c
  rw [show (w.alloc o).heap.size = w.heap.size + 1 by simp] at this
  exact this
def psLive (h : Nat) : List Pt := [⟨some ⟨h + 1, 0, none⟩, what1, 16⟩, ⟨some ⟨h + 1 + 1, 0, none⟩, what2, 12⟩]
def psAll (h : Nat) : List Pt := [⟨some ⟨h + 1, 0, none⟩, whatAll, 28⟩]
theorem Rd.newF {w : World} {h : Nat} (hh : w.heap.size = h) (t : TypeId) (cs : List Value) (fr : Nat × Nat) : Rd (w.alloc (.cells cs.toArray t fr)) (some ⟨h, 0, none⟩) cs := by
  subst hh
  exact Rd.new w t cs fr
theorem size_alloc (w : World) (o : Obj) (h : Nat) (hh : w.heap.size = h) : (w.alloc o).heap.size = h + 1 := by subst hh; simp
theorem world1 (w W : World) (hW : (((w.alloc (.cells (bvals jefe).toArray 5 (4, 5))).alloc (.cells (bvals what1).toArray 5 (16, 17))).alloc (.cells (bvals what2).toArray 5 (12, 13))).alloc (.cells (pvals (psLive w.heap.size)).toArray 22) = W) :
    Below w.heap.size w W ∧ Rd W (some ⟨w.heap.size, 0, none⟩) (bvals jefe) ∧ Rps W (some ⟨w.heap.size + 1 + 1 + 1, 0, none⟩) (psLive w.heap.size) := by
  have s1 := size_alloc w (.cells (bvals jefe).toArray 5 (4, 5)) _ rfl
  have s2 := size_alloc _ (.cells (bvals what1).toArray 5 (16, 17)) _ s1
  have s3 := size_alloc _ (.cells (bvals what2).toArray 5 (12, 13)) _ s2
  subst hW
  refine ⟨((((Below.refl _ _).alloc (Nat.le_refl _) _).alloc (by rw [s1]; omega) _).alloc (by rw [s2]; omega) _).alloc (by rw [s3]; omega) _, (((Rd.new w 5 _ _).alloc _).alloc _).alloc _, Rd.newF s3 22 _ _, ?_⟩
  intro p hp
  simp only [psLive, List.mem_cons, List.not_mem_nil, or_false] at hp
  rcases hp with rfl | rfl
  · exact ⟨((Rd.newF s1 5 _ _).alloc _).alloc _, show 16 ≤ 16 by decide, show 16 ≤ maxLen by decide⟩
  · exact ⟨(Rd.newF s2 5 _ _).alloc _, show 12 ≤ 12 by decide, show 12 ≤ maxLen by decide⟩
theorem world2 (w W : World) (hW : ((w.alloc (.cells (bvals jefe).toArray 5 (4, 5))).alloc (.cells (bvals whatAll).toArray 5 (28, 29))).alloc (.cells (pvals (psAll w.heap.size)).toArray 22) = W) :
    Below w.heap.size w W ∧ Rd W (some ⟨w.heap.size, 0, none⟩) (bvals jefe) ∧ Rps W (some ⟨w.heap.size + 1 + 1, 0, none⟩) (psAll w.heap.size) := by
  have s1 := size_alloc w (.cells (bvals jefe).toArray 5 (4, 5)) _ rfl
  have s2 := size_alloc _ (.cells (bvals whatAll).toArray 5 (28, 29)) _ s1
  subst hW
  refine ⟨(((Below.refl _ _).alloc (Nat.le_refl _) _).alloc (by rw [s1]; omega) _).alloc (by rw [s2]; omega) _, ((Rd.new w 5 _ _).alloc _).alloc _, Rd.newF s2 22 _ _, ?_⟩
  intro p hp
  simp only [psAll, List.mem_cons, List.not_mem_nil, or_false] at hp
  subst hp
  exact ⟨(Rd.newF s1 5 _ _).alloc _, show 28 ≤ 28 by decide, show 28 ≤ maxLen by decide⟩
theorem strOf_const (l : List UInt8) (b : ByteArray) (t : TypeId) (h : l = b.data.toList) : binOp .eql t (strOf l) (.string b) = pure (.bool true) := by
  subst h
  unfold strOf
  show (pure (Value.bool _) : Sem Value) = _
  congr 2
  simp
set_option maxRecDepth 100000 in
set_option maxHeartbeats 1000000 in
theorem lives2_any (w : World) (hk : HasK w) : Calls Tryd.prog 26 #[] w fun e w' => e = .returned (.bool true) ∧ Below w.heap.size w w' := by
  have hcv := conv22
  have hcv1 := conv22_1
  have hcv2 := conv22_2
  go_enter Tryd.func26, Tryd.ntmps26
  go_wp2_with fail
  generalize hW : (((w.alloc _).alloc _).alloc _).alloc _ = W1
  obtain ⟨b1, r1, p1⟩ := world1 w W1 hW
  have HB1 := Lib.hid b1
  clear hW
  refine (tag_any (some ⟨w.heap.size, 0, none⟩) (some ⟨w.heap.size + 1 + 1 + 1, 0, none⟩) 4 2 jefe (psLive w.heap.size) W1 r1 (by decide) p1 (by simp [psLive]) (by simp [joined, psLive, what1, what2]) (hk.below b1)).mono ?_
  rintro e w2 ⟨v2, rfl, own2, b2⟩
  have hj : joined (psLive w.heap.size) = whatAll := rfl
  rw [hj] at own2
  obtain ⟨A2, c2, rfl, _, _⟩ := own_slice own2
  have HR2 : Hid (Rd w2 A2 (bvals (tagOf jefe whatAll))) := Rd.of_own own2
  have HB2 : Hid (Below w.heap.size w w2) := b1.trans (b2.mono b1.size)
  have hl := tagOf_length jefe whatAll
  have HH := Lib.hid hexJefe0
  generalize hT : tagOf jefe whatAll = T at *
  have HT := Lib.hid hT
  clear own2 b1 b2 r1 p1 hj hT HB1
  go_wp2_with fail
  rw [← hl]
  refine (rhex_any A2 c2 T w2 HR2.out (by rw [hl]; omega)).mono ?_
  rintro e w3 ⟨rfl, b3⟩
  have HR3 : Hid (Rd w3 A2 (bvals T)) := HR2.out.below b3
  have HB3 : Hid (Below w.heap.size w w3) := HB2.out.trans (b3.mono HB2.out.size)
  have hk3 := hk.below HB3.out
  rw [hl]
  rw [HH.out]
  clear b3 HB2 HR2 hk
  unfold strOf
  go_wp2_with fail
  generalize hW : ((w3.alloc _).alloc _).alloc _ = W4
  obtain ⟨b4, r4, p4⟩ := world2 w3 W4 hW
  have HR4 : Hid (Rd W4 A2 (bvals T)) := HR3.out.below b4
  have HB4 : Hid (Below w.heap.size w W4) := HB3.out.trans (b4.mono HB3.out.size)
  have hk4 := hk3.below b4
  clear hW b4 hk3
  rw [← hl]
  have hj : joined (psAll w3.heap.size) = whatAll := rfl
  refine (right_any (some ⟨w3.heap.size, 0, none⟩) A2 (some ⟨w3.heap.size + 1 + 1, 0, none⟩) 4 c2 1 jefe T (psAll w3.heap.size) W4 r4 (by decide) HR4.out p4 (by simp [psAll]) (by simp [joined, psAll, whatAll]) hk4).mono ?_
  rintro e w5 ⟨rfl, b5⟩
  rw [hj, HT.out, sameB_self]
  have HB5 : Hid (Below w.heap.size w w5) := HB4.out.trans (b5.mono HB4.out.size)
  clear r4 p4 hk4 hj b5
  go_wp2_with fail
  go_ret
  exact ⟨rfl, HB5.out⟩
end Go.Proofs.YtleeacgimikdbaaDoor

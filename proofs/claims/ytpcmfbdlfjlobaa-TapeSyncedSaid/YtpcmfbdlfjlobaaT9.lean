/- The document's examples: the walk. -/
import Derived.Test.YtpcmfbdlfjlobaaT8
namespace Go.Proofs.Ytpcmfbdlfjlobaa
open Go.RowKit
set_option linter.unusedVariables false
attribute [local go_sem ↓] Go.wp_at_zero Go.wp_at_succ
theorem p2 : pickF 2 (a7.us.length + 1) = 2 := by decide
theorem p1 : pickF 1 (a3.us.length + 1) = 1 := by decide
set_option maxRecDepth 100000 in
set_option maxHeartbeats 8000000 in
theorem lives_any (w : World) : Calls Try.prog 13 #[] w (Lived w) := by
  have hcv := conv28
  go_enter Try.func13, Try.ntmps13
  go_wp2_with fail
  refine (new_any w).mono ?_
  intro e w1 hm
  obtain ⟨p, rfl, h1⟩ := hm.go
  have H1 := Lib.hid h1
  clear hm h1
  go_wp2_with fail
  have HX2 : Hid (Rd (w1.alloc (.cells #[.int .u8 97, .int .u8 98, .int .u8 99] 5 (3, 4))) (some ⟨w1.heap.size, 0, none⟩) (bvals [97, 98, 99])) := Rd.newM w1 5 (bvals [97, 98, 99]) (3, 4)
  refine ((H1.out.alloc (.cells #[.int .u8 97, .int .u8 98, .int .u8 99] 5 (3, 4))).write t0_good false (some ⟨w1.heap.size, 0, none⟩) 3 [97, 98, 99] HX2.out (by decide) (by decide) (by decide)).mono ?_
  rintro e w2 ⟨rfl, h2⟩
  have H2 : Hid (Go2 w w2 p a1 none []) := h2
  clear h2 HX2 H1
  go_wp2_with fail
  refine (H2.out.sync_ g1 (by decide)).mono ?_
  rintro e w3 ⟨rfl, h3⟩
  have H3 : Hid (Go2 w w3 p a2 none []) := h3
  clear h3 H2
  go_wp2_with fail
  have HX4 : Hid (Rd (w3.alloc (.cells #[.int .u8 100, .int .u8 101] 5 (2, 3))) (some ⟨w3.heap.size, 0, none⟩) (bvals [100, 101])) := Rd.newM w3 5 (bvals [100, 101]) (2, 3)
  refine ((H3.out.alloc (.cells #[.int .u8 100, .int .u8 101] 5 (2, 3))).write g2 false (some ⟨w3.heap.size, 0, none⟩) 2 [100, 101] HX4.out (by decide) (by decide) (by decide)).mono ?_
  rintro e w4 ⟨rfl, h4⟩
  have H4 : Hid (Go2 w w4 p a3 none []) := h4
  clear h4 HX4 H3
  go_wp2_with fail
  refine (H4.out.crash_ g3 1 (by decide) (by decide) (by decide)).mono ?_
  rintro e w5 ⟨rfl, h5⟩
  have H5 : Hid (Go2 w w5 p a4 none []) := h5
  clear h5 H4
  go_wp2_with fail
  refine (H5.out.read_ g4 false (by decide)).mono ?_
  rintro e w6 ⟨X, c6, rfl, h6, _⟩
  have H6 : Hid (Go2 w w6 p a4 X [97, 98, 99, 100]) := h6
  rw [show (a4.now.get false).length = 4 from by decide]
  clear h6 H5
  go_wp2_with fail
  have HX7 : Hid (Rd (w6.alloc (.cells #[.int .u8 120] 5 (1, 2))) (some ⟨w6.heap.size, 0, none⟩) (bvals [120])) := Rd.newM w6 5 (bvals [120]) (1, 2)
  refine ((H6.out.alloc (.cells #[.int .u8 120] 5 (1, 2))).write g4 true (some ⟨w6.heap.size, 0, none⟩) 1 [120] HX7.out (by decide) (by decide) (by decide)).mono ?_
  rintro e w7 ⟨rfl, h7⟩
  have H7 : Hid (Go2 w w7 p a5 X [97, 98, 99, 100]) := h7
  clear h7 HX7 H6
  go_wp2_with fail
  refine (H7.out.clear_ g5 true (by decide) (by decide)).mono ?_
  rintro e w8 ⟨rfl, h8⟩
  have H8 : Hid (Go2 w w8 p a6 X [97, 98, 99, 100]) := h8
  clear h8 H7
  go_wp2_with fail
  have HX9 : Hid (Rd (w8.alloc (.cells #[.int .u8 121] 5 (1, 2))) (some ⟨w8.heap.size, 0, none⟩) (bvals [121])) := Rd.newM w8 5 (bvals [121]) (1, 2)
  refine ((H8.out.alloc (.cells #[.int .u8 121] 5 (1, 2))).write g6 true (some ⟨w8.heap.size, 0, none⟩) 1 [121] HX9.out (by decide) (by decide) (by decide)).mono ?_
  rintro e w9 ⟨rfl, h9⟩
  have H9 : Hid (Go2 w w9 p a7 X [97, 98, 99, 100]) := h9
  clear h9 HX9 H8
  go_wp2_with fail
  refine (H9.out.crash_ g7 2 (by decide) (by decide) (by decide)).mono ?_
  rintro e w10 ⟨rfl, h10⟩
  have H10 : Hid (Go2 w w10 p a8 X [97, 98, 99, 100]) := h10
  clear h10 H9
  go_wp2_with fail
  refine (H10.out.read_ g8 true (by decide)).mono ?_
  rintro e w11 ⟨Y, c11, rfl, _, h11⟩
  have H11 : Hid (Go2 w w11 p a8 X [97, 98, 99, 100]) := h11
  rw [show (a8.now.get true).length = 0 from by decide]
  clear h11 H10
  go_wp2_with fail
  refine (H11.out.fuse_ 1 (by decide) (by decide)).mono ?_
  rintro e w12 ⟨rfl, h12⟩
  have H12 : Hid (Go2 w w12 p a9 X [97, 98, 99, 100]) := h12
  clear h12 H11
  go_wp2_with fail
  have HX13 : Hid (Rd (w12.alloc (.cells #[.int .u8 120] 5 (1, 2))) (some ⟨w12.heap.size, 0, none⟩) (bvals [120])) := Rd.newM w12 5 (bvals [120]) (1, 2)
  refine ((H12.out.alloc (.cells #[.int .u8 120] 5 (1, 2))).write g9 false (some ⟨w12.heap.size, 0, none⟩) 1 [120] HX13.out (by decide) (by decide) (by decide)).mono ?_
  rintro e w13 ⟨rfl, h13⟩
  have H13 : Hid (Go2 w w13 p a10 X [97, 98, 99, 100]) := h13
  clear h13 HX13 H12
  have hstr := str_of (P := Try.prog) (w := w13) Try.underlying28 Try.underlying5 Try.underlying9 (n := 4) c6 H13.out.rd rfl
  have HSB := Lib.hid (H13.out.sync_bad (by decide))
  go_wp2_with fail
  refine HSB.out.mono ?_
  rintro e w' ⟨rfl, rfl⟩
  rw [show rdyN a10 0 = 40 from by decide]
  go_wp2_with fail
  go_ret
  exact ⟨rfl, H13.out.bel⟩
end Go.Proofs.Ytpcmfbdlfjlobaa

/- The document's examples. -/
import Derived.Test.YtpljopocnlllcaaR4
import Derived.Test.YtpljopocnlllcaaR9
import Derived.Test.YtpljopocnlllcaaD1
import Derived.Lib.SlBytesConst
namespace Go.Proofs.Ytpljopocnlllcaa
open Go.RowKit
attribute [local go_sem ↓] Go.wp_at_zero Go.wp_at_succ
def Lived (w : World) (e : Ending) (w' : World) : Prop := e = .returned (.bool true) ∧ Below w.heap.size w w'
def s1 : St := ⟨16, [18, 16], []⟩
def s2 : St := ⟨16, [18, 16], [(1, [97])]⟩
def s3 : St := ⟨16, [18, 16], [(1, [97]), (2, [98])]⟩
def s4 : St := ⟨16, [18, 16], [(2, [98])]⟩
theorem new_none1 (w : World) : Calls Try.prog 7 #[.int .i64 1] w fun e w' => e = .returned (.pointer none) ∧ w = w' := new_none 1 w (by omega)
theorem Rep.below {tw te : TypeId} {w w' : World} {p : Nat} {s : St} {F : Nat → Prop} (h : Rep tw te w p s F) (hb : Below w.heap.size w w') : Rep tw te w' p s F := h.kept (Kept.of_below (fun _ => False) hb) (fun _ _ h => h)
theorem Rep.alloc {tw te : TypeId} {w : World} {p : Nat} {s : St} {F : Nat → Prop} (h : Rep tw te w p s F) (o : Obj) : Rep tw te (w.alloc o) p s F := h.below (Below.alloc (Below.refl _ _) (Nat.le_refl _) _)
theorem bits_goods : (st0 2).good ∧ s1.good ∧ s2.good ∧ s3.good := ⟨⟨by decide, by decide, by decide, by decide, by decide⟩, ⟨by decide, by decide, by decide, by decide, by decide⟩, ⟨by decide, by decide, by decide, by decide, by decide⟩, ⟨by decide, by decide, by decide, by decide, by decide⟩⟩
theorem lo_grew {F F' : Nat → Prop} {w0 w : World} (h : ∀ k, F k → w0.heap.size ≤ k) (hg : Grew F F' w) (hz : w0.heap.size ≤ w.heap.size) : ∀ k, F' k → w0.heap.size ≤ k := fun k hk => by
  rcases hg k hk with h1 | h1
  · exact h k h1
  · omega
theorem Rd.newM (w : World) (t : TypeId) (cs : List Value) (fr : Nat × Nat) : Rd (w.alloc (.cells cs.toArray t fr)) (some ⟨w.heap.size, 0, none⟩) cs := by
  refine .inr ⟨w.heap.size, 0, rfl, by simp, fun j u hu => ?_⟩
  have h := heap_alloc_new w (.cells cs.toArray t fr)
  simp only [World.cell?, h]
  simpa using hu
theorem conv30 (w : World) (C : Array Value) (n c : Nat) : (convert 30 30 (.slice (some ⟨w.heap.size, 0, none⟩) n c)).run Try.prog (w.alloc (.cells C 5)) = .ok (.slice (some ⟨w.heap.size, 0, none⟩) n c) (w.alloc (.cells C 5 (C.size, C.size + 1))) := Lib.run_convert_bytes_const (P := Try.prog) w 30 5 C n c Try.underlying30 Try.underlying5
theorem strB {w : World} {A : Option Addr} {c : Nat} (h : Rd w A (bvals [98])) : (convert 30 9 (.slice A 1 c)).run Try.prog w = .ok (.string ⟨#[98]⟩) w := str_of Try.underlying30 Try.underlying5 Try.underlying9 (n := 1) c h rfl
set_option maxRecDepth 100000 in
set_option maxHeartbeats 8000000 in
theorem lives_any (w : World) : Calls Try.prog 9 #[] w (Lived w) := by
  have hcv := conv30
  go_enter Try.func9, Try.ntmps9
  go_wp2_with fail
  refine (new_any 2 w (by omega) (by omega)).mono ?_
  rintro e w1 ⟨p, F1, rfl, hr1, hlo1, hb1⟩
  have HR1 := Lib.hid hr1
  have HK1 := Lib.hid hb1
  have HL1 := Lib.hid hlo1
  clear hr1 hb1 hlo1
  go_wp2_with fail
  have HA1 : Hid (Rd (w1.alloc (.cells #[.int .i64 2] 3)) (some ⟨w1.heap.size, 0, none⟩) (ivals [2])) := Rd.of_blk (Blk.new w1 3 (ivals [2])) 0
  have HP1 : Hid (Rep 51 64 (w1.alloc (.cells #[.int .i64 2] 3)) p (st0 2) F1) := HR1.out.alloc _
  have HK2 : Hid (Below w.heap.size w (w1.alloc (.cells #[.int .i64 2] 3))) := HK1.out.alloc HK1.out.size _
  have HN1 : Hid (¬ F1 w1.heap.size) := fun h => by have := HR1.out.lt _ h; omega
  clear HR1 HK1
  refine (pass_any 16 _ 1 [2] HP1.out bits_goods.1 HA1.out (by rintro a ⟨⟩ _; exact HN1.out) (by simp [maxLen])).mono ?_
  rintro e w3 ⟨v3, rfl, hv3, hr3, hk3⟩
  rw [show told 16 [2] (st0 2).clocks.length = [18, 16] from by decide, show (st0 2).clocks.length = 2 from rfl] at hv3
  rw [show passSt (st0 2) 16 [2] = s1 from by unfold passSt s1; congr 1] at hr3
  obtain ⟨g3, c3, rfl, hgl3, hgh3, _⟩ := own_form hv3 (by omega)
  have HG3 : Hid (Rd w3 (some ⟨g3, 0, none⟩) (ivals [18, 16])) := Rd.of_own hv3
  have HGn3 : Hid (¬ F1 g3) := fun h => by have := HP1.out.lt _ h; omega
  have HR3 := Lib.hid hr3
  have HK3 : Hid (Below w.heap.size w w3) := HK2.out.trans (hk3.below HL1.out HK2.out.size)
  have HG0 : Hid (g3 < w3.heap.size) := hgh3
  clear HA1 HP1 HK2 HN1 hv3 hr3 hk3 hgl3 hgh3
  go_wp2_with fail
  have HA4 : Hid (Rd (w3.alloc (.cells #[.int .u8 97] 5 (1, 2))) (some ⟨w3.heap.size, 0, none⟩) (bvals [97])) := Rd.newM w3 5 (bvals [97]) (1, 2)
  have HP4 : Hid (Rep 51 64 (w3.alloc (.cells #[.int .u8 97] 5 (1, 2))) p s1 F1) := HR3.out.alloc _
  have HG4 : Hid (Rd (w3.alloc (.cells #[.int .u8 97] 5 (1, 2))) (some ⟨g3, 0, none⟩) (ivals [18, 16])) := HG3.out.alloc _
  have HK4 : Hid (Below w.heap.size w (w3.alloc (.cells #[.int .u8 97] 5 (1, 2)))) := HK3.out.alloc HK3.out.size _
  have HZ4 : Hid (g3 < (w3.alloc (.cells #[.int .u8 97] 5 (1, 2))).heap.size) := by simp; exact Nat.lt_succ_of_lt HG0.out
  refine (send_any 1 _ 1 [97] HP4.out bits_goods.2.1 HA4.out (by decide) (by decide)).mono ?_
  clear HG3 HR3 HK3 HA4 HG0
  rintro e w5 ⟨rfl, F5, hr5, hk5, hg5⟩
  rw [show sendSt s1 1 [97] = s2 from by unfold sendSt s1 s2; congr 1] at hr5
  have HR5 := Lib.hid hr5
  have HG5 : Hid (Rd w5 (some ⟨g3, 0, none⟩) (ivals [18, 16])) := HG4.out.kept hk5 (by rintro a ⟨⟩; exact HGn3.out)
  have HK5 : Hid (Below w.heap.size w w5) := HK4.out.trans (hk5.below HL1.out HK4.out.size)
  have HL5 : Hid (∀ k, F5 k → w.heap.size ≤ k) := lo_grew HL1.out hg5 HK4.out.size
  have HGn5 : Hid (¬ F5 g3) := fun h => by
    rcases hg5 _ h with h | h
    · exact HGn3.out h
    · have := HZ4.out; omega
  have HG0 : Hid (g3 < w5.heap.size) := Nat.lt_of_lt_of_le HZ4.out hk5.size
  clear HP4 HG4 HK4 HZ4 hr5 hk5 hg5 HL1 HGn3
  go_wp2_with fail
  have HA6 : Hid (Rd (w5.alloc (.cells #[.int .u8 98] 5 (1, 2))) (some ⟨w5.heap.size, 0, none⟩) (bvals [98])) := Rd.newM w5 5 (bvals [98]) (1, 2)
  have HP6 : Hid (Rep 51 64 (w5.alloc (.cells #[.int .u8 98] 5 (1, 2))) p s2 F5) := HR5.out.alloc _
  have HG6 : Hid (Rd (w5.alloc (.cells #[.int .u8 98] 5 (1, 2))) (some ⟨g3, 0, none⟩) (ivals [18, 16])) := HG5.out.alloc _
  have HK6 : Hid (Below w.heap.size w (w5.alloc (.cells #[.int .u8 98] 5 (1, 2)))) := HK5.out.alloc HK5.out.size _
  have HZ6 : Hid (g3 < (w5.alloc (.cells #[.int .u8 98] 5 (1, 2))).heap.size) := by simp; exact Nat.lt_succ_of_lt HG0.out
  refine (send_any 2 _ 1 [98] HP6.out bits_goods.2.2.1 HA6.out (by decide) (by decide)).mono ?_
  clear HG5 HR5 HK5 HA6 HG0
  rintro e w7 ⟨rfl, F7, hr7, hk7, hg7⟩
  rw [show sendSt s2 2 [98] = s3 from by unfold sendSt s2 s3; congr 1] at hr7
  have HR7 := Lib.hid hr7
  have HG7 : Hid (Rd w7 (some ⟨g3, 0, none⟩) (ivals [18, 16])) := HG6.out.kept hk7 (by rintro a ⟨⟩; exact HGn5.out)
  have HK7 : Hid (Below w.heap.size w w7) := HK6.out.trans (hk7.below HL5.out HK6.out.size)
  have HL7 : Hid (∀ k, F7 k → w.heap.size ≤ k) := lo_grew HL5.out hg7 HK6.out.size
  have HGn7 : Hid (¬ F7 g3) := fun h => by
    rcases hg7 _ h with h | h
    · exact HGn5.out h
    · have := HZ6.out; omega
  have HG0 : Hid (g3 < w7.heap.size) := Nat.lt_of_lt_of_le HZ6.out hk7.size
  clear HP6 HG6 HK6 HZ6 hr7 hk7 hg7 HL5 HGn5
  go_wp2_with fail
  refine (take_any 1 true 2 [98] HR7.out bits_goods.2.2.2 rfl (by decide)).mono ?_
  rintro e w8 ⟨A8, c8, F8, rfl, hrd8, hl8, hm8, hA8, hr8, hk8, hg8⟩
  rw [if_pos rfl] at hr8
  have HR8 := Lib.hid hr8
  have HB8 := Lib.hid hrd8
  have HA8 : Hid (∀ a, A8 = some a → ¬ F8 a.block ∧ a.block < w8.heap.size) := fun a ha => (hA8 a ha).2
  have HG8 : Hid (Rd w8 (some ⟨g3, 0, none⟩) (ivals [18, 16])) := HG7.out.kept hk8 (by rintro a ⟨⟩; exact HGn7.out)
  have HK8 : Hid (Below w.heap.size w w8) := HK7.out.trans (hk8.below HL7.out HK7.out.size)
  have HL8 : Hid (∀ k, F8 k → w.heap.size ≤ k) := lo_grew HL7.out hg8 HK7.out.size
  have HGn8 : Hid (¬ F8 g3) := fun h => by
    rcases hg8 _ h with h | h
    · exact HGn7.out h
    · have := HG0.out; omega
  clear HR7 HG7 HK7 hrd8 hl8 hm8 hA8 hr8 hk8 hg8 HL7 HGn7 HG0
  rw [show ([98] : List UInt8).length = 1 from rfl]
  go_wp2_with fail
  refine (drop_any 0 1 [97] HR8.out bits_goods.2.2.2 rfl (by decide)).mono ?_
  rintro e w9 ⟨rfl, F9, hr9, hk9, hg9⟩
  have HR9 : Hid (Rep 51 64 w9 p s4 F9) := hr9
  have HB9 : Hid (Rd w9 A8 (bvals [98])) := HB8.out.kept hk9 fun a ha => (HA8.out a ha).1
  have HG9 : Hid (Rd w9 (some ⟨g3, 0, none⟩) (ivals [18, 16])) := HG8.out.kept hk9 (by rintro a ⟨⟩; exact HGn8.out)
  have HK9 : Hid (Below w.heap.size w w9) := HK8.out.trans (hk9.below HL8.out HK8.out.size)
  have HX9 := Lib.hid (strB (c := c8) HB9.out)
  have HC9 := Lib.hid (clock_any 1 HR9.out)
  have HT9 := Lib.hid (time_any HR9.out)
  have HN9 := Lib.hid (len_any HR9.out)
  have hi0 : w9.cell? ⟨g3, 0, none⟩ = some (.int .i64 18) := by
    obtain ⟨b, o, h, _, hc⟩ := HG9.out.at (j := 0) (by decide)
    cases h
    exact hc 0 _ rfl
  have hi1 : w9.cell? ⟨g3, 1, none⟩ = some (.int .i64 16) := by
    obtain ⟨b, o, h, _, hc⟩ := HG9.out.at (j := 0) (by decide)
    cases h
    exact hc 1 _ rfl
  have hx9 := HX9.out
  clear HR8 HB8 HA8 HG8 HK8 HL8 HGn8 hr9 hk9 hg9 HB9 HG9 HX9
  have HN1 := Lib.hid (new_none1 w9)
  go_wp2_with fail
  refine HC9.out.mono ?_
  rintro e w' ⟨rfl, rfl⟩
  rw [show clockF s4 1 = 18 from by decide]
  go_wp2_with fail
  refine HT9.out.mono ?_
  rintro e w' ⟨rfl, rfl⟩
  rw [show s4.time = 16 from rfl]
  go_wp2_with fail
  refine HN9.out.mono ?_
  rintro e w' ⟨rfl, rfl⟩
  rw [show (s4.ps.length : Int) = 1 from rfl]
  go_wp2_with fail
  refine HN1.out.mono ?_
  rintro e w' ⟨rfl, rfl⟩
  go_wp2_with fail
  go_ret
  exact ⟨rfl, HK9.out⟩
end Go.Proofs.Ytpljopocnlllcaa

/- like: both structures are the same. -/
import Derived.Test.YtpljopocnlllcaaD1
namespace Go.Proofs.Ytpljopocnlllcaa
open Go.RowKit
attribute [local go_sem ↓] Go.wp_at_zero Go.wp_at_succ
def Liked (B : Nat) (p q : Nat) (s : St) (G : Nat → Prop) (w : World) (e : Ending) (w' : World) : Prop := e = .returned (.bool true) ∧ (∃ F', Two B w' p q s s F' G) ∧ Below B w w'
theorem sameB_self (a : List UInt8) : sameB a a = true := by unfold sameB; simp
theorem sameI_self (a : List Int) : sameI a a = true := by unfold sameI; simp
theorem Below.drewN_ {B : Nat} {w w' : World} (h : Below B w w') (k : Nat) : Below B w (w'.drewN k) := ⟨h.os, h.tape, h.output, h.size, h.block⟩
theorem Rep.drew {tw te : TypeId} {w : World} {p : Nat} {s : St} {F : Nat → Prop} (h : Rep tw te w p s F) : Rep tw te w.drew p s F := h.kept (Kept.of_below (fun _ => False) ⟨rfl, rfl, rfl, Nat.le_refl _, fun _ _ => rfl⟩) (fun _ _ h => h)
theorem Took.two {B : Nat} {w w' : World} {p q : Nat} {s s' t : St} {F G F' : Nat → Prop} (h : Two B w p q s t F G) (h1 : Rep 51 64 w' p s' F') (h2 : Kept F w w') (h3 : Grew F F' w) : Two B w' p q s' t F' G ∧ Below B w w' := ⟨h.left h1 h2 h3, h2.below h.loF h.lo⟩
set_option maxRecDepth 100000 in
set_option maxHeartbeats 4000000 in
theorem like_any {B : Nat} {w : World} {p q : Nat} {s : St} {F G : Nat → Prop} (h : Two B w p q s s F G) (hf : s.fine) :
    Calls Try.prog 11 #[.pointer (some ⟨p, 0, none⟩), .pointer (some ⟨q, 0, none⟩)] w (Liked B p q s G w) := by
  have HT := Lib.hid (time_any h.rp.drew)
  have HL := Lib.hid (len_any h.rp.drew)
  have HC := Lib.hid (fun (wx : World) (hr : Rep 51 64 wx p s F) d => clock_any d hr)
  have HTW := Lib.hid h
  obtain ⟨cv, kv, qs, hq⟩ := h.rq
  have q0 : w.cell? ⟨q, 0, none⟩ = some (.int .i64 s.time) := hq.ptr.cell 0
  obtain ⟨A2, c2, hkv, _, _⟩ := hq.pks.slice
  have q2 : w.cell? ⟨q, 2, none⟩ = some kv := hq.ptr.cell 2
  rw [hkv, hq.len] at q2
  have g0 : (s.time != s.time) = false := by simp
  have g1 : ((s.ps.length : Int) != (s.ps.length : Int)) = false := by simp
  clear h hkv hq
  go_enter Try.func11, Try.ntmps11
  go_wp2_with fail
  refine still_lit (by kernel_rfl) (by kernel_rfl) ?_
  repeat (first | still_step | still_call (HT.out.mono fun e w' ⟨h1, h2⟩ => ⟨h1, h2.symm⟩) | still_call (HL.out.mono fun e w' ⟨h1, h2⟩ => ⟨h1, h2.symm⟩))
  refine wpStill_nil ?_
  have HTW1 : Hid (Two B w.drew p q s s F G) := HTW.out.drewN 1
  have HB1 : Hid (Below B w w.drew) := Below.drewN_ (Below.refl _ _) 1
  clear q0 q2 g0 g1 HT HL HC
  go_wp2_with fail
  generalize w.drew = W1 at *
  go_loop [5] (fun i => ∃ k : Nat, k ≤ 18 ∧ i = .int .i64 (k : Int)) (fun i => 18 - (intOf i).toNat)
  case atStart => exact ⟨0, by omega, rfl⟩
  case round =>
    obtain ⟨k, hk, rfl⟩ := hrel
    by_cases hlt : k < 18
    · have hlt' : (k : Int) ≤ 17 := by omega
      have hne : (clockF s (k : Int) != clockF s (k : Int)) = false := by simp
      go_wp2_with fail
      refine (clock_any _ HTW1.out.rp).mono ?_
      rintro e w' ⟨rfl, rfl⟩
      go_wp2_with fail
      refine (rclock_any _ HTW1.out.rq).mono ?_
      rintro e w' ⟨rfl, rfl⟩
      go_wp2_with fail
      go_round
      case rel => exact ⟨k + 1, by omega, by go_num⟩
      case measure => simp [intOf]; omega
    · obtain rfl : k = 18 := by omega
      have hp120 := hf.good.p1
      go_wp2_with fail
      go_loopw [6] (fun i wr => ∃ k : Nat, ∃ F' : Nat → Prop, k ≤ s.ps.length ∧ i = .int .i64 (k : Int) ∧ Two B wr p q s s F' G ∧ Below B w wr) (fun i _ => s.ps.length - (intOf i).toNat)
      case atStart => exact ⟨0, F, by omega, rfl, HTW1.out, HB1.out⟩
      case round =>
        clear HTW1 HB1
        obtain ⟨k, F', hk, rfl, htw, hbl⟩ := hrel
        have HT2 := Lib.hid htw
        have HB2 := Lib.hid hbl
        obtain ⟨cv3, kv3, qs3, h3⟩ := htw.rq
        obtain ⟨A3, c3, hkv3, _, _⟩ := h3.pks.slice
        have q3 : wr.cell? ⟨q, 2, none⟩ = some kv3 := h3.ptr.cell 2
        rw [hkv3, h3.len] at q3
        clear h3 hkv3 htw hbl
        by_cases hlt : k < s.ps.length
        · have hlt' : (k : Int) < (s.ps.length : Int) := by omega
          have h120 : (k : Int) ≤ 120 := by omega
          obtain ⟨⟨to, bs⟩, hx⟩ : ∃ y, s.ps[k] = y := ⟨_, rfl⟩
          have hpk : s.ps[k]? = some (to, bs) := by rw [List.getElem?_eq_getElem hlt, hx]
          have hbs : bs.length ≤ 1000 := hf.small (to, bs) (List.mem_of_getElem? hpk)
          have HTK := Lib.hid (take_any k true to bs HT2.out.rp hf.good hpk hbs)
          have HPK := Lib.hid hpk
          clear hpk hx
          go_wp2_with fail
          refine HTK.out.mono ?_
          rintro e w5 ⟨A5, c5, F5, rfl, r5, l5, m5, g5, rep5, k5, gr5⟩
          obtain ⟨two5, bel5⟩ := Took.two (HT2.out) rep5 k5 gr5
          have HT5 : Hid (Two B w5 p q s s F5 G) := two5
          have HB5 : Hid (Below B w w5) := HB2.out.trans bel5
          have HR5 := Lib.hid r5
          clear r5 g5 rep5 k5 gr5 two5 bel5 q3 HTK HT2 HB2
          obtain ⟨cv6, kv6, qs6, h6⟩ := HT5.out.rq
          have hl6 := h6.len
          obtain ⟨g6, off6, cap6, hkv6, hnc6, hcm6, hgl6⟩ := h6.pks.form (by omega)
          subst hkv6
          have hkl6 : k < qs6.length := by omega
          have hq6 : qs6[k].to = to ∧ qs6[k].bs = bs := by
            have hpk := HPK.out
            rw [← h6.eq, List.getElem?_map, List.getElem?_eq_getElem hkl6] at hpk
            simp [Pk.pair] at hpk
            exact hpk
          obtain ⟨e61, e62⟩ := pcells_at qs6 k hkl6
          have hc61 := h6.pks.cells _ _ e61
          have hc62 := h6.pks.cells _ _ e62
          have hc63 : w5.cell? ⟨g6, off6 + k * 2 + 1, none⟩ = _ := hc62
          have hok6 := h6.data _ (List.getElem_mem hkl6)
          have q6 : w5.cell? ⟨q, 2, none⟩ = some (.slice (some ⟨g6, off6, none⟩) qs6.length cap6) := h6.ptr.cell 2
          have hb6 : g6 < w5.heap.size := hgl6
          have hlt6 : (k : Int) < (qs6.length : Int) := by omega
          have H6 := Lib.hid h6
          clear h6
          generalize qs6[k] = pk at *
          obtain ⟨to6, A6, bs6, c6⟩ := pk
          simp only at hq6 hc61 hc62 hc63 hok6
          obtain ⟨rfl, rfl⟩ := hq6
          have hs27 := same_any A5 A6 c5 c6 bs6 bs6 w5 HR5.out hok6.rd (by omega) (by omega)
          rw [sameB_self] at hs27
          have HS27 := Lib.hid hs27
          clear hs27
          go_wp2_with fail
          refine HS27.out.mono ?_
          rintro e w7 ⟨rfl, nd, rfl⟩
          have HT7 : Hid (Two B (w5.drewN nd) p q s s F5 G) := HT5.out.drewN nd
          have HB7 : Hid (Below B w (w5.drewN nd)) := Below.drewN_ HB5.out nd
          have hc71 : (w5.drewN nd).cell? ⟨g6, off6 + k * 2, none⟩ = some (.int .i64 to6) := hc61
          have q7 : (w5.drewN nd).cell? ⟨q, 2, none⟩ = some (.slice (some ⟨g6, off6, none⟩) qs6.length cap6) := q6
          generalize w5.drewN nd = w7 at *
          have hne : (to6 != to6) = false := by simp
          go_wp2_with fail
          go_roundw
          case rel => exact ⟨k + 1, F5, by omega, by go_num, HT7.out, HB7.out⟩
          case measure => simp [intOf]; omega
        · obtain rfl : k = s.ps.length := by omega
          go_wp2_with fail
          go_ret
          exact ⟨rfl, ⟨F', HT2.out⟩, HB2.out⟩
end Go.Proofs.Ytpljopocnlllcaa

/- Contracts of the reference's Send and Drop. -/
import Derived.Test.YtpljopocnlllcaaR9
namespace Go.Proofs.Ytpljopocnlllcaa
open Go.RowKit
attribute [local go_sem ↓] Go.wp_at_zero Go.wp_at_succ
theorem rsend_bad {w : World} {p : Nat} {s : St} {F : Nat → Prop} (to : Int) (v : Value) (h : Rep 54 57 w p s F) (hto : isB s.clocks.length to = false) :
    Calls Try.prog 24 #[.pointer (some ⟨p, 0, none⟩), .int .i64 to, v] w fun e w' => e = .returned (.int .i64 1) ∧ w = w' := by
  obtain ⟨cv, kv, qs, h⟩ := h
  obtain ⟨A, cap, hcv, _, _⟩ := h.clk.slice
  have h0 : w.cell? ⟨p, 1, none⟩ = some cv := h.ptr.cell 1
  rw [hcv] at h0
  clear h hcv
  unfold isB at hto
  by_cases h1 : to < 1
  · clear hto
    go_enter Try.func24, Try.ntmps24
    go_wp2
    go_ret
    exact ⟨rfl, rfl⟩
  · have h2 : (s.clocks.length : Int) < to := by
      have h3 : 1 ≤ to := by omega
      simpa [h3] using hto
    have h1' : decide (to < 1) = false := by simpa using h1
    clear hto
    go_enter Try.func24, Try.ntmps24
    go_wp2
    go_ret
    exact ⟨rfl, rfl⟩
/-- The first packet is gone: the slice begins behind it. -/
theorem tail_rep {tw te : TypeId} {w : World} {p gk off cap : Nat} {s : St} {F : Nat → Prop} {cv : Value} {qs : List Pk} (h : RepW tw te w p s F cv (.slice (some ⟨gk, off, none⟩) qs.length cap) qs) (hk : 0 < qs.length) :
    Rep tw te (w.setCell ⟨p, 2, none⟩ (.slice (some ⟨gk, off + 2, none⟩) (qs.length - 1) (cap - 1))) p ⟨s.time, s.clocks, s.ps.eraseIdx 0⟩ F ∧ Kept F w (w.setCell ⟨p, 2, none⟩ (.slice (some ⟨gk, off + 2, none⟩) (qs.length - 1) (cap - 1))) := by
  have hK : Kept (fun b => b = p ∨ (Value.slice (some ⟨gk, off, none⟩) qs.length cap).ownBlock = some b) w (w.setCell ⟨p, 2, none⟩ (.slice (some ⟨gk, off + 2, none⟩) (qs.length - 1) (cap - 1))) := (Kept.refl _ w).set (p := ⟨p, 2, none⟩) (.inl (.inl rfl)) _
  have hne : gk ≠ p := fun e => h.ap2 (by rw [e]; rfl)
  have ht := h.pks.tail hk
  have e1 : (pcells qs).drop 2 = pcells (qs.eraseIdx 0) := by
    have := pcells_drop qs 1
    rw [show 1 * 2 = 2 from rfl] at this
    rw [this, List.eraseIdx_zero, List.drop_one]
  have hl : (qs.eraseIdx 0).length = qs.length - 1 := by rw [List.eraseIdx_zero, List.length_tail]
  rw [e1, ← hl] at ht
  have hat : ∀ g, (Value.slice (some ⟨gk, off + 2, none⟩) (qs.length - 1) (cap - 1)).ownBlock = some g → (Value.slice (some ⟨gk, off, none⟩) qs.length cap).ownBlock = some g ∨ w.heap.size ≤ g := fun g hg => .inl hg
  have hg : GOwn (w.setCell ⟨p, 2, none⟩ (.slice (some ⟨gk, off + 2, none⟩) (qs.length - 1) (cap - 1))) te 2 (.slice (some ⟨gk, off + 2, none⟩) (qs.length - 1) (cap - 1)) (qs.eraseIdx 0).length (pcells (qs.eraseIdx 0)) := by
    have := ht.keep (w' := w.setCell ⟨p, 2, none⟩ (.slice (some ⟨gk, off + 2, none⟩) (qs.length - 1) (cap - 1))) (fun b hb => Below.heap_setCell w _ _ b (fun e => by simp only at e; subst e; simp [Value.ownBlock] at hb; exact hne hb))
    rw [hl] at this ⊢
    exact this
  have hr := h.turn (F' := F) hK (h.ptr.set_ 2 _) hg hat (fun q hq => h.old hK hat (List.mem_of_mem_eraseIdx hq)) (fun _ hb => hb) (fun b hb => h.fpk b hb) (fun q hq a ha => h.fpd q (List.mem_of_mem_eraseIdx hq) a ha) (fun b hb => by have := h.lt b hb; simpa using this)
  rw [map_erase, h.eq] at hr
  exact ⟨⟨_, _, _, hr⟩, hK.mono h.fpk2⟩
theorem tail_rep2 {tw te : TypeId} {w : World} {p gk off n cap : Nat} {s : St} {F : Nat → Prop} (h : Rep tw te w p s F) (hc : w.cell? ⟨p, 2, none⟩ = some (.slice (some ⟨gk, off, none⟩) n cap)) (hn : 0 < n) :
    Rep tw te (w.setCell ⟨p, 2, none⟩ (.slice (some ⟨gk, off + 2, none⟩) (n - 1) (cap - 1))) p ⟨s.time, s.clocks, s.ps.eraseIdx 0⟩ F ∧ Kept F w (w.setCell ⟨p, 2, none⟩ (.slice (some ⟨gk, off + 2, none⟩) (n - 1) (cap - 1))) := by
  obtain ⟨cv, kv, qs, h⟩ := h
  have h2 := h.ptr.cell 2
  rw [hc] at h2
  have hkv : kv = .slice (some ⟨gk, off, none⟩) n cap := (Option.some.inj h2).symm
  subst hkv
  obtain ⟨A, cap', hkv, _, _⟩ := h.pks.slice
  have hnq : n = qs.length := by injection hkv
  subst hnq
  exact tail_rep h hn
set_option maxRecDepth 100000 in
set_option maxHeartbeats 4000000 in
theorem rsend_any {w : World} {p : Nat} {s : St} {F : Nat → Prop} (to : Int) (A : Option Addr) (c : Nat) (bs : List UInt8) (h : Rep 54 57 w p s F) (hg : s.good) (hr : Rd w A (bvals bs)) (hl : bs.length ≤ 1000) (hto : isB s.clocks.length to = true) :
    Calls Try.prog 24 #[.pointer (some ⟨p, 0, none⟩), .int .i64 to, .slice A bs.length c] w (Did 54 57 p (sendSt s to bs) F (.returned (.int .i64 0)) w) := by
  obtain ⟨cv, kv, qs, h⟩ := h
  have hql := h.len
  have hp1 := hg.p1
  have hq120 : qs.length ≤ 120 := by omega
  obtain ⟨A2, cap2, hcv, _, _⟩ := h.clk.slice
  have h1 : w.cell? ⟨p, 1, none⟩ = some cv := h.ptr.cell 1
  rw [hcv] at h1
  have hcv2 := Lib.hid hcv
  have H := Lib.hid h
  have HR := Lib.hid hr
  have h2 : w.cell? ⟨p, 2, none⟩ = some kv := h.ptr.cell 2
  have hb : 1 ≤ to ∧ to ≤ (s.clocks.length : Int) := by
    unfold isB at hto
    simpa using hto
  obtain ⟨t1, t2⟩ := hb
  have d0 : decide (to < 1) = false := by simp; omega
  have d1 : decide ((s.clocks.length : Int) < to) = false := by simp; omega
  have HQL := Lib.hid hql
  clear h hto hr hql hcv
  by_cases h120 : qs.length = 120
  · have hL : Hid (sendSt s to bs = ⟨s.time, s.clocks, (s.ps ++ [(to, bs)]).eraseIdx 0⟩) := by unfold Hid sendSt; rw [if_pos (by have := HQL.out; omega)]
    have hlen : ¬ (qs.length : Int) + 1 ≤ 120 := by omega
    have hlen1 : (1 : Int) ≤ (qs.length : Int) + 1 := by omega
    have HQ1 : Hid (0 < qs.length) := by unfold Hid; omega
    clear h120
    go_enter Try.func24, Try.ntmps24
    go_wp2_with (first
      | (at_builtin; obtain ⟨v4, w4, hrun4, own4, grow4, at4⟩ := g_app byteE 30 (GOwn.nil w 5 1) bs.length c HR.out (by rw [bvals_length, Nat.mul_one]) (bvals_one bs) (by omega) (by unfold maxLen; omega); obtain ⟨A4, c4, hv4, hc4, hm4⟩ := own4.slice; subst hv4; simp only [Nat.zero_add, List.nil_append] at own4 hc4; refine wpl_append rfl (.tmp 19) (.tmp 20) 30 30 rfl _ _ rfl rfl hrun4 ?_; clear hrun4; have HO4 := Lib.hid own4; have HB4 : Hid (Below w.heap.size w w4) := (Below.refl _ _).grown grow4 (Nat.le_refl _) (by simp [Value.ownBlock]); have hk4 : w4.cell? ⟨p, 2, none⟩ = some kv := (HB4.out.cell (p := ⟨p, 2, none⟩) (H.out.lt p H.out.fpp)).trans h2; have HA4 : Hid (∀ a, A4 = some a → w.heap.size ≤ a.block ∧ a.block < w4.heap.size) := (fun a ha => by subst ha; exact ⟨(at4 a.block rfl).resolve_left (by simp [Value.ownBlock]), HO4.out.lt rfl⟩); clear own4 grow4 at4)
      | (at_builtin; obtain ⟨v5, w5, hrun5, own5, grow5, at5⟩ := g_app (w := w4.alloc (.cells #[.int .i64 to, .slice A4 bs.length c4] 57)) rpkE 52 (H.out.pks.keep fun b hb => (Below.heap_alloc w4 _ b (Nat.lt_of_lt_of_le (H.out.lt b (H.out.fpk b hb)) HB4.out.size)).trans (HB4.out.block b (H.out.lt b (H.out.fpk b hb)))) (A := some ⟨w4.heap.size, 0, none⟩) (news := Pk.cells ⟨to, A4, bs, c4⟩) 1 1 (Rd.of_blk (Blk.new w4 57 (Pk.cells ⟨to, A4, bs, c4⟩)) 0) rfl (fun u hu => pcells_one [⟨to, A4, bs, c4⟩] u (by simpa [pcells] using hu)) (by omega) (by unfold maxLen; omega); obtain ⟨g5, off5, c5, hv5, hc5, hm5, _⟩ := own5.form (by omega); subst hv5; have hc51 : ¬ c5 = 1 := (fun e => by have := HQ1.out; omega); have hb5 : Blk w5 p 54 [.int .i64 s.time, cv, kv] := ((H.out.ptr.below HB4.out (H.out.lt p H.out.fpp)).alloc _).grown grow5 (Ne.symm H.out.ap2); have hc52 := hb5.cell 2; have hf52 := hb5.frozen 2; refine wpl_append rfl (.tmp 26) (.tmp 30) 52 52 rfl _ _ rfl rfl hrun5 ?_; clear hrun5))
    have hK5 : Kept (fun b => b = p ∨ kv.ownBlock = some b) w w5 := ((Kept.of_below _ HB4.out).alloc _).grown grow5 (fun b hb => .inl (.inr hb))
    have hfin := sent_rep (q := ⟨to, A4, bs, c4⟩) H.out hK5 hb5 own5 (fun g hg => by
        rcases at5 g hg with h1 | h1
        · exact .inl h1
        · simp at h1; have := HB4.out.size; exact .inr (by omega)) ⟨HO4.out.rd.at_blocks (w := w4) (by have := grow5.size; simp at this; omega) (fun a ha hlt => by
          refine (grow5.block a.block (by simp; omega) (fun e => ?_)).trans (Below.heap_alloc w4 _ _ hlt)
          have := H.out.lt _ (H.out.fpk _ e.symm)
          have := (HA4.out a ha).1
          omega), hc4, hm4⟩ (fun a ha => by
          have h1 := (HA4.out a ha).1
          have h2 := (HA4.out a ha).2
          refine ⟨by omega, by have := grow5.size; simp at this; omega, fun e => ?_⟩
          rcases at5 _ e with h3 | h3
          · have := H.out.lt _ (H.out.fpk _ h3); omega
          · simp at h3; omega)
    obtain ⟨F1, hr1, hkk1, hg1⟩ := hfin
    have HR6 := Lib.hid hr1
    have HK6 := Lib.hid hkk1
    have HG6 := Lib.hid hg1
    have hc62 := Lib.hid ((hb5.set_ 2 (.slice (some ⟨g5, off5, none⟩) (qs.length + 1) c5)).cell 2)
    clear hr1 hkk1 hg1 hK5 own5 grow5 at5 hc5
    have hend := tail_rep2 HR6.out hc62.out (by omega)
    rw [Nat.add_sub_cancel] at hend
    go_ret
    rw [hL.out]
    exact Did.mk_ rfl hend.1 (HK6.out.trans HG6.out hend.2) HG6.out
  · have hL : Hid (sendSt s to bs = ⟨s.time, s.clocks, s.ps ++ [(to, bs)]⟩) := by unfold Hid sendSt; rw [if_neg (by have := HQL.out; omega)]
    have hlen : (qs.length : Int) + 1 ≤ 120 := by omega
    clear h120
    go_enter Try.func24, Try.ntmps24
    go_wp2_with (first
      | (at_builtin; obtain ⟨v4, w4, hrun4, own4, grow4, at4⟩ := g_app byteE 30 (GOwn.nil w 5 1) bs.length c HR.out (by rw [bvals_length, Nat.mul_one]) (bvals_one bs) (by omega) (by unfold maxLen; omega); obtain ⟨A4, c4, hv4, hc4, hm4⟩ := own4.slice; subst hv4; simp only [Nat.zero_add, List.nil_append] at own4 hc4; refine wpl_append rfl (.tmp 19) (.tmp 20) 30 30 rfl _ _ rfl rfl hrun4 ?_; clear hrun4; have HO4 := Lib.hid own4; have HB4 : Hid (Below w.heap.size w w4) := (Below.refl _ _).grown grow4 (Nat.le_refl _) (by simp [Value.ownBlock]); have hk4 : w4.cell? ⟨p, 2, none⟩ = some kv := (HB4.out.cell (p := ⟨p, 2, none⟩) (H.out.lt p H.out.fpp)).trans h2; have HA4 : Hid (∀ a, A4 = some a → w.heap.size ≤ a.block ∧ a.block < w4.heap.size) := (fun a ha => by subst ha; exact ⟨(at4 a.block rfl).resolve_left (by simp [Value.ownBlock]), HO4.out.lt rfl⟩); clear own4 grow4 at4)
      | (at_builtin; obtain ⟨v5, w5, hrun5, own5, grow5, at5⟩ := g_app (w := w4.alloc (.cells #[.int .i64 to, .slice A4 bs.length c4] 57)) rpkE 52 (H.out.pks.keep fun b hb => (Below.heap_alloc w4 _ b (Nat.lt_of_lt_of_le (H.out.lt b (H.out.fpk b hb)) HB4.out.size)).trans (HB4.out.block b (H.out.lt b (H.out.fpk b hb)))) (A := some ⟨w4.heap.size, 0, none⟩) (news := Pk.cells ⟨to, A4, bs, c4⟩) 1 1 (Rd.of_blk (Blk.new w4 57 (Pk.cells ⟨to, A4, bs, c4⟩)) 0) rfl (fun u hu => pcells_one [⟨to, A4, bs, c4⟩] u (by simpa [pcells] using hu)) (by omega) (by unfold maxLen; omega); obtain ⟨g5, off5, c5, hv5, hc5, hm5, _⟩ := own5.form (by omega); subst hv5; have hb5 : Blk w5 p 54 [.int .i64 s.time, cv, kv] := ((H.out.ptr.below HB4.out (H.out.lt p H.out.fpp)).alloc _).grown grow5 (Ne.symm H.out.ap2); have hc52 := hb5.cell 2; have hf52 := hb5.frozen 2; refine wpl_append rfl (.tmp 26) (.tmp 30) 52 52 rfl _ _ rfl rfl hrun5 ?_; clear hrun5))
    have hK5 : Kept (fun b => b = p ∨ kv.ownBlock = some b) w w5 := ((Kept.of_below _ HB4.out).alloc _).grown grow5 (fun b hb => .inl (.inr hb))
    have hfin := sent_rep (q := ⟨to, A4, bs, c4⟩) H.out hK5 hb5 own5 (fun g hg => by
        rcases at5 g hg with h1 | h1
        · exact .inl h1
        · simp at h1; have := HB4.out.size; exact .inr (by omega)) ⟨HO4.out.rd.at_blocks (w := w4) (by have := grow5.size; simp at this; omega) (fun a ha hlt => by
          refine (grow5.block a.block (by simp; omega) (fun e => ?_)).trans (Below.heap_alloc w4 _ _ hlt)
          have := H.out.lt _ (H.out.fpk _ e.symm)
          have := (HA4.out a ha).1
          omega), hc4, hm4⟩ (fun a ha => by
          have h1 := (HA4.out a ha).1
          have h2 := (HA4.out a ha).2
          refine ⟨by omega, by have := grow5.size; simp at this; omega, fun e => ?_⟩
          rcases at5 _ e with h3 | h3
          · have := H.out.lt _ (H.out.fpk _ h3); omega
          · simp at h3; omega)
    obtain ⟨F1, hr1, hkk1, hg1⟩ := hfin
    have HR6 := Lib.hid hr1
    have HK6 := Lib.hid hkk1
    have HG6 := Lib.hid hg1
    have hc62 := Lib.hid ((hb5.set_ 2 (.slice (some ⟨g5, off5, none⟩) (qs.length + 1) c5)).cell 2)
    clear hr1 hkk1 hg1 hK5 own5 grow5 at5 hc5
    go_ret
    rw [hL.out]
    exact Did.mk_ rfl HR6.out HK6.out HG6.out
theorem rdrop_bad {w : World} {p : Nat} {s : St} {F : Nat → Prop} (d : Int) (h : Rep 54 57 w p s F) (hd : badPlace s.ps.length d = true) :
    Calls Try.prog 26 #[.pointer (some ⟨p, 0, none⟩), .int .i64 d] w fun e w' => e = .returned (.int .i64 13) ∧ w = w' := by
  obtain ⟨cv, kv, qs, h⟩ := h
  rw [← h.len] at hd
  obtain ⟨A, cap, hkv, _, _⟩ := h.pks.slice
  have h2 : w.cell? ⟨p, 2, none⟩ = some kv := h.ptr.cell 2
  rw [hkv] at h2
  clear h hkv
  unfold badPlace at hd
  by_cases h0 : d < 0
  · clear hd
    go_enter Try.func26, Try.ntmps26
    go_wp2
    go_ret
    exact ⟨rfl, rfl⟩
  · have h1 : (qs.length : Int) ≤ d := by simpa [h0] using hd
    have h0' : decide (d < 0) = false := by simpa using h0
    clear hd
    go_enter Try.func26, Try.ntmps26
    go_wp2
    go_ret
    exact ⟨rfl, rfl⟩
set_option maxRecDepth 100000 in
set_option maxHeartbeats 4000000 in
theorem rdrop_any {w : World} {p : Nat} {s : St} {F : Nat → Prop} (k : Nat) (h : Rep 54 57 w p s F) (hk : k < s.ps.length) (hl : s.ps.length ≤ 120) :
    Calls Try.prog 26 #[.pointer (some ⟨p, 0, none⟩), .int .i64 (k : Int)] w (Did2 54 57 p ⟨s.time, s.clocks, s.ps.eraseIdx k⟩ (fun b => b = p ∨ ∃ u, w.cell? ⟨p, 2, none⟩ = some u ∧ u.ownBlock = some b) F (.returned (.int .i64 0)) w) := by
  obtain ⟨cv, kv, qs, h⟩ := h
  have hql := h.len
  obtain ⟨gk, off, cap, hkv, hnc, hcm, hgl⟩ := h.pks.form (by omega)
  subst hkv
  have h2 : w.cell? ⟨p, 2, none⟩ = some (.slice (some ⟨gk, off, none⟩) qs.length cap) := h.ptr.cell 2
  have H := Lib.hid h
  have HR1 : Hid (Rd w (some ⟨gk, off, none⟩) ((pcells qs).take (k * 2))) := h.pks.rd.take _
  have HR2 : Hid (Rd w (if cap = k + 1 then some ⟨gk, off, none⟩ else (some (⟨gk, off, none⟩ : Addr)).map (fun x => x.add ((k + 1) * 2))) ((pcells qs).drop ((k + 1) * 2))) := Rd.from_ h.pks.rd h.pks.1 hnc
  have hN1 : Hid (((pcells qs).take (k * 2)).length = k * 2) := by unfold Hid; rw [List.length_take, pcells_length]; omega
  have hN : Hid (((pcells qs).drop ((k + 1) * 2)).length = (qs.length - (k + 1)) * 2) := by unfold Hid; rw [List.length_drop, pcells_length]; omega
  have hk1 : IntKind.i64.wrap ((k : Int) + 1) = (k : Int) + 1 := by rw [IntWalk.i64_in _ (by omega)]
  have hk' : k < qs.length := by omega
  have hl' : qs.length ≤ 120 := by omega
  have k0 : (0 : Int) ≤ (k : Int) := by omega
  have k1 : (k : Int) ≤ (cap : Int) := by omega
  have k2 : (k : Int) + 1 ≤ (qs.length : Int) := by omega
  have k3 : (0 : Int) ≤ (k : Int) + 1 := by omega
  have k4 : ((k : Int) + 1).toNat = k + 1 := by omega
  have d0 : decide ((k : Int) < 0) = false := by simp
  have d1 : decide ((qs.length : Int) ≤ (k : Int)) = false := by simp; omega
  have HQL := Lib.hid hql
  clear h hql hk hl
  by_cases hcap : cap = k + 1
  · subst hcap
    have k5 : (k : Int) ≤ (k : Int) + 1 := by omega
    have HE : Hid (qs.length - (k + 1) = 0) := by unfold Hid; omega
    clear HR2
    have HR2 : Hid (Rd w (some ⟨gk, off, none⟩) ((pcells qs).drop ((k + 1) * 2))) := .inl (List.drop_eq_nil_of_le (by rw [pcells_length]; omega))
    go_enter Try.func26, Try.ntmps26
    go_wp2_with (first
      | (at_builtin; obtain ⟨v4, w4, hrun4, own4, grow4, at4⟩ := g_app rpkE 52 (GOwn.nil w 57 2) k (k + 1) HR1.out hN1.out (fun u hu => pcells_one qs u (List.mem_of_mem_take hu)) (by omega) (by unfold maxLen; omega); simp only [Nat.zero_add, List.nil_append] at own4; refine wpl_append rfl (.tmp 17) (.tmp 23) 52 52 rfl _ _ rfl rfl hrun4 ?_; clear hrun4; have HO4 := Lib.hid own4; have HB4 : Hid (Below w.heap.size w w4) := (Below.refl _ _).grown grow4 (Nat.le_refl _) (by simp [Value.ownBlock]); have hk4 : w4.cell? ⟨p, 2, none⟩ = some (.slice (some ⟨gk, off, none⟩) qs.length (k + 1)) := (HB4.out.cell (p := ⟨p, 2, none⟩) (H.out.lt p H.out.fpp)).trans h2; have HA4 : Hid (∀ g, v4.ownBlock = some g → w.heap.size ≤ g) := (fun g hg => (at4 g hg).resolve_left (by simp [Value.ownBlock])); clear own4 grow4 at4)
      | (at_builtin; obtain ⟨v5, w5, hrun5, own5, grow5, at5⟩ := g_app rpkE 52 HO4.out 0 0 (HR2.out.below HB4.out) (by rw [hN.out, HE.out]) (fun u hu => pcells_one qs u (List.mem_of_mem_drop hu)) (by omega) (by unfold maxLen; omega); obtain ⟨A5, c5, hv5, hc5, hm5⟩ := own5.slice; subst hv5; have hb5 : Blk w5 p 54 [.int .i64 s.time, cv, .slice (some ⟨gk, off, none⟩) qs.length (k + 1)] := (H.out.ptr.below HB4.out (H.out.lt p H.out.fpp)).grown grow5 (fun e => by have := HA4.out p e.symm; have := H.out.lt p H.out.fpp; omega); have hc52 := hb5.cell 2; have hf52 := hb5.frozen 2; refine wpl_append rfl (.tmp 25) (.tmp 32) 52 52 rfl _ _ rfl rfl hrun5 ?_; clear hrun5))
    have hgr : w.grownBy w5 (some gk) := ⟨grow5.os.trans HB4.out.os, grow5.tape.trans HB4.out.tape, grow5.output.trans HB4.out.output, Nat.le_trans HB4.out.size grow5.size, fun b hb _ => (grow5.block b (Nat.lt_of_lt_of_le hb HB4.out.size) (fun e => by have := HA4.out b e.symm; omega)).trans (HB4.out.block b hb)⟩
    have hfin := lost_rep H.out hk' hgr (by rw [HE.out]; exact own5) (fun g hg => by
      rcases at5 g hg with h1 | h1
      · exact .inr (HA4.out g h1)
      · exact .inr (Nat.le_trans HB4.out.size h1))
    obtain ⟨F', f1, f2, f3⟩ := hfin
    go_ret
    exact ⟨rfl, F', f1, f2.mono fun b hb => hb.imp id fun e => ⟨_, H.out.ptr.cell 2, e⟩, f3⟩
  · have hsl : (if cap = k + 1 then some (⟨gk, off, none⟩ : Addr) else (some (⟨gk, off, none⟩ : Addr)).map (fun x => x.add ((k + 1) * 2))) = some ⟨gk, off + (k + 1) * 2, none⟩ := by
      rw [if_neg hcap]
      simp [Addr.add_lit]
    rw [hsl] at HR2
    clear hsl
    go_enter Try.func26, Try.ntmps26
    go_wp2_with (first
      | (at_builtin; obtain ⟨v4, w4, hrun4, own4, grow4, at4⟩ := g_app rpkE 52 (GOwn.nil w 57 2) k cap HR1.out hN1.out (fun u hu => pcells_one qs u (List.mem_of_mem_take hu)) (by omega) (by unfold maxLen; omega); simp only [Nat.zero_add, List.nil_append] at own4; refine wpl_append rfl (.tmp 17) (.tmp 23) 52 52 rfl _ _ rfl rfl hrun4 ?_; clear hrun4; have HO4 := Lib.hid own4; have HB4 : Hid (Below w.heap.size w w4) := (Below.refl _ _).grown grow4 (Nat.le_refl _) (by simp [Value.ownBlock]); have hk4 : w4.cell? ⟨p, 2, none⟩ = some (.slice (some ⟨gk, off, none⟩) qs.length cap) := (HB4.out.cell (p := ⟨p, 2, none⟩) (H.out.lt p H.out.fpp)).trans h2; have HA4 : Hid (∀ g, v4.ownBlock = some g → w.heap.size ≤ g) := (fun g hg => (at4 g hg).resolve_left (by simp [Value.ownBlock])); clear own4 grow4 at4)
      | (at_builtin; obtain ⟨v5, w5, hrun5, own5, grow5, at5⟩ := g_app rpkE 52 HO4.out (qs.length - (k + 1)) (cap - (k + 1)) (HR2.out.below HB4.out) hN.out (fun u hu => pcells_one qs u (List.mem_of_mem_drop hu)) (by omega) (by unfold maxLen; omega); obtain ⟨A5, c5, hv5, hc5, hm5⟩ := own5.slice; subst hv5; have hb5 : Blk w5 p 54 [.int .i64 s.time, cv, .slice (some ⟨gk, off, none⟩) qs.length cap] := (H.out.ptr.below HB4.out (H.out.lt p H.out.fpp)).grown grow5 (fun e => by have := HA4.out p e.symm; have := H.out.lt p H.out.fpp; omega); have hc52 := hb5.cell 2; have hf52 := hb5.frozen 2; refine wpl_append rfl (.tmp 25) (.tmp 32) 52 52 rfl _ _ rfl rfl hrun5 ?_; clear hrun5))
    have hgr : w.grownBy w5 (some gk) := ⟨grow5.os.trans HB4.out.os, grow5.tape.trans HB4.out.tape, grow5.output.trans HB4.out.output, Nat.le_trans HB4.out.size grow5.size, fun b hb _ => (grow5.block b (Nat.lt_of_lt_of_le hb HB4.out.size) (fun e => by have := HA4.out b e.symm; omega)).trans (HB4.out.block b hb)⟩
    have hfin := lost_rep H.out hk' hgr own5 (fun g hg => by
      rcases at5 g hg with h1 | h1
      · exact .inr (HA4.out g h1)
      · exact .inr (Nat.le_trans HB4.out.size h1))
    obtain ⟨F', f1, f2, f3⟩ := hfin
    go_ret
    exact ⟨rfl, F', f1, f2.mono fun b hb => hb.imp id fun e => ⟨_, H.out.ptr.cell 2, e⟩, f3⟩
end Go.Proofs.Ytpljopocnlllcaa

/- Contract of Send. -/
import Derived.Test.YtpljopocnlllcaaR6
namespace Go.Proofs.Ytpljopocnlllcaa
open Go.RowKit
attribute [local go_sem ↓] Go.wp_at_zero Go.wp_at_succ
/-- One packet more, once the cells of all lie. -/
theorem sent_rep {tw te : TypeId} {w w5 : World} {p : Nat} {s : St} {F : Nat → Prop} {cv kv v5 : Value} {qs : List Pk} {q : Pk} (h : RepW tw te w p s F cv kv qs)
    (hK5 : Kept (fun b => b = p ∨ kv.ownBlock = some b) w w5) (hp5 : Blk w5 p tw [.int .i64 s.time, cv, kv]) (own5 : GOwn w5 te 2 v5 (qs.length + 1) (pcells qs ++ q.cells)) (at5 : ∀ g, v5.ownBlock = some g → kv.ownBlock = some g ∨ w.heap.size ≤ g)
    (hq : q.ok w5) (hqa : ∀ a, q.a = some a → w.heap.size ≤ a.block ∧ a.block < w5.heap.size ∧ v5.ownBlock ≠ some a.block) :
    ∃ F', Rep tw te (w5.setCell ⟨p, 2, none⟩ v5) p ⟨s.time, s.clocks, s.ps ++ [q.pair]⟩ F' ∧ Kept F w (w5.setCell ⟨p, 2, none⟩ v5) ∧ Grew F F' w := by
  have hpl := h.lt p h.fpp
  have hK : Kept (fun b => b = p ∨ kv.ownBlock = some b) w (w5.setCell ⟨p, 2, none⟩ v5) := hK5.set (p := ⟨p, 2, none⟩) (.inl (.inl rfl)) _
  have hv5 : v5.ownBlock ≠ some p := fun e => by
    rcases at5 p e with h1 | h1
    · exact h.ap2 h1
    · omega
  have e1 : pcells qs ++ q.cells = pcells (qs ++ [q]) := by rw [pcells_append]; simp [pcells]
  have hg : GOwn (w5.setCell ⟨p, 2, none⟩ v5) te 2 v5 (qs ++ [q]).length (pcells (qs ++ [q])) := by
    rw [← e1, List.length_append]
    exact own5.keep fun b hb => Below.heap_setCell w5 _ _ b (fun e => by simp only at e; subst e; exact hv5 hb)
  refine ⟨fun b => F b ∨ v5.ownBlock = some b ∨ ∃ a, q.a = some a ∧ a.block = b, ⟨cv, v5, qs ++ [q], ?_⟩, hK.mono (fun b hb => ?_), fun b hb => ?_⟩
  · have ht := h.turn (F' := fun b => F b ∨ v5.ownBlock = some b ∨ ∃ a, q.a = some a ∧ a.block = b) hK (hp5.set_ 2 v5) hg at5 (fun x hx => by
        rcases List.mem_append.1 hx with hx | hx
        · exact h.old hK at5 hx
        · obtain rfl := List.mem_singleton.1 hx
          refine ⟨⟨hq.rd.at_blocks (by simp) fun a ha hlt => Below.heap_setCell w5 _ _ _ (fun e => ?_), hq.len, hq.cap⟩, fun a ha => ?_⟩
          · have := (hqa a ha).1
            simp only at e
            omega
          · obtain ⟨h1, h2, h3⟩ := hqa a ha
            exact ⟨by omega, fun e => by have := h.lt _ (h.fpc _ e); omega, h3⟩)
      (fun b hb => .inl hb) (fun b hb => .inr (.inl hb)) (fun x hx a ha => by
        rcases List.mem_append.1 hx with hx | hx
        · exact .inl (h.fpd x hx a ha)
        · obtain rfl := List.mem_singleton.1 hx
          exact .inr (.inr ⟨a, ha, rfl⟩)) (fun b hb => by
        rcases hb with hb | hb | ⟨a, ha, rfl⟩
        · exact Nat.lt_of_lt_of_le (h.lt b hb) hK.size
        · exact hg.lt hb
        · have := (hqa a ha).2.1; simpa using this)
    rw [List.map_append, h.eq] at ht
    exact ht
  · rcases hb with rfl | hb
    · exact h.fpp
    · exact h.fpk b hb
  · rcases hb with hb | hb | ⟨a, ha, rfl⟩
    · exact .inl hb
    · rcases at5 b hb with h1 | h1
      · exact .inl (h.fpk b h1)
      · exact .inr h1
    · exact .inr (hqa a ha).1
def sendSt (s : St) (to : Int) (bs : List UInt8) : St := ⟨s.time, s.clocks, if 120 < s.ps.length + 1 then (s.ps ++ [(to, bs)]).eraseIdx 0 else s.ps ++ [(to, bs)]⟩
set_option maxRecDepth 100000 in
set_option maxHeartbeats 4000000 in
theorem send_any {w : World} {p : Nat} {s : St} {F : Nat → Prop} (to : Int) (A : Option Addr) (c : Nat) (bs : List UInt8) (h : Rep 51 64 w p s F) (hg : s.good) (hr : Rd w A (bvals bs)) (hl : bs.length ≤ 1000) (hto : isB s.clocks.length to = true) :
    Calls Try.prog 17 #[.pointer (some ⟨p, 0, none⟩), .int .i64 to, .slice A bs.length c] w (Did 51 64 p (sendSt s to bs) F (.returned (.int .i64 0)) w) := by
  have HIS := Lib.hid (is_any to h)
  rw [hto] at HIS
  obtain ⟨cv, kv, qs, h⟩ := h
  have hql := h.len
  have hp1 := hg.p1
  have hq120 : qs.length ≤ 120 := by omega
  have H := Lib.hid h
  have h2 : w.cell? ⟨p, 2, none⟩ = some kv := h.ptr.cell 2
  have hcl := clone_any A c bs w.drew hr (by omega)
  have HCL := Lib.hid hcl
  have HQL := Lib.hid hql
  clear h hto hr hql hcl
  go_enter Try.func17, Try.ntmps17
  go_wp2_with fail
  refine HIS.out.mono ?_
  rintro e w' ⟨rfl, rfl⟩
  go_wp2_with fail
  go_region_law (first
    | (go_simp; go_at_call 33; refine HCL.out.mono ?_; rintro e w1 ⟨A1, c1, rfl, r1, l1, m1, g1, b1⟩; have hk1 : w1.cell? ⟨p, 2, none⟩ = some kv := (b1.cell (p := ⟨p, 2, none⟩) (H.out.lt p H.out.fpp)).trans h2; have hk2 : ∀ o, (w1.alloc o).cell? ⟨p, 2, none⟩ = some kv := fun o => (World.cell?_alloc_lt w1 o _ (Nat.lt_of_lt_of_le (H.out.lt p H.out.fpp) b1.size)).trans hk1; have HR1 := Lib.hid r1; have HB1 : Hid (Below w.heap.size w w1) := ⟨b1.os, b1.tape, b1.output, b1.size, b1.block⟩; have HG1 : Hid (∀ a, A1 = some a → w.heap.size ≤ a.block ∧ a.block < w1.heap.size) := g1; clear r1 b1 g1)
    | go_must (obtain ⟨v5, w5, hrun5, own5, grow5, at5⟩ := g_app (w := w1.alloc (.cells #[.int .i64 to, .slice A1 bs.length c1] 64)) pkE 49 (H.out.pks.keep fun b hb => (Below.heap_alloc w1 _ b (Nat.lt_of_lt_of_le (H.out.lt b (H.out.fpk b hb)) HB1.out.size)).trans (HB1.out.block b (H.out.lt b (H.out.fpk b hb)))) (A := some ⟨w1.heap.size, 0, none⟩) (news := Pk.cells ⟨to, A1, bs, c1⟩) 1 1 (Rd.of_blk (Blk.new w1 64 (Pk.cells ⟨to, A1, bs, c1⟩)) 0) rfl (fun u hu => pcells_one [⟨to, A1, bs, c1⟩] u (by simpa [pcells] using hu)) (by omega) (by unfold maxLen; omega); obtain ⟨A5, c5, hv5, hc5, hm5⟩ := own5.slice; subst hv5; have hb5 : Blk w5 p 51 [.int .i64 s.time, cv, kv] := ((H.out.ptr.below HB1.out (H.out.lt p H.out.fpp)).alloc _).grown grow5 (Ne.symm H.out.ap2); have hc52 := hb5.cell 2; have hf52 := hb5.frozen 2; refine step_append (by rfl) (.tmp 15) (.tmp 20) 49 49 (by rfl) _ _ (by rfl) (by rfl) hrun5 ?_; clear hrun5))
  all_goals
    have hK5 : Kept (fun b => b = p ∨ kv.ownBlock = some b) w w5 := ((Kept.of_below _ HB1.out).alloc _).grown grow5 (fun b hb => .inl (.inr hb))
    have hfin := sent_rep (q := ⟨to, A1, bs, c1⟩) H.out hK5 hb5 own5 (fun g hg => by
        rcases at5 g hg with h1 | h1
        · exact .inl h1
        · simp at h1; have := HB1.out.size; exact .inr (by omega)) ⟨HR1.out.at_blocks (w := w1) (by have := grow5.size; simp at this; omega) (fun a ha hlt => by
          refine (grow5.block a.block (by simp; omega) (fun e => ?_)).trans (Below.heap_alloc w1 _ _ hlt)
          have := H.out.lt _ (H.out.fpk _ e.symm)
          have := (HG1.out a ha).1
          omega), l1, m1⟩ (fun a ha => by
          have h1 := (HG1.out a ha).1
          have h2 := (HG1.out a ha).2
          refine ⟨by omega, by have := grow5.size; simp at this; omega, fun e => ?_⟩
          rcases at5 _ e with h3 | h3
          · have := H.out.lt _ (H.out.fpk _ h3); omega
          · simp at h3; omega)
    obtain ⟨F1, hr1, hkk1, hg1⟩ := hfin
    have HR6 := Lib.hid hr1
    have HK6 := Lib.hid hkk1
    have HG6 := Lib.hid hg1
    clear hr1 hkk1 hg1 hK5 own5 grow5 at5 HR1 HB1 HG1 hc5
    by_cases h120 : qs.length = 120
    · have hL : Hid (sendSt s to bs = ⟨s.time, s.clocks, (s.ps ++ [(to, bs)]).eraseIdx 0⟩) := by unfold Hid sendSt; rw [if_pos (by have := HQL.out; omega)]
      have hlen : ¬ (qs.length : Int) + 1 ≤ 120 := by omega
      have HPL : Hid ((s.ps ++ [(to, bs)]).length ≤ 121) := by have := HQL.out; unfold Hid; rw [List.length_append]; simp; omega
      clear h120
      go_wp2_with fail
      refine (lose_any 0 HR6.out (by show 0 < (s.ps ++ [(to, bs)]).length; simp) HPL.out).mono ?_
      rintro e w9 ⟨rfl, F2, hr2, hk2', hg2⟩
      have HFIN : Hid (Did 51 64 p (sendSt s to bs) F (.returned (.int .i64 0)) w (.returned (.int .i64 0)) w9) := by
        rw [hL.out]
        exact Did.mk_ rfl hr2 (HK6.out.trans HG6.out hk2') (HG6.out.trans hg2 HK6.out.size)
      clear hr2 hk2' hg2
      go_wp2_with fail
      go_ret
      exact HFIN.out
    · have hL : Hid (sendSt s to bs = ⟨s.time, s.clocks, s.ps ++ [(to, bs)]⟩) := by unfold Hid sendSt; rw [if_neg (by have := HQL.out; omega)]
      have hlen : (qs.length : Int) + 1 ≤ 120 := by omega
      clear h120
      go_wp2
      go_ret
      rw [hL.out]
      exact Did.mk_ rfl HR6.out HK6.out HG6.out
theorem send_bad {w : World} {p : Nat} {s : St} {F : Nat → Prop} (to : Int) (v : Value) (h : Rep 51 64 w p s F) (hto : isB s.clocks.length to = false) :
    Calls Try.prog 17 #[.pointer (some ⟨p, 0, none⟩), .int .i64 to, v] w fun e w' => e = .returned (.int .i64 1) ∧ w = w' := by
  have HIS := Lib.hid (is_any to h)
  rw [hto] at HIS
  clear h hto
  go_enter Try.func17, Try.ntmps17
  go_wp2_with fail
  refine HIS.out.mono ?_
  rintro e w' ⟨rfl, rfl⟩
  go_wp2
  go_ret
  exact ⟨rfl, rfl⟩
end Go.Proofs.Ytpljopocnlllcaa

/- What was synced: the plain law, and the two rows of slices beside the tape. -/
import Derived.Test.YtpcmfbdlfjlobaaP3
namespace Go.Proofs.Ytpcmfbdlfjlobaa
open Go.RowKit
set_option linter.unusedVariables false
attribute [local go_sem ↓] Go.wp_at_zero Go.wp_at_succ
def bytesOf (o : Bool) (us : List Un) : List UInt8 := us.filterMap fun u => if u.one = o then some u.byt else none
theorem run_adds (us : List Un) (h : ∀ u ∈ us, u.cut = none) (s : Sd) (o : Bool) : (runS s us).get o = s.get o ++ bytesOf o us := by
  induction us generalizing s with
  | nil => simp [runS, bytesOf]
  | cons u us ih =>
    have hu := h u (by simp)
    obtain ⟨uo, uc, ub⟩ := u
    simp only at hu
    subst hu
    show (runS (stepS s ⟨uo, none, ub⟩) us).get o = _
    rw [ih (fun v hv => h v (by simp [hv]))]
    by_cases huo : uo = o
    · subst huo
      simp [stepS, get_put, stepB, bytesOf]
    · have : (stepS s ⟨uo, none, ub⟩).get o = s.get o := by cases o <;> cases uo <;> first | rfl | exact absurd rfl huo
      rw [this]
      simp [bytesOf, huo]
theorem run_prefix (s : Sd) (us : List Un) (h : ∀ u ∈ us, u.cut = none) (K : Nat) (o : Bool) :
    (s.get o).length ≤ ((runS s (us.take K)).get o).length ∧ ((runS s (us.take K)).get o).length ≤ ((runS s us).get o).length ∧ ((runS s us).get o).take ((runS s (us.take K)).get o).length = (runS s (us.take K)).get o := by
  have h1 := run_adds (us.take K) (fun u hu => h u (List.mem_of_mem_take hu)) s o
  have h2 : (runS s us).get o = (runS s (us.take K)).get o ++ bytesOf o (us.drop K) := by
    have := run_adds (us.drop K) (fun u hu => h u (List.mem_of_mem_drop hu)) (runS s (us.take K)) o
    rw [← runS_append, List.take_append_drop] at this
    exact this
  refine ⟨by rw [h1, List.length_append]; omega, by rw [h2, List.length_append]; omega, ?_⟩
  rw [h2, List.take_append_of_le_length (Nat.le_refl _), List.take_of_length_le (Nat.le_refl _)]
theorem opW_no {s : TSt} {side : Int} {bs : List UInt8} (h : (opW s side bs).1 ≠ 0) : (opW s side bs).2 = s := by
  unfold opW at h ⊢
  split
  · rfl
  · rename_i hr
    rw [if_neg hr] at h
    split
    · rfl
    · rename_i hm
      rw [if_neg hm] at h
      exact absurd rfl h
theorem opW_yes {s : TSt} {side : Int} {bs : List UInt8} (h : (opW s side bs).1 = 0) : (opW s side bs).2 = s.did (wUs (sideOf side) bs) := by
  unfold opW at h ⊢
  split
  · rename_i hr
    rw [if_pos hr] at h
    exact absurd h hr
  · rename_i hr
    rw [if_neg hr] at h
    split
    · rename_i hm
      rw [if_pos hm] at h
      cases h
    · rfl
theorem rdy_idle (sd : Sd) (us : List Un) (L : Int) (o : Bool) : rdyN ⟨sd, us, false, L⟩ (sdI o) = 0 := by cases o <;> simp [rdyN, sdI]
theorem rdy_both {s : TSt} (o : Bool) : rdyN s (sdI o) = rdyN s 0 := by cases o <;> simp [rdyN, sdI]
theorem rdy_40 {s : TSt} (h : rdyN s 0 ≠ 0) : rdyN s 0 = 40 := by
  unfold rdyN at h ⊢
  rw [if_neg (by omega)] at h ⊢
  split
  · rfl
  · rename_i h2
    rw [if_neg h2] at h
    exact absurd rfl h
/-- The state behind the Sync (or the crash in its place). -/
def synced' (s : TSt) (n : Int) : TSt := if rdyN s 0 = 0 then s.synced else opC s n
theorem synced'_good {s : TSt} (h : s.good) (n : Int) : (synced' s n).good ∧ (synced' s n).us = [] ∧ (synced' s n).now = (synced' s n).safe := by
  unfold synced'
  split
  · rename_i hr
    exact ⟨h.synced hr, rfl, rfl⟩
  · exact ⟨(opC_good h n).1, rfl, rfl⟩
structure Sep (w wr : World) (F : Nat → Prop) (Qw Qa : Nat) (v0 v1 : Value) : Prop where
  lo : ∀ k, F k → w.heap.size ≤ k
  fw : ¬ F Qw
  fa : ¬ F Qa
  fv : ∀ b, blk v0 v1 b → ¬ F b ∧ b ≠ Qw ∧ b ≠ Qa ∧ w.heap.size ≤ b
  ne : Qw ≠ Qa
  lw : w.heap.size ≤ Qw
  la : w.heap.size ≤ Qa
/-- The tape, and beside it the lengths that were, and all that was written. -/
def SyW (w wr : World) (p : Nat) (s : TSt) (Qw Qa : Nat) (lw al : Sd) : Prop := ∃ (F : Nat → Prop) (X0 : Option Addr) (c0 : Nat) (X1 : Option Addr) (c1 : Nat) (v0 v1 : Value),
  Tp wr p s F ∧ Below w.heap.size w wr ∧ Blk wr Qw 44 [.slice X0 lw.a.length c0, .slice X1 lw.b.length c1] ∧ Blk wr Qa 44 [v0, v1] ∧ Pr wr v0 v1 al ∧ Sep w wr F Qw Qa v0 v1
section
variable {w wr w' : World} {p : Nat} {s s' : TSt} {Qw Qa : Nat} {lw al : Sd}
theorem SyW.bel (h : SyW w wr p s Qw Qa lw al) : Below w.heap.size w wr := by
  obtain ⟨F, X0, c0, X1, c1, v0, v1, h1, h2, h3⟩ := h
  exact h2
theorem SyW.tape {r : Ending} {f : Nat} {args : Array Value} (h : SyW w wr p s Qw Qa lw al) (hc : ∀ F, Tp wr p s F → Calls Try.prog f args wr (Did (fun w' => Tp w' p s') F r wr)) :
    Calls Try.prog f args wr fun e w' => e = r ∧ SyW w w' p s' Qw Qa lw al := by
  obtain ⟨F, X0, c0, X1, c1, v0, v1, h1, h2, h3, h4, h5, h6⟩ := h
  refine (hc F h1).mono ?_
  rintro e w' ⟨he, F', ht', hk, hg⟩
  have hge : ∀ b, b < wr.heap.size → ¬ F b → ¬ F' b := fun b hb hn hF => by
    rcases hg b hF with e | e
    · exact hn e
    · omega
  exact ⟨he, F', X0, c0, X1, c1, v0, v1, ht', h2.trans (hk.below h6.lo h2.size), (hk.block h3.lt h6.fw).trans h3, (hk.block h4.lt h6.fa).trans h4, h5.kept hk fun b hb => (h6.fv b hb).1,
    ⟨lo_grew h6.lo hg h2.size, hge _ h3.lt h6.fw, hge _ h4.lt h6.fa, fun b hb => ⟨hge b (h5.lt b hb) (h6.fv b hb).1, (h6.fv b hb).2⟩, h6.ne, h6.lw, h6.la⟩⟩
theorem SyW.below (h : SyW w wr p s Qw Qa lw al) (hb : Below wr.heap.size wr w') : SyW w w' p s Qw Qa lw al := by
  obtain ⟨F, X0, c0, X1, c1, v0, v1, h1, h2, h3, h4, h5, h6⟩ := h
  exact ⟨F, X0, c0, X1, c1, v0, v1, h1.below hb, h2.trans (hb.mono h2.size), h3.below hb h3.lt, h4.below hb h4.lt, h5.below hb, ⟨h6.lo, h6.fw, h6.fa, h6.fv, h6.ne, h6.lw, h6.la⟩⟩
/-- A row's slot of lengths is written. -/
theorem SyW.setW (h : SyW w wr p s Qw Qa lw al) (o : Bool) (X : Option Addr) (l : List UInt8) (c : Nat) : SyW w (wr.setCell ⟨Qw, (if o then 1 else 0), none⟩ (.slice X l.length c)) p s Qw Qa (lw.put o l) al := by
  obtain ⟨F, X0, c0, X1, c1, v0, v1, h1, h2, h3, h4, h5, h6⟩ := h
  have hk : Kept (fun b => b = Qw) wr (wr.setCell ⟨Qw, (if o then 1 else 0), none⟩ (.slice X l.length c)) := (Kept.refl (fun b => b = Qw) wr).set (p := ⟨Qw, (if o then 1 else 0), none⟩) (.inl rfl) _
  have hb := h3.set_ (if o then 1 else 0) (.slice X l.length c)
  have hT := h1.kept hk fun b hb e => h6.fw (e ▸ hb)
  have hA := (hk.block h4.lt (fun e => h6.ne e.symm)).trans h4
  have hP := h5.kept hk fun b hb e => (h6.fv b hb).2.1 e
  have hB := h2.setCell (p := ⟨Qw, (if o then 1 else 0), none⟩) h6.lw (.slice X l.length c)
  have hS : Sep w (wr.setCell ⟨Qw, (if o then 1 else 0), none⟩ (.slice X l.length c)) F Qw Qa v0 v1 := ⟨h6.lo, h6.fw, h6.fa, h6.fv, h6.ne, h6.lw, h6.la⟩
  cases o
  · exact ⟨F, X, c, X1, c1, v0, v1, hT, hB, hb, hA, hP, hS⟩
  · exact ⟨F, X0, c0, X, c, v0, v1, hT, hB, hb, hA, hP, hS⟩
/-- A row's slot of all is written: bytes behind the others. -/
theorem SyW.setA {w5 : World} {F : Nat → Prop} {X0 : Option Addr} {c0 : Nat} {X1 : Option Addr} {c1 : Nat} {v0 v1 : Value} (o : Bool) (l : List UInt8) {v5 : Value} (h1 : Tp wr p s F) (h2 : Below w.heap.size w wr) (h3 : Blk wr Qw 44 [.slice X0 lw.a.length c0, .slice X1 lw.b.length c1]) (h4 : Blk wr Qa 44 [v0, v1]) (h5 : Pr wr v0 v1 al) (h6 : Sep w wr F Qw Qa v0 v1)
    (grow5 : wr.grownBy w5 (pv v0 v1 o).ownBlock) (own5 : GOwn w5 5 1 v5 l.length (bvals l)) (at5 : ∀ b, v5.ownBlock = some b → (pv v0 v1 o).ownBlock = some b ∨ wr.heap.size ≤ b) :
    SyW w (w5.setCell ⟨Qa, (if o then 1 else 0), none⟩ v5) p s Qw Qa lw (al.put o l) := by
  have hpv : ∀ b, (pv v0 v1 o).ownBlock = some b → blk v0 v1 b := fun b hb => by
    cases o
    · exact .inl hb
    · exact .inr hb
  have hk5 : Kept (fun b => b = Qa ∨ (pv v0 v1 o).ownBlock = some b) wr w5 := (Kept.refl _ wr).grown grow5 (fun b hb => .inl (.inr hb))
  have hk6 := hk5.set (p := ⟨Qa, (if o then 1 else 0), none⟩) (.inl (.inl rfl)) v5
  have at6 : ∀ b, v5.ownBlock = some b → ¬ F b ∧ b ≠ Qw ∧ b ≠ Qa ∧ w.heap.size ≤ b := fun b hb => by
    rcases at5 b hb with e | e
    · exact h6.fv b (hpv b e)
    · have hz := h2.size
      exact ⟨fun hF => by have := h1.lt b hF; omega, fun e' => by have := h3.lt; omega, fun e' => by have := h4.lt; omega, by omega⟩
  have hb5 : Blk w5 Qa 44 [v0, v1] := h4.grown grow5 (fun e => (h6.fv Qa (hpv Qa e.symm)).2.2.1 rfl)
  have own6 : GOwn (w5.setCell ⟨Qa, (if o then 1 else 0), none⟩ v5) 5 1 v5 l.length (bvals l) := own5.keep fun b hb => Below.heap_setCell _ _ _ b (by simpa using (at6 b hb).2.2.1)
  have hT := h1.kept hk6 fun b hb e => e.elim (fun e => h6.fa (e ▸ hb)) (fun e => (h6.fv b (hpv b e)).1 hb)
  have hW : Blk (w5.setCell ⟨Qa, (if o then 1 else 0), none⟩ v5) Qw 44 _ := (hk6.block h3.lt (fun e => e.elim h6.ne (fun e => (h6.fv Qw (hpv Qw e)).2.1 rfl))).trans h3
  have hB : Below w.heap.size w (w5.setCell ⟨Qa, (if o then 1 else 0), none⟩ v5) := h2.trans (hk6.below (B := w.heap.size) (fun b hb => hb.elim (fun e => e ▸ h6.la) (fun e => (h6.fv b (hpv b e)).2.2.2)) h2.size)
  have hA := hb5.set_ (if o then 1 else 0) v5
  have hoth : ∀ b, (pv v0 v1 (!o)).ownBlock = some b → (w5.setCell ⟨Qa, (if o then 1 else 0), none⟩ v5).heap[b]? = wr.heap[b]? := fun b hb => by
    have hbb : blk v0 v1 b := by
      cases o
      · exact .inr hb
      · exact .inl hb
    refine hk6.block (h5.lt b hbb) (fun e => e.elim (fun e => (h6.fv b hbb).2.2.1 e) (fun e => ?_))
    cases o
    · exact h5.ap b e hb
    · exact h5.ap b hb e
  cases o
  · refine ⟨F, X0, c0, X1, c1, v5, v1, hT, hB, hW, hA, ⟨own6, h5.o1.keep fun b hb => hoth b hb, fun b h0 h1' => ?_⟩, ⟨h6.lo, h6.fw, h6.fa, fun b hb => hb.elim (at6 b) (fun e => h6.fv b (.inr e)), h6.ne, h6.lw, h6.la⟩⟩
    rcases at5 b h0 with e | e
    · exact h5.ap b e h1'
    · have := h5.lt b (.inr h1'); omega
  · refine ⟨F, X0, c0, X1, c1, v0, v5, hT, hB, hW, hA, ⟨h5.o0.keep fun b hb => hoth b hb, own6, fun b h0 h1' => ?_⟩, ⟨h6.lo, h6.fw, h6.fa, fun b hb => hb.elim (fun e => h6.fv b (.inl e)) (at6 b), h6.ne, h6.lw, h6.la⟩⟩
    rcases at5 b h1' with e | e
    · exact h5.ap b h0 e
    · have := h5.lt b (.inl h0); omega
end
end Go.Proofs.Ytpcmfbdlfjlobaa

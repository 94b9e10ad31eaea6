/- Contracts of Drop, and of the reference's Send, Look and Drop. -/
import Derived.Test.YtpljopocnlllcaaR8
namespace Go.Proofs.Ytpljopocnlllcaa
open Go.RowKit
attribute [local go_sem ↓] Go.wp_at_zero Go.wp_at_succ
theorem drop_bad {w : World} {p : Nat} {s : St} {F : Nat → Prop} (d : Int) (h : Rep 51 64 w p s F) (hd : badPlace s.ps.length d = true) :
    Calls Try.prog 19 #[.pointer (some ⟨p, 0, none⟩), .int .i64 d] w fun e w' => e = .returned (.int .i64 13) ∧ w = w' := by
  have HT := Lib.hid (take_bad d (.bool false) h hd)
  clear h hd
  go_enter Try.func19, Try.ntmps19
  go_wp2_with fail
  refine HT.out.mono ?_
  rintro e w' ⟨rfl, rfl⟩
  go_wp2
  go_ret
  exact ⟨rfl, rfl⟩
theorem drop_any {w : World} {p : Nat} {s : St} {F : Nat → Prop} (k : Nat) (to : Int) (bs : List UInt8) (h : Rep 51 64 w p s F) (hg : s.good) (hk : s.ps[k]? = some (to, bs)) (hb : bs.length ≤ 1000) :
    Calls Try.prog 19 #[.pointer (some ⟨p, 0, none⟩), .int .i64 (k : Int)] w (Did 51 64 p ⟨s.time, s.clocks, s.ps.eraseIdx k⟩ F (.returned (.int .i64 0)) w) := by
  have HT := Lib.hid (take_any k false to bs h hg hk hb)
  clear h hg hk hb
  go_enter Try.func19, Try.ntmps19
  go_wp2_with fail
  refine HT.out.mono ?_
  rintro e w' ⟨A, c, F', rfl, _, _, _, _, h1, h2, h3⟩
  have HF : Hid (Did 51 64 p ⟨s.time, s.clocks, s.ps.eraseIdx k⟩ F (.returned (.int .i64 0)) w (.returned (.int .i64 0)) w') := Did.mk_ rfl h1 h2 h3
  clear h1 h2 h3
  go_wp2
  go_ret
  exact HF.out
theorem rlook_bad {w : World} {p : Nat} {s : St} {F : Nat → Prop} (d : Int) (h : Rep 54 57 w p s F) (hd : badPlace s.ps.length d = true) :
    Calls Try.prog 25 #[.pointer (some ⟨p, 0, none⟩), .int .i64 d] w fun e w' => e = .returned (.tuple #[.agg #[.int .i64 0, .slice none 0 0], .int .i64 13]) ∧ Below w.heap.size w w' := by
  obtain ⟨cv, kv, qs, h⟩ := h
  rw [← h.len] at hd
  obtain ⟨A, cap, hkv, _, _⟩ := h.pks.slice
  have h2 : w.cell? ⟨p, 2, none⟩ = some kv := h.ptr.cell 2
  rw [hkv] at h2
  have hp := h.lt p h.fpp
  have hne : ∀ o, (w.alloc o).cell? ⟨p, 2, none⟩ = w.cell? ⟨p, 2, none⟩ := fun o => World.cell?_alloc_lt w o _ hp
  rw [h2] at hne
  clear h hkv
  unfold badPlace at hd
  by_cases h0 : d < 0
  · clear hd
    go_enter Try.func25, Try.ntmps25
    go_wp2
    exact bodyPost_ret (v := .tuple #[.agg #[.int .i64 0, .slice none 0 0], .int .i64 13]) (by simp [results, Try.results25, go_sem]) rfl ⟨rfl, (Below.refl _ _).alloc (Nat.le_refl _) _⟩
  · have h1 : (qs.length : Int) ≤ d := by simpa [h0] using hd
    have h0' : decide (d < 0) = false := by simpa using h0
    clear hd
    go_enter Try.func25, Try.ntmps25
    go_wp2
    exact bodyPost_ret (v := .tuple #[.agg #[.int .i64 0, .slice none 0 0], .int .i64 13]) (by simp [results, Try.results25, go_sem]) rfl ⟨rfl, (Below.refl _ _).alloc (Nat.le_refl _) _⟩
def Looked (p : Nat) (F : Nat → Prop) (to : Int) (bs : List UInt8) (w : World) (e : Ending) (w' : World) : Prop :=
  ∃ A c, e = .returned (.tuple #[.agg #[.int .i64 to, .slice A (List.length bs) c], .int .i64 0]) ∧ Rd w' A (bvals bs) ∧ (∀ a, A = some a → F a.block ∧ a.block ≠ p ∧ ∀ u, w.cell? ⟨p, 2, none⟩ = some u → u.ownBlock ≠ some a.block) ∧ Below w.heap.size w w'
theorem rlook_any {w : World} {p : Nat} {s : St} {F : Nat → Prop} (k : Nat) (to : Int) (bs : List UInt8) (h : Rep 54 57 w p s F) (hk : s.ps[k]? = some (to, bs)) (hps : s.ps.length ≤ 120) :
    Calls Try.prog 25 #[.pointer (some ⟨p, 0, none⟩), .int .i64 (k : Int)] w (Looked p F to bs w) := by
  obtain ⟨cv, kv, qs, h⟩ := h
  have hql := h.len
  have hkl : k < qs.length := by
    have := (List.getElem?_eq_some_iff.1 hk).1
    omega
  obtain ⟨gk, off, cap, hkv, hnc, hcm, hgl⟩ := h.pks.form (by omega)
  subst hkv
  have hq : qs[k].to = to ∧ qs[k].bs = bs := by
    rw [← h.eq, List.getElem?_map, List.getElem?_eq_getElem hkl] at hk
    simp [Pk.pair] at hk
    exact hk
  obtain ⟨e1, e2⟩ := pcells_at qs k hkl
  have hc1 := h.pks.cells _ _ e1
  have hc2 := h.pks.cells _ _ e2
  have hok := h.data _ (List.getElem_mem hkl)
  have hfd := h.fpd _ (List.getElem_mem hkl)
  have hap := h.apd _ (List.getElem_mem hkl)
  generalize qs[k] = q at *
  obtain ⟨to2, A, bs2, c⟩ := q
  simp only at hq hc1 hc2 hok hfd hap
  obtain ⟨rfl, rfl⟩ := hq
  have h2 : w.cell? ⟨p, 2, none⟩ = some (.slice (some ⟨gk, off, none⟩) qs.length cap) := h.ptr.cell 2
  have hp := h.lt p h.fpp
  rw [← Nat.add_assoc] at hc2
  have a1 : ∀ o, (w.alloc o).cell? ⟨p, 2, none⟩ = some (.slice (some ⟨gk, off, none⟩) qs.length cap) := fun o => (World.cell?_alloc_lt w o _ hp).trans h2
  have a2 : ∀ o, (w.alloc o).cell? ⟨gk, off + k * 2, none⟩ = some (.int .i64 to2) := fun o => (World.cell?_alloc_lt w o _ hgl).trans hc1
  have a3 : ∀ o, (w.alloc o).cell? ⟨gk, off + k * 2 + 1, none⟩ = some (.slice A bs2.length c) := fun o => (World.cell?_alloc_lt w o _ hgl).trans hc2
  have hkl' : (k : Int) < (qs.length : Int) := by omega
  have hq120 : qs.length ≤ 120 := by omega
  have d0 : decide ((k : Int) < 0) = false := by simp
  have d1 : decide ((qs.length : Int) ≤ (k : Int)) = false := by simp; omega
  have HFIN2 : Hid (∀ o, Looked p F to2 bs2 w (.returned (.tuple #[.agg #[.int .i64 to2, .slice A bs2.length c], .int .i64 0])) (w.alloc o)) := fun o =>
    ⟨A, c, rfl, hok.rd.alloc o, fun a ha => ⟨hfd a ha, (hap a ha).1, fun u hu => by rw [h2] at hu; cases hu; exact (hap a ha).2.2⟩, (Below.refl _ _).alloc (Nat.le_refl _) o⟩
  clear h hk hql hok e1 e2 hfd hap
  go_enter Try.func25, Try.ntmps25
  go_wp2
  exact bodyPost_ret (v := .tuple #[.agg #[.int .i64 to2, .slice A bs2.length c], .int .i64 0]) (by simp [results, Try.results25, go_sem]) rfl (HFIN2.out _)
end Go.Proofs.Ytpljopocnlllcaa

/- Contract of lose. -/
import Derived.Test.YtpljopocnlllcaaR5
import Derived.Test.YtpljopocnlllcaaSL
import Derived.Deep.RegionLaw
namespace Go.Proofs.Ytpljopocnlllcaa
open Go.RowKit
attribute [local go_sem ↓] Go.wp_at_zero Go.wp_at_succ
def Did (tw te : TypeId) (p : Nat) (s' : St) (F : Nat → Prop) (r : Ending) (w : World) (e : Ending) (w' : World) : Prop := e = r ∧ ∃ F', Rep tw te w' p s' F' ∧ Kept F w w' ∧ Grew F F' w
theorem Did.mk_ {tw te : TypeId} {p : Nat} {s' : St} {F F' : Nat → Prop} {r e : Ending} {w w' : World} (he : e = r) (h1 : Rep tw te w' p s' F') (h2 : Kept F w w') (h3 : Grew F F' w) : Did tw te p s' F r w e w' := ⟨he, F', h1, h2, h3⟩
def Did2 (tw te : TypeId) (p : Nat) (s' : St) (F0 F : Nat → Prop) (r : Ending) (w : World) (e : Ending) (w' : World) : Prop := e = r ∧ ∃ F', Rep tw te w' p s' F' ∧ Kept F0 w w' ∧ Grew F F' w
/-- The packets turned: a new slice of them, stored into the structure's own block. -/
theorem RepW.turn {tw te : TypeId} {w w' : World} {p : Nat} {s : St} {F F' : Nat → Prop} {cv kv kv' : Value} {qs qs' : List Pk} (h : RepW tw te w p s F cv kv qs)
    (hk : Kept (fun k => k = p ∨ kv.ownBlock = some k) w w') (hp : Blk w' p tw [.int .i64 s.time, cv, kv']) (hg : GOwn w' te 2 kv' qs'.length (pcells qs'))
    (hat : ∀ g, kv'.ownBlock = some g → kv.ownBlock = some g ∨ w.heap.size ≤ g)
    (hq : ∀ q ∈ qs', q.ok w' ∧ ∀ a, q.a = some a → a.block ≠ p ∧ cv.ownBlock ≠ some a.block ∧ kv'.ownBlock ≠ some a.block)
    (hF : ∀ b, F b → F' b) (hK : ∀ b, kv'.ownBlock = some b → F' b) (hD : ∀ q ∈ qs', ∀ a, q.a = some a → F' a.block) (hlt : ∀ b, F' b → b < w'.heap.size) :
    RepW tw te w' p ⟨s.time, s.clocks, qs'.map Pk.pair⟩ F' cv kv' qs' :=
  { ptr := hp
    clk := h.clk.keep fun b hb => hk.block (h.lt b (h.fpc b hb)) (fun e => by
      rcases e with e | e
      · subst e; exact h.ap1 hb
      · exact h.ap3 b hb e)
    pks := hg
    data := fun q hqm => (hq q hqm).1
    eq := rfl
    ap1 := h.ap1
    ap2 := fun e => by
      rcases hat p e with h1 | h1
      · exact h.ap2 h1
      · have := h.lt p h.fpp; omega
    ap3 := fun b hb e => by
      rcases hat b e with h1 | h1
      · exact h.ap3 b hb h1
      · have := h.lt b (h.fpc b hb); omega
    apd := fun q hqm a ha => (hq q hqm).2 a ha
    fpp := hF p h.fpp
    fpc := fun b hb => hF b (h.fpc b hb)
    fpk := hK
    fpd := hD
    lt := hlt }
theorem RepW.old {tw te : TypeId} {w w' : World} {p : Nat} {s : St} {F : Nat → Prop} {cv kv kv' : Value} {qs : List Pk} (h : RepW tw te w p s F cv kv qs)
    (hk : Kept (fun k => k = p ∨ kv.ownBlock = some k) w w') (hat : ∀ g, kv'.ownBlock = some g → kv.ownBlock = some g ∨ w.heap.size ≤ g) {q : Pk} (hq : q ∈ qs) :
    q.ok w' ∧ ∀ a, q.a = some a → a.block ≠ p ∧ cv.ownBlock ≠ some a.block ∧ kv'.ownBlock ≠ some a.block := by
  refine ⟨(h.data q hq).kept hk fun a ha e => ?_, fun a ha => ?_⟩
  · obtain ⟨h1, h2, h3⟩ := h.apd q hq a ha
    rcases e with e | e
    · exact h1 e
    · exact h3 e
  · obtain ⟨h1, h2, h3⟩ := h.apd q hq a ha
    refine ⟨h1, h2, fun e => ?_⟩
    rcases hat _ e with h4 | h4
    · exact h3 h4
    · have := h.lt _ (h.fpd q hq a ha); omega
theorem erase_cells (qs : List Pk) (k : Nat) : (pcells qs).take (k * 2) ++ (pcells qs).drop ((k + 1) * 2) = pcells (qs.eraseIdx k) := by
  rw [pcells_take, pcells_drop, ← pcells_append, List.eraseIdx_eq_take_drop_succ]
theorem map_erase {α β : Type} (f : α → β) (l : List α) (k : Nat) : (l.eraseIdx k).map f = (l.map f).eraseIdx k := by
  rw [List.eraseIdx_eq_take_drop_succ, List.eraseIdx_eq_take_drop_succ, List.map_append, List.map_take, List.map_drop]
/-- The loss of a packet, once its cells lie anew. -/
theorem lost_rep {tw te : TypeId} {w w5 : World} {p gk off cap k : Nat} {s : St} {F : Nat → Prop} {cv v5 : Value} {qs : List Pk} (h : RepW tw te w p s F cv (.slice (some ⟨gk, off, none⟩) qs.length cap) qs) (hk : k < qs.length)
    (grow5 : w.grownBy w5 (some gk)) (own5 : GOwn w5 te 2 v5 (k + (qs.length - (k + 1))) ((pcells qs).take (k * 2) ++ (pcells qs).drop ((k + 1) * 2))) (at5 : ∀ g, v5.ownBlock = some g → some gk = some g ∨ w.heap.size ≤ g) :
    ∃ F', Rep tw te (w5.setCell ⟨p, 2, none⟩ v5) p ⟨s.time, s.clocks, s.ps.eraseIdx k⟩ F' ∧ Kept (fun b => b = p ∨ (Value.slice (some ⟨gk, off, none⟩) qs.length cap).ownBlock = some b) w (w5.setCell ⟨p, 2, none⟩ v5) ∧ Grew F F' w := by
  have hK : Kept (fun b => b = p ∨ (Value.slice (some ⟨gk, off, none⟩) qs.length cap).ownBlock = some b) w (w5.setCell ⟨p, 2, none⟩ v5) :=
    ((Kept.refl _ w).grown grow5 (fun b hb => .inl (.inr hb))).set (p := ⟨p, 2, none⟩) (.inl (.inl rfl)) _
  have hne : gk ≠ p := fun e => h.ap2 (by rw [e]; rfl)
  have hp5 : Blk w5 p tw [.int .i64 s.time, cv, .slice (some ⟨gk, off, none⟩) qs.length cap] := h.ptr.grown grow5 (fun e => hne (Option.some.inj e).symm)
  have hv5 : v5.ownBlock ≠ some p := fun e => by
    rcases at5 p e with h1 | h1
    · exact hne (Option.some.inj h1)
    · have := h.lt p h.fpp; omega
  have hl : (qs.eraseIdx k).length = k + (qs.length - (k + 1)) := by rw [List.length_eraseIdx]; simp [hk]; omega
  have hg : GOwn (w5.setCell ⟨p, 2, none⟩ v5) te 2 v5 (qs.eraseIdx k).length (pcells (qs.eraseIdx k)) := by
    rw [hl, ← erase_cells]
    exact own5.keep fun b hb => Below.heap_setCell w5 _ _ b (fun e => by simp only at e; subst e; exact hv5 hb)
  have hat : ∀ g, v5.ownBlock = some g → (Value.slice (some ⟨gk, off, none⟩) qs.length cap).ownBlock = some g ∨ w.heap.size ≤ g := at5
  refine ⟨fun b => F b ∨ v5.ownBlock = some b, ⟨cv, v5, qs.eraseIdx k, ?_⟩, hK, fun b hb => ?_⟩
  · have ht := h.turn (F' := fun b => F b ∨ v5.ownBlock = some b) hK (hp5.set_ 2 v5) hg hat (fun q hq => h.old hK hat (List.mem_of_mem_eraseIdx hq)) (fun b hb => .inl hb) (fun b hb => .inr hb) (fun q hq a ha => .inl (h.fpd q (List.mem_of_mem_eraseIdx hq) a ha)) (fun b hb => by
      rcases hb with hb | hb
      · exact Nat.lt_of_lt_of_le (h.lt b hb) hK.size
      · exact hg.lt hb)
    rw [map_erase, h.eq] at ht
    exact ht
  · rcases hb with hb | hb
    · exact .inl hb
    · rcases at5 b hb with h1 | h1
      · exact .inl (h.fpk b h1)
      · exact .inr h1
set_option maxRecDepth 100000 in
set_option maxHeartbeats 4000000 in
theorem lose_anyW {w : World} {p : Nat} {s : St} {F : Nat → Prop} {cv kv : Value} {qs : List Pk} (k : Nat) (h : RepW 51 64 w p s F cv kv qs) (hk : k < s.ps.length) (hl : s.ps.length ≤ 121) :
    Calls Try.prog 34 #[.pointer (some ⟨p, 0, none⟩), .int .i64 (k : Int)] w (Did2 51 64 p ⟨s.time, s.clocks, s.ps.eraseIdx k⟩ (fun b => b = p ∨ kv.ownBlock = some b) F (.returned (.tuple #[])) w) := by
  have hql := h.len
  obtain ⟨gk, off, cap, hkv, hnc, hcm, hgl⟩ := h.pks.form (by omega)
  have hkv' := hkv
  subst hkv
  have h2 : w.cell? ⟨p, 2, none⟩ = some (.slice (some ⟨gk, off, none⟩) qs.length cap) := h.ptr.cell 2
  have f2 := h.ptr.frozen 2
  have H := Lib.hid h
  have HR : Hid (Rd w (if cap = k + 1 then some ⟨gk, off, none⟩ else (some (⟨gk, off, none⟩ : Addr)).map (fun x => x.add ((k + 1) * 2))) ((pcells qs).drop ((k + 1) * 2))) := Rd.from_ h.pks.rd h.pks.1 hnc
  have HO : Hid (GOwn w 64 2 (.slice (some ⟨gk, off, none⟩) k k) k ((pcells qs).take (k * 2))) := h.pks.head (by omega)
  have hN : Hid (((pcells qs).drop ((k + 1) * 2)).length = (qs.length - (k + 1)) * 2) := by unfold Hid; rw [List.length_drop, pcells_length]; omega
  have hk1 : IntKind.i64.wrap ((k : Int) + 1) = (k : Int) + 1 := by rw [IntWalk.i64_in _ (by omega)]
  have k0 : (0 : Int) ≤ (k : Int) := by omega
  have k1 : (k : Int) ≤ (cap : Int) := by omega
  have k2 : (k : Int) + 1 ≤ (qs.length : Int) := by omega
  have k3 : (0 : Int) ≤ (k : Int) + 1 := by omega
  have k4 : ((k : Int) + 1).toNat = k + 1 := by omega
  have hk' : k < qs.length := by omega
  have hl' : qs.length ≤ 121 := by omega
  have HQL := Lib.hid hql
  clear h hkv' hql hk hl
  by_cases hcap : cap = k + 1
  · subst hcap
    have k5 : (k : Int) ≤ (k : Int) + 1 := by omega
    go_enter Try.func34, Try.ntmps34
    go_wp2_with fail
    have HE : Hid (qs.length - (k + 1) = 0) := by unfold Hid; omega
    clear HR
    have HR : Hid (Rd w (some ⟨gk, off, none⟩) ((pcells qs).drop ((k + 1) * 2))) := .inl (List.drop_eq_nil_of_le (by rw [pcells_length]; omega))
    go_region_law ((obtain ⟨v5, w5, hrun5, own5, grow5, at5⟩ := g_app (w := w.drew) pkE 49 HO.out 0 0 HR.out (by rw [hN.out, HE.out]) (fun u hu => pcells_one qs u (List.mem_of_mem_drop hu)) (by omega) (by unfold maxLen; omega); obtain ⟨A5, c5, hv5, hc5, hm5⟩ := own5.slice; subst hv5; have hb5 : Blk w5 p 51 [.int .i64 s.time, cv, .slice (some ⟨gk, off, none⟩) qs.length (k + 1)] := (H.out.ptr.drew).grown grow5 (Ne.symm H.out.ap2); have hc52 := hb5.cell 2; have hf52 := hb5.frozen 2; refine step_append (by rfl) (.tmp 11) (.tmp 18) 49 49 (by rfl) _ _ (by rfl) (by rfl) hrun5 ?_))
    all_goals
      have hfin := lost_rep H.out hk' (show w.grownBy w5 (some gk) from ⟨grow5.os, grow5.tape, grow5.output, grow5.size, grow5.block⟩) (by rw [HE.out]; exact own5) at5
      go_wp2_with fail
      go_end0
      exact ⟨rfl, hfin⟩
  go_enter Try.func34, Try.ntmps34
  go_wp2_with fail
  have hsl : (if cap = k + 1 then some (⟨gk, off, none⟩ : Addr) else (some (⟨gk, off, none⟩ : Addr)).map (fun x => x.add ((k + 1) * 2))) = some ⟨gk, off + (k + 1) * 2, none⟩ := by
    rw [if_neg hcap]
    simp [Addr.add_lit]
  rw [hsl] at HR
  clear hsl
  go_region_law ((obtain ⟨v5, w5, hrun5, own5, grow5, at5⟩ := g_app (w := w.drew) pkE 49 HO.out (qs.length - (k + 1)) (cap - (k + 1)) HR.out hN.out (fun u hu => pcells_one qs u (List.mem_of_mem_drop hu)) (by omega) (by unfold maxLen; omega); obtain ⟨A5, c5, hv5, hc5, hm5⟩ := own5.slice; subst hv5; have hb5 : Blk w5 p 51 [.int .i64 s.time, cv, .slice (some ⟨gk, off, none⟩) qs.length cap] := (H.out.ptr.drew).grown grow5 (Ne.symm H.out.ap2); have hc52 := hb5.cell 2; have hf52 := hb5.frozen 2; refine step_append (by rfl) (.tmp 11) (.tmp 18) 49 49 (by rfl) _ _ (by rfl) (by rfl) hrun5 ?_))
  all_goals
    have hfin := lost_rep H.out hk' (show w.grownBy w5 (some gk) from ⟨grow5.os, grow5.tape, grow5.output, grow5.size, grow5.block⟩) own5 at5
    go_wp2_with fail
    go_end0
    exact ⟨rfl, hfin⟩
theorem RepW.fpk2 {tw te : TypeId} {w : World} {p : Nat} {s : St} {F : Nat → Prop} {cv kv : Value} {qs : List Pk} (h : RepW tw te w p s F cv kv qs) : ∀ k, (k = p ∨ kv.ownBlock = some k) → F k := fun k hk => by
  rcases hk with rfl | hk
  · exact h.fpp
  · exact h.fpk k hk
theorem lose_any {w : World} {p : Nat} {s : St} {F : Nat → Prop} (k : Nat) (h : Rep 51 64 w p s F) (hk : k < s.ps.length) (hl : s.ps.length ≤ 121) :
    Calls Try.prog 34 #[.pointer (some ⟨p, 0, none⟩), .int .i64 (k : Int)] w (Did 51 64 p ⟨s.time, s.clocks, s.ps.eraseIdx k⟩ F (.returned (.tuple #[])) w) := by
  obtain ⟨cv, kv, qs, h⟩ := h
  exact (lose_anyW k h hk hl).mono fun e w' ⟨he, F', h1, h2, h3⟩ => ⟨he, F', h1, h2.mono h.fpk2, h3⟩
end Go.Proofs.Ytpljopocnlllcaa

/- Contracts of New. -/
import Derived.Test.YtpljopocnlllcaaR1
import Derived.Laws.MakeOwn
namespace Go.Proofs.Ytpljopocnlllcaa
open Go.RowKit
attribute [local go_sem ↓] Go.wp_at_zero Go.wp_at_succ
theorem intE : Elem Try.prog 29 3 (.int .i64 0) 1 8 := Elem.mk_ Try.underlying29 (by kernel_rfl) rfl (by decide)
theorem pkE : Elem Try.prog 49 64 (.agg #[.int .i64 0, .slice none 0 0]) 2 32 := Elem.mk_ Try.underlying49 (by kernel_rfl) rfl (by decide)
theorem rpkE : Elem Try.prog 52 57 (.agg #[.int .i64 0, .slice none 0 0]) 2 32 := Elem.mk_ Try.underlying52 (by kernel_rfl) rfl (by decide)
theorem byteE : Elem Try.prog 30 5 (.int .u8 0) 1 1 := Elem.mk_ Try.underlying30 (by kernel_rfl) rfl (by decide)
theorem madeCells_one (z : Value) (n : Nat) : madeCells #[z] n = (List.replicate n z).toArray := by
  apply Array.ext
  · simp [madeCells]
  · intro i h1 h2
    simp [madeCells, Nat.mod_one]
theorem mk_ints (n : Nat) (h : n ≤ 16) (w : World) : (Instr.makeSlice 29 (.int .i64 (n : Int)) (.int .i64 (n : Int))).run Try.prog w = .ok (.slice (some ⟨w.heap.size, 0, none⟩) n n) (w.alloc (.cells (ivals (List.replicate n 0)).toArray 3)) := by
  obtain ⟨i, hi, hz, hs, hb⟩ := intE.hi
  rw [run_make w 29 3 i (.int .i64 0) Try.underlying29 hi hz .i64 .i64 n n (by omega) (by omega) (by rw [hb]; omega) (by omega)]
  have e1 : ((n : Int)).toNat = n := by omega
  rw [e1, hs, Nat.mul_one]
  have e2 : (Value.int .i64 0).cells = #[.int .i64 0] := rfl
  rw [e2, madeCells_one]
  congr 3
  simp [ivals]
def st0 (n : Nat) : St := ⟨0, List.replicate n 0, []⟩
theorem st0_good (n : Nat) (h0 : 2 ≤ n) (h1 : n ≤ 16) : (st0 n).good := ⟨by simpa [st0] using h0, by simpa [st0] using h1, by simp [st0], by simp [st0], by simp [st0]⟩
/-- A new world of clocks: the blocks g (clocks) and p. -/
theorem rep_new {tw te : TypeId} {w : World} {n g p : Nat} {cv : Value} (hc : GOwn w 3 1 cv n (ivals (List.replicate n 0))) (hcv : cv.ownBlock = some g) (hp : Blk w p tw [.int .i64 0, cv, .slice none 0 0]) (hgp : g ≠ p) :
    Rep tw te w p (st0 n) (fun k => k = g ∨ k = p) :=
  ⟨cv, .slice none 0 0, [],
    { ptr := hp
      clk := by simpa [st0] using hc
      pks := GOwn.nil _ _ _
      data := fun q hq => by simp at hq
      eq := rfl
      ap1 := by rw [hcv]; simpa using hgp
      ap2 := by simp [Value.ownBlock]
      ap3 := fun b _ => by simp [Value.ownBlock]
      apd := fun q hq => by simp at hq
      fpp := .inr rfl
      fpc := fun b hb => by rw [hcv] at hb; exact .inl (by simpa using hb.symm)
      fpk := fun b hb => by simp [Value.ownBlock] at hb
      fpd := fun q hq => by simp at hq
      lt := fun b hb => by
        rcases hb with rfl | rfl
        · exact hc.lt hcv
        · exact hp.lt }⟩
theorem GOwn.of_blk {w : World} {g : Nat} {e : TypeId} {size n : Nat} {cs : List Value} (h : Blk w g e cs) (hl : cs.length = n * size) (hm : n ≤ maxLen) : GOwn w e size (.slice (some ⟨g, 0, none⟩) n n) n cs :=
  ⟨hl, .inr ⟨g, 0, n, cs.toArray, rfl, h, Nat.le_refl _, hm, by simp [hl], by simp [← hl]⟩⟩
/-- A pointer to a new structure. -/
def Made (tw te : TypeId) (s : St) (w : World) (e : Ending) (w' : World) : Prop := ∃ p F, e = .returned (.pointer (some ⟨p, 0, none⟩)) ∧ Rep tw te w' p s F ∧ (∀ k, F k → w.heap.size ≤ k) ∧ Below w.heap.size w w'
theorem new_any (n : Nat) (w : World) (h0 : 2 ≤ n) (h1 : n ≤ 16) : Calls Try.prog 7 #[.int .i64 (n : Int)] w (Made 51 64 (st0 n) w) := by
  have hmk := mk_ints n h1
  have d1 : decide ((n : Int) < 2) = false := by simp; omega
  have d2 : decide (16 < (n : Int)) = false := by simp; omega
  go_enter Try.func7, Try.ntmps7
  go_wp2
  go_ret
  unfold Made
  have hb1 : Blk (w.alloc (.cells (ivals (List.replicate n 0)).toArray 3)) w.heap.size 3 (ivals (List.replicate n 0)) := Blk.new w 3 _
  have hb2 := Blk.new2 w (.cells (ivals (List.replicate n 0)).toArray 3) [.int .i64 0, .slice (some ⟨w.heap.size, 0, none⟩) n n, .slice none 0 0] 51
  have hc : GOwn ((w.alloc (.cells (ivals (List.replicate n 0)).toArray 3)).alloc (.cells #[.int .i64 0, .slice (some ⟨w.heap.size, 0, none⟩) n n, .slice none 0 0] 51)) 3 1 (.slice (some ⟨w.heap.size, 0, none⟩) n n) n (ivals (List.replicate n 0)) :=
    GOwn.of_blk (hb1.alloc _) (by simp [ivals]) (by unfold maxLen; omega)
  refine ⟨w.heap.size + 1, fun k => k = w.heap.size ∨ k = w.heap.size + 1, rfl, rep_new hc rfl hb2 (Nat.ne_of_lt (Nat.lt_succ_self _)), fun k hk => ?_, ((Below.refl _ _).alloc (Nat.le_refl _) _).alloc (by simp) _⟩
  rcases hk with rfl | rfl <;> omega
set_option maxRecDepth 100000 in
set_option maxHeartbeats 1000000 in
theorem rnew_any (n : Nat) (w : World) (h0 : 2 ≤ n) (h1 : n ≤ 16) : Calls Try.prog 8 #[.int .i64 (n : Int)] w (Made 54 57 (st0 n) w) := by
  have d1 : decide ((n : Int) < 2) = false := by simp; omega
  have d2 : decide (16 < (n : Int)) = false := by simp; omega
  go_enter Try.func8, Try.ntmps8
  go_wp2_with fail
  have hb0 := Lib.hid (Blk.new w 54 [.int .i64 0, .slice none 0 0, .slice none 0 0])
  have hV0 : Hid (Below w.heap.size w (w.alloc (.cells #[.int .i64 0, .slice none 0 0, .slice none 0 0] 54))) := (Below.refl _ _).alloc (Nat.le_refl _) _
  have hz0 : w.heap.size < (w.alloc (.cells #[.int .i64 0, .slice none 0 0, .slice none 0 0] 54)).heap.size := by simp
  generalize w.alloc (.cells #[.int .i64 0, .slice none 0 0, .slice none 0 0] 54) = W1 at *
  go_loopw [4] (fun i wr => ∃ k : Nat, ∃ cv : Value, k ≤ n ∧ i = .int .i64 (k : Int) ∧ Blk wr w.heap.size 54 [.int .i64 0, cv, .slice none 0 0] ∧ GOwn wr 3 1 cv k (ivals (List.replicate k 0)) ∧ cv.ownBlock ≠ some w.heap.size ∧ (∀ g, cv.ownBlock = some g → w.heap.size ≤ g) ∧ Below w.heap.size w wr) (fun i _ => n - (intOf i).toNat)
  case atStart => exact ⟨0, .slice none 0 0, by omega, rfl, hb0.out, GOwn.nil _ _ _, by simp [Value.ownBlock], fun g hg => by simp [Value.ownBlock] at hg, hV0.out⟩
  case round =>
    clear hb0 hV0 hz0
    obtain ⟨k, cv, hk, rfl, hB, hG, hne, hge, hV⟩ := hrel
    have HB := Lib.hid hB
    have HG := Lib.hid hG
    have HV := Lib.hid hV
    have hlt0 := hB.lt
    by_cases hlt : k < n
    · have hc1 : ∀ o, (wr.alloc o).cell? ⟨w.heap.size, 1, none⟩ = some cv := fun o => (hB.alloc o).cell 1
      have hc0 : wr.cell? ⟨w.heap.size, 1, none⟩ = some cv := hB.cell 1
      clear hB hG hV
      go_wp2_with (at_builtin; obtain ⟨v5, w5, hrun5, own5, grow5, at5⟩ := g_app intE 29 ((HG.out.keep (fun b hb => Below.heap_alloc wr (.cells #[.int .i64 0] 3) b (HG.out.lt hb)))) (A := some ⟨wr.heap.size, 0, none⟩) (news := ivals [0]) 1 1 (Rd.of_blk (cs := ivals [0]) (Blk.new wr 3 _) 0) rfl (ivals_one _) (by omega) (by unfold maxLen; omega); obtain ⟨A5, c5, hv5, _, _⟩ := own5.slice; subst hv5; refine wpl_append rfl (.tmp 22) (.tmp 23) 29 29 rfl _ _ rfl rfl hrun5 ?_; have hb5 : Blk w5 w.heap.size 54 [.int .i64 0, cv, .slice none 0 0] := (HB.out.alloc (.cells #[.int .i64 0] 3)).grown grow5 (Ne.symm hne); have hc5 : w5.cell? ⟨w.heap.size, 1, none⟩ = some cv := hb5.cell 1; have hf5 := hb5.frozen 1)
      go_roundw
      case rel =>
        refine ⟨k + 1, .slice A5 (k + 1) c5, by omega, by go_num, hb5.set_ 1 _, ?_, ?_, ?_, ?_⟩
        · rw [List.replicate_succ', ivals_append]
          refine own5.keep fun b hb => Below.heap_setCell w5 _ _ b ?_
          rcases at5 b hb with h | h
          · intro e; simp only at e; subst e; exact hne h
          · simp at h; simp only; omega
        · intro e
          rcases at5 _ e with h | h
          · exact hne h
          · simp at h; omega
        · intro g hg
          rcases at5 g hg with h | h
          · exact hge g h
          · simp at h; omega
        · exact Below.setCell (p := ⟨w.heap.size, 1, none⟩) ((HV.out.alloc HV.out.size _).grown grow5 (by simp; exact Nat.le_succ_of_le HV.out.size) (fun g hg => hge g hg)) (Nat.le_refl _) _
      case measure => simp [intOf]; omega
    · obtain rfl : k = n := by omega
      obtain ⟨g, off, cap, rfl, _, _, hgl⟩ := hG.form (by omega)
      have hrep := rep_new (tw := 54) (te := 57) hG rfl hB (by simpa [Value.ownBlock] using hne)
      have hg2 := hge g rfl
      have HR := Lib.hid hrep
      clear hB hG hV hrep HB HG
      go_wp2
      go_ret
      unfold Made
      refine ⟨w.heap.size, _, rfl, HR.out, fun k hk => ?_, HV.out⟩
      rcases hk with rfl | rfl
      · exact hg2
      · exact Nat.le_refl _
theorem rnew_none (n : Int) (w : World) (h : n < 2 ∨ 16 < n) : Calls Try.prog 8 #[.int .i64 n] w fun e w' => e = .returned (.pointer none) ∧ w = w' := by
  rcases h with h | h
  · go_enter Try.func8, Try.ntmps8
    go_wp2
    go_ret
    exact ⟨rfl, rfl⟩
  · have d1 : decide (n < 2) = false := by simp; omega
    go_enter Try.func8, Try.ntmps8
    go_wp2
    go_ret
    exact ⟨rfl, rfl⟩
theorem new_none (n : Int) (w : World) (h : n < 2 ∨ 16 < n) : Calls Try.prog 7 #[.int .i64 n] w fun e w' => e = .returned (.pointer none) ∧ w = w' := by
  rcases h with h | h
  · go_enter Try.func7, Try.ntmps7
    go_wp2
    go_ret
    exact ⟨rfl, rfl⟩
  · have d1 : decide (n < 2) = false := by simp; omega
    go_enter Try.func7, Try.ntmps7
    go_wp2
    go_ret
    exact ⟨rfl, rfl⟩
end Go.Proofs.Ytpljopocnlllcaa

/- Whatever parts of time pass (the first 60), with whatever skews: if they are together Bound(n) or more, the clock went on by n or more; and the document's examples hold. Conditions: none beyond those of the given row. -/
import Derived.Test.YtiibkliaokkpdaaRows
import Derived.Test.YtiibkliaokkpdaaTO
import Derived.Test.YtiibkliaokkpdaaOS
import Derived.ProofKit
import Derived.ChangeOld
import Derived.Below
import Derived.Carry
import Derived.SizedLaws
namespace Go.Proofs.Ytiibkliaokkpdaa.ticksBound
open Go.ChangeShapes Go.WideShapes Go.ChangeAt Go.RowKit
set_option linter.unusedVariables false
theorem own : ownKnob Try.prog.godebug = none := by kernel_rfl
theorem laidOut : laidOutB Try.prog = true := by kernel_rfl
theorem open_parts {H : Type} {enc : TypeId × Value → H} {W : World} {base : Nat} {v : Value} {d : DataW H} {p : List MemPlace}
    (hval : Value.okWide Try.prog W .any base 26 v) (h : DataW.Trod enc Try.prog W 0 (fun _ => true) true 26 v d p) :
    ∃ A l c, v = .slice A (List.length l) c ∧ l.length ≤ c ∧ c ≤ maxLen ∧ PartsAt W A l := by
  obtain ⟨a0, len0, cap0, rfl⟩ := okWide_slice Try.underlying26 hval
  obtain ⟨fuel, hf⟩ := h
  rcases open_structs Try.underlying26 Try.underlying28 (by kernel_rfl) (by kernel_rfl) hf with hcs | ⟨x, l, c, hcs, hl, hm, hall⟩
  · simp [Value.cells] at hcs
    obtain ⟨rfl, rfl, rfl⟩ := hcs
    exact ⟨none, [], 0, rfl, by simp, by simp, ⟨fun i hi => by simp at hi⟩⟩
  · simp [Value.cells] at hcs
    obtain ⟨rfl, rfl, rfl⟩ := hcs
    have hex : ∀ i, ∃ q : Int × Int, i < len0 → W.cell? (x.add (i * 2)) = some (.int .i64 q.1) ∧ W.cell? (x.add (i * 2 + 1)) = some (.int .i64 q.2) := fun i => by
      by_cases hi : i < len0
      · obtain ⟨v1, y1, n1, c1, t1⟩ := hall i hi 0 _ rfl
        obtain ⟨v2, y2, n2, c2, t2⟩ := hall i hi 1 _ rfl
        obtain ⟨z1, rfl, _⟩ := int_cell Try.underlying3 t1
        obtain ⟨z2, rfl, _⟩ := int_cell Try.underlying3 t2
        exact ⟨(z1, z2), fun _ => ⟨c1, c2⟩⟩
      · exact ⟨(0, 0), fun h => absurd h hi⟩
    obtain ⟨f, hf2⟩ : ∃ f : Nat → Int × Int, ∀ i, i < len0 → W.cell? (x.add (i * 2)) = some (.int .i64 (f i).1) ∧ W.cell? (x.add (i * 2 + 1)) = some (.int .i64 (f i).2) := ⟨fun i => Classical.choose (hex i), fun i => Classical.choose_spec (hex i)⟩
    have hl2 : ((List.range len0).map f).length = len0 := by simp
    refine ⟨some x, (List.range len0).map f, cap0, by rw [hl2], by rw [hl2]; exact hl, hm, ⟨fun i hi => ?_⟩⟩
    rw [hl2] at hi
    obtain ⟨c1, c2⟩ := hf2 i hi
    obtain ⟨b, off, spot⟩ := x
    have hsp : spot = none := by
      have c0 := (hf2 0 (by omega)).1
      simpa [Addr.add] using World.cell?_spot c0
    subst hsp
    rw [Addr.add_lit] at c1 c2
    refine ⟨b, off, rfl, ?_, ?_⟩
    · simpa using c1
    · rw [Nat.add_assoc]
      simpa using c2
set_option maxRecDepth 100000 in
theorem lifted (os : Os) (started : os.Started) (H : Type) (enc : TypeId × Value → H) :
    ReturnsInHanded {} Try.checked os 5 .any (Rows.ticksBoundSpec.pre6 enc Try.prog Try.f5 Rows.ticksBoundRow.domain false) (Rows.ticksBoundSpec.post enc Try.prog Try.f5 false true false false) := by
  refine returnsInHanded_of_change_sized (C := Try.checked) own started (by kernel_rfl) Try.func5
    (ChangeSpec.witness6 (enc := enc) (C := Try.checked) false ⟨#[], #[.int .i64 0, .slice none 0 0], []⟩ 8 (by kernel_rfl) (by kernel_rfl) (by kernel_rfl) (by kernel_rfl)) ?_
  intro W base args ds gs before hval0 hW hcnd hsz0 _
  have hval : ∀ (j : Nat) t v, Try.f5.params[j]? = some t → args[j]? = some v → Value.okWide Try.prog W .any base t v := hval0
  have hW' := hW
  obtain ⟨p, q, hA0, hV, rfl, hfz, hnd⟩ := hW
  have hA : DataW.TrodAll enc Try.prog W 0 (fun _ => true) true Try.f5.params.toList args.toList ds p := hA0
  rw [Try.params5] at hA hval
  obtain ⟨v0, vs0, d0, ds0, p0, q0, hargs, rfl, rfl, h0, r0⟩ := trodAll_cons hA
  obtain ⟨v1, vs1, d1, ds1, p1, q1, hargs1, rfl, rfl, h1, r1⟩ := trodAll_cons r0
  obtain ⟨rfl, rfl, rfl⟩ := trodAll_nil r1
  obtain rfl : args = #[v0, v1] := by cases args; simp_all
  obtain ⟨rfl, rfl⟩ := trodVars_none hV
  have k0 := h0
  have k1 := h1
  have lt0 : ∀ x ∈ p0, x.block < W.heap.size := by obtain ⟨m, hm⟩ := k0; exact DataW.trod_lt m _ _ _ hm
  have lt1 : ∀ x ∈ p1, x.block < W.heap.size := by obtain ⟨m, hm⟩ := k1; exact DataW.trod_lt m _ _ _ hm
  obtain ⟨z0, rfl, _, _, wf0⟩ := open_int Try.underlying3 (hval 0 3 v0 rfl rfl) h0
  obtain ⟨A, l, c, rfl, hl, hm, hp⟩ := open_parts (hval 1 26 v1 rfl rfl) h1
  clear hA0 hval0 hsz0
  refine (ticksBound_any z0 A c l W hp (Nat.le_trans hl hm)).mono fun e W' ⟨he, n, hw⟩ => ?_
  subst he
  have bel : Below W.heap.size W W' := by rw [hw]; exact ⟨rfl, rfl, rfl, Nat.le_refl _, fun _ _ => rfl⟩
  exact ⟨_, rfl, _, _, _, [], _, [], hW', trodAll_mk1 (shut_bool Try.underlying4 _), (trodAll_cons_mk (Below.trod laidOut (by kernel_rfl) (of_decide_eq_true (by kernel_rfl)) k0 bel lt0) (trodAll_cons_mk (Below.trod laidOut (by kernel_rfl) (of_decide_eq_true (by kernel_rfl)) k1 bel lt1) trodAll_mk0)), rfl, bel.frame _, fun h => by cases h⟩
theorem over : Rows.ticksBoundRow.holds Try.pinned (OpenSpec.ofChange Rows.ticksBoundSpec) :=
  OpenClaim.holds_of_wide 5 Try.f5 rfl rfl rfl rfl rfl rfl rfl ⟨rfl, rfl, rfl, rfl, rfl⟩ rfl rfl rfl rfl rfl (by kernel_rfl) Try.func5 (by kernel_rfl)
    (of_decide_eq_true (by kernel_rfl)) (by unfold Func.isWrapper; first | (rw [if_pos (by decide +kernel)]; kernel_rfl) | (rw [if_neg (by decide +kernel)]; exact ⟨rfl, rfl⟩))
    (fun os started H enc _ => lifted os started H enc)
theorem proved : Rows.TicksBoundSaid := over
#print axioms proved
end Go.Proofs.Ytiibkliaokkpdaa.ticksBound
namespace Go.Proofs.Ytiibkliaokkpdaa
/-- The row, under a short name, for the claim. -/
theorem ticksBound_holds : Rows.TicksBoundSaid := ticksBound.proved
end Go.Proofs.Ytiibkliaokkpdaa

/- Append on a row of the call's own, and which cells it leaves. -/
import Derived.Test.YtpcmfbdlfjlobaaK2
import Derived.ArgAppend
namespace Go.Proofs.Ytpcmfbdlfjlobaa
open Go.RowKit
theorem cell_app {w w5 : World} {o : Obj} {row : Option Nat} {a : Addr} {v : Value} (g : (w.alloc o).drew.grownBy w5 row) (h : w.cell? a = some v) (hne : some a.block ≠ row) : w5.cell? a = some v :=
  g.cell (show (w.alloc o).drew.cell? a = some v from (World.cell?_alloc_lt w o a (block_lt_of_cell h)).trans h) hne
theorem own_form {w : World} {base : Nat} {e : TypeId} {size : Nat} {v : Value} {n : Nat} {xs : List Value} (h : w.ownsRow base e size v n xs) (hn : 0 < n) :
    ∃ g cap, v = .slice (some ⟨g, 0, none⟩) n cap ∧ base ≤ g ∧ g < w.heap.size ∧ n ≤ cap := by
  rcases h.2 with ⟨_, h0⟩ | ⟨g, cap, cur, hv, hb, _, hc, _⟩
  · omega
  · exact ⟨g, cap, hv, hb, (h.lt g (by rw [hv]; rfl)).2, hc⟩
section
variable {P : Program} {w : World} {t e : TypeId} {z : Value} {size bytes : Nat}
/-- As app_own, and: every cell is as it was but those of v's own block behind its length. -/
theorem app_keep (E : Elem P t e z size bytes) (ty : TypeId) {base : Nat} {v : Value} {n : Nat} {xs : List Value} (hown : w.ownsRow base e size v n xs)
    {A : Option Addr} (m c : Nat) {news : List Value} (hr : Rd w A news) (hl : news.length = m * size) (h1 : ∀ u ∈ news, u.oneCell' = true)
    (hbytes : (n + m) * bytes ≤ 140737488355328) (h63 : n + m ≤ maxLen) (hbase : base ≤ w.heap.size) :
    ∃ v' w', (Builtin.append_ #[t, t] ty #[v, .slice A m c]).run P w = .ok v' w' ∧ w'.ownsRow base e size v' (n + m) (xs ++ news) ∧ w.grownBy w' v.ownBlock ∧
      (v'.ownBlock = v.ownBlock ∨ v'.ownBlock = some w.heap.size) ∧
      (∀ b off u, (v.ownBlock ≠ some b ∨ off < n * size) → w.cell? ⟨b, off, none⟩ = some u → w'.cell? ⟨b, off, none⟩ = some u) := by
  obtain ⟨v', w', hrun, ho, hg, hat⟩ := app_own E ty hown m c hr hl h1 hbytes h63 hbase
  refine ⟨v', w', hrun, ho, hg, hat, ?_⟩
  intro b off u hne hcell
  by_cases hb : v.ownBlock = some b
  · have hoff : off < n * size := hne.resolve_left (fun h => h hb)
    have hn : 0 < n := Nat.pos_of_ne_zero (fun h => by subst h; simp at hoff)
    obtain ⟨g, cap, rfl, hgb, hgl, hcap⟩ := own_form hown hn
    obtain rfl : g = b := by simpa [Value.ownBlock] using hb
    by_cases hfit : n + m ≤ cap
    · obtain ⟨w2, hrun2, ho2, _⟩ := app_fits E ty hown m c hr hl h1 hfit
      rw [hrun] at hrun2
      injection hrun2 with hv hw
      subst hw
      have e1 := hown.cellAt off hoff
      have e2 := ho2.cellAt off (by rw [Nat.add_mul]; omega)
      rw [e2, List.getElem?_append_left (by rw [hown.1]; exact hoff), ← e1]
      exact hcell
    · have hm : 0 < m := by omega
      obtain ⟨i, hi, hz, hs, hby⟩ := E.hi
      rcases hr with h0 | ⟨b2, off2, hA, _, hc⟩
      · subst h0
        have := Nat.mul_pos hm E.hsz
        simp at hl
        omega
      · subst hA
        obtain ⟨v2, w2, hrun2, _, hg2⟩ := run_append_arg_grows (P := P) w t ty e i z size bytes E.ht hi hz hs hby E.hzs E.hsz ⟨g, 0, none⟩ n cap xs (by simpa using hown.1) (fun j u hu => by
            rw [Addr.add_lit, Nat.zero_add]
            have hj : j < n * size := by
              have := (List.getElem?_eq_some_iff.1 hu).1
              rw [hown.1] at this
              exact this
            rw [hown.cellAt j hj]; exact hu) ⟨b2, off2, none⟩ m c news hl (fun j u hu => by rw [Addr.add_lit]; exact hc j u hu) (by omega) h63 hbytes
        rw [hrun] at hrun2
        injection hrun2 with hv hw
        subst hw
        exact hg2.cell hcell (by simp)
  · exact hg.cell hcell (fun h => hb h.symm)
end
end Go.Proofs.Ytpcmfbdlfjlobaa

/- A slice that owns its place in a block, wherever it begins, whatever lies behind its capacity. -/
import Derived.Test.YtpcmfbdlfjlobaaK3
namespace Go.Proofs.Ytpcmfbdlfjlobaa
open Go.RowKit
def GOwn (w : World) (e : TypeId) (size : Nat) (v : Value) (n : Nat) (xs : List Value) : Prop :=
  xs.length = n * size ∧ ((v = .slice none 0 0 ∧ n = 0) ∨ ∃ b off cap cur, v = .slice (some ⟨b, off, none⟩) n cap ∧ w.heap[b]? = some (.cells cur e (0, 0)) ∧ n ≤ cap ∧ cap ≤ maxLen ∧ off + cap * size ≤ cur.size ∧ (cur.toList.drop off).take (n * size) = xs)
section
variable {w w' : World} {e : TypeId} {size : Nat} {v : Value} {n : Nat} {xs : List Value}
theorem GOwn.of_own {base : Nat} (h : w.ownsRow base e size v n xs) : GOwn w e size v n xs := by
  refine ⟨h.1, ?_⟩
  rcases h.2 with h0 | ⟨g, cap, cur, h1, _, h3, h4, h5, h6, h7⟩
  · exact .inl h0
  · exact .inr ⟨g, 0, cap, cur, h1, h3, h4, h5, by omega, by simpa using h7⟩
theorem GOwn.nil (w : World) (e : TypeId) (size : Nat) : GOwn w e size (.slice none 0 0) 0 [] := ⟨by simp, .inl ⟨rfl, rfl⟩⟩
theorem GOwn.slice (h : GOwn w e size v n xs) : ∃ A cap, v = .slice A n cap ∧ n ≤ cap ∧ cap ≤ maxLen := by
  rcases h.2 with ⟨h1, h2⟩ | ⟨b, off, cap, cur, h1, h2, h3, h4, h5, h6⟩
  · exact ⟨none, 0, by rw [h1, h2], by omega, by simp⟩
  · exact ⟨some ⟨b, off, none⟩, cap, h1, h3, h4⟩
theorem GOwn.form (h : GOwn w e size v n xs) (hn : 0 < n) : ∃ g off cap, v = .slice (some ⟨g, off, none⟩) n cap ∧ n ≤ cap ∧ cap ≤ maxLen ∧ g < w.heap.size := by
  rcases h.2 with ⟨h1, h2⟩ | ⟨b, off, cap, cur, h1, h2, h3, h4, h5, h6⟩
  · omega
  · refine ⟨b, off, cap, h1, h3, h4, ?_⟩
    rcases Nat.lt_or_ge b w.heap.size with hlt | hge
    · exact hlt
    · rw [Array.getElem?_eq_none hge] at h2; cases h2
theorem GOwn.lt (h : GOwn w e size v n xs) {b : Nat} (hb : v.ownBlock = some b) : b < w.heap.size := by
  rcases h.2 with ⟨h1, _⟩ | ⟨g, off, cap, cur, h1, h2, _⟩
  · subst h1; simp [Value.ownBlock] at hb
  · subst h1
    obtain rfl : g = b := by simpa [Value.ownBlock] using hb
    rcases Nat.lt_or_ge g w.heap.size with hlt | hge
    · exact hlt
    · rw [Array.getElem?_eq_none hge] at h2; cases h2
theorem GOwn.keep (h : GOwn w e size v n xs) (hk : ∀ b, v.ownBlock = some b → w'.heap[b]? = w.heap[b]?) : GOwn w' e size v n xs := by
  refine ⟨h.1, ?_⟩
  rcases h.2 with h0 | ⟨g, off, cap, cur, h1, h2, h3⟩
  · exact .inl h0
  · exact .inr ⟨g, off, cap, cur, h1, (hk g (by rw [h1]; rfl)).trans h2, h3⟩
theorem GOwn.cells {g off cap : Nat} (h : GOwn w e size (.slice (some ⟨g, off, none⟩) n cap) n xs) (j : Nat) (u : Value) (hj : xs[j]? = some u) : w.cell? ⟨g, off + j, none⟩ = some u := by
  rcases h.2 with ⟨h1, _⟩ | ⟨g', off', cap', cur, h1, h2, h3, h4, h5, h6⟩
  · simp at h1
  · simp only [Value.slice.injEq, Option.some.injEq, Addr.mk.injEq, and_true, true_and] at h1
    obtain ⟨⟨rfl, rfl⟩, rfl⟩ := h1
    have hjl : j < n * size := by
      have := (List.getElem?_eq_some_iff.1 hj).1
      rw [h.1] at this
      exact this
    rw [← h6, List.getElem?_take, if_pos hjl, List.getElem?_drop] at hj
    simp only [World.cell?, h2]
    simpa using hj
theorem GOwn.frozen {g off cap : Nat} (h : GOwn w e size (.slice (some ⟨g, off, none⟩) n cap) n xs) (j : Nat) : w.frozen? ⟨g, j, none⟩ = false := by
  rcases h.2 with ⟨h1, _⟩ | ⟨g', off', cap', cur, h1, h2, h3, h4, h5, h6⟩
  · simp at h1
  · simp only [Value.slice.injEq, Option.some.injEq, Addr.mk.injEq, and_true, true_and] at h1
    obtain ⟨⟨rfl, rfl⟩, rfl⟩ := h1
    simp [World.frozen?, h2]
theorem GOwn.rd {A : Option Addr} {cap : Nat} (h : GOwn w e size (.slice A n cap) n xs) : Rd w A xs := by
  rcases h.2 with ⟨h1, h2⟩ | ⟨g, off, cap', cur, h1, h2, h3⟩
  · left
    have := h.1
    rw [h2] at this
    exact List.eq_nil_of_length_eq_zero (by simpa using this)
  · right
    have hA : A = some ⟨g, off, none⟩ := by injection h1
    subst hA
    exact ⟨g, off, rfl, h.lt rfl, fun j u hu => h.cells j u hu⟩
/-- x[:k:k]. -/
theorem GOwn.head {A : Option Addr} {cap : Nat} (h : GOwn w e size (.slice A n cap) n xs) {k : Nat} (hk : k ≤ n) : GOwn w e size (.slice A k k) k (xs.take (k * size)) := by
  have hks : k * size ≤ n * size := Nat.mul_le_mul_right _ hk
  refine ⟨by rw [List.length_take, h.1]; omega, ?_⟩
  rcases h.2 with ⟨h1, h2⟩ | ⟨g, off, cap', cur, h1, h2, h3, h4, h5, h6⟩
  · left
    have hA : A = none := by injection h1
    have : k = 0 := by omega
    exact ⟨by rw [hA, this], this⟩
  · right
    simp only [Value.slice.injEq, true_and] at h1
    obtain ⟨rfl, rfl⟩ := h1
    have hkc : k * size ≤ cap * size := Nat.mul_le_mul_right _ (Nat.le_trans hk h3)
    exact ⟨g, off, k, cur, rfl, h2, Nat.le_refl _, by omega, by omega, by rw [← h6, List.take_take, Nat.min_eq_left hks]⟩
/-- x[1:] of a slice with more than one place. -/
theorem GOwn.tail {g off cap : Nat} (h : GOwn w e size (.slice (some ⟨g, off, none⟩) n cap) n xs) (hn : 0 < n) : GOwn w e size (.slice (some ⟨g, off + size, none⟩) (n - 1) (cap - 1)) (n - 1) (xs.drop size) := by
  have e1 : n * size = size + (n - 1) * size := by rw [Nat.sub_mul]; have := Nat.le_mul_of_pos_left size hn; omega
  refine ⟨by rw [List.length_drop, h.1]; omega, ?_⟩
  rcases h.2 with ⟨h1, _⟩ | ⟨g', off', cap', cur, h1, h2, h3, h4, h5, h6⟩
  · simp at h1
  · simp only [Value.slice.injEq, Option.some.injEq, Addr.mk.injEq, and_true, true_and] at h1
    obtain ⟨⟨rfl, rfl⟩, rfl⟩ := h1
    have e2 : cap * size = size + (cap - 1) * size := by rw [Nat.sub_mul]; have := Nat.le_mul_of_pos_left size (Nat.lt_of_lt_of_le hn h3); omega
    right
    refine ⟨g, off + size, cap - 1, cur, rfl, h2, by omega, by omega, by omega, ?_⟩
    rw [← h6, e1, List.drop_take, List.drop_drop]
    congr 1
    omega
end
section
variable {P : Program} {w : World} {t e : TypeId} {z : Value} {size bytes : Nat}
theorem g_app (E : Elem P t e z size bytes) (ty : TypeId) {v : Value} {n : Nat} {xs : List Value} (hown : GOwn w e size v n xs)
    {A : Option Addr} (m c : Nat) {news : List Value} (hr : Rd w A news) (hl : news.length = m * size) (h1 : ∀ u ∈ news, u.oneCell' = true)
    (hbytes : (n + m) * bytes ≤ 140737488355328) (h63 : n + m ≤ maxLen) :
    ∃ v' w', (Builtin.append_ #[t, t] ty #[v, .slice A m c]).run P w = .ok v' w' ∧ GOwn w' e size v' (n + m) (xs ++ news) ∧ w.grownBy w' v.ownBlock ∧
      (∀ g, v'.ownBlock = some g → v.ownBlock = some g ∨ w.heap.size ≤ g) := by
  obtain ⟨i, hi, hz, hs, hby⟩ := E.hi
  rcases hown.2 with ⟨h0, hn0⟩ | ⟨g, off, cap, cur, rfl, hg, hnc, hcm, hcs, htake⟩
  · subst h0
    subst hn0
    have hx : xs = [] := List.eq_nil_of_length_eq_zero (by simpa using hown.1)
    subst hx
    obtain ⟨v', w', hrun, ho, hgr, hat⟩ := app_own E ty (World.ownsRow_nil w w.heap.size e size) m c hr hl h1 hbytes h63 (Nat.le_refl _)
    refine ⟨v', w', hrun, GOwn.of_own ho, hgr, fun g hg => ?_⟩
    exact .inr (ho.lt g hg).1
  · by_cases hm0 : m = 0 ∧ A = none
    · obtain ⟨rfl, rfl⟩ := hm0
      have hne : news = [] := List.eq_nil_of_length_eq_zero (by simpa using hl)
      subst hne
      refine ⟨.slice (some ⟨g, off, none⟩) n cap, w, ?_, by simpa using hown, ⟨rfl, rfl, rfl, Nat.le_refl _, fun _ _ _ => rfl⟩, fun g' hg' => .inl hg'⟩
      simp [Builtin.append_, run_underlying E.ht, sizeOf, typeInfo, hi, Builtin.lenOf, Builtin.firstCells, hnc, storeCells]
    · obtain ⟨a, rfl, hc⟩ : ∃ a : Addr, A = some a ∧ ∀ j u, news[j]? = some u → w.cell? (a.add j) = some u := by
        rcases hr with hr | ⟨b, o, hA, _, hc⟩
        · subst hr
          cases A with
          | some a => exact ⟨a, rfl, fun j u hu => by simp at hu⟩
          | none =>
            exfalso
            apply hm0
            refine ⟨?_, rfl⟩
            rcases Nat.eq_zero_or_pos m with h | h
            · exact h
            · have := Nat.mul_pos h E.hsz
              simp at hl
              omega
        · exact ⟨_, hA, fun j u hu => by rw [Addr.add_lit]; exact hc j u hu⟩
      by_cases hfit : n + m ≤ cap
      · have hle : (n + m) * size ≤ cap * size := Nat.mul_le_mul_right _ hfit
        have hsplit : (n + m) * size = n * size + m * size := Nat.add_mul _ _ _
        have hf := run_firstCells_some (P := P) w size m a m c news hl hc
        have hst := run_storeCells_at P g (off + n * size) e news 0 cur w hg (by omega) h1
        simp only [Nat.add_zero] at hst
        have hrun : (Builtin.append_ #[t, t] ty #[.slice (some ⟨g, off, none⟩) n cap, .slice (some a) m c]).run P w = .ok (.slice (some ⟨g, off, none⟩) (n + m) cap) (w.setRow g (cur.toList.take (off + n * size) ++ news ++ cur.toList.drop (off + n * size + news.length)).toArray) := by
          simp [Builtin.append_, run_underlying E.ht, sizeOf, typeInfo, hi, hs, Builtin.lenOf, hfit, hf, Addr.add_lit, hst]
        refine ⟨_, _, hrun, ⟨by rw [List.length_append, hown.1, hl, hsplit], .inr ⟨g, off, cap, _, rfl, setRow_heap w g cur _ e _ hg, hfit, hcm, ?_, ?_⟩⟩, ⟨rfl, rfl, rfl, by simp, fun k _ hk => setRow_other w g k _ (fun e => hk (by simp [Value.ownBlock, e]))⟩, fun g' hg' => .inl hg'⟩
        · simp only [List.size_toArray, List.length_append, List.length_take, List.length_drop, Array.length_toList]
          omega
        · have hxl := hown.1
          have hol : off ≤ (cur.toList.take (off + n * size)).length := by rw [List.length_take, Array.length_toList]; omega
          rw [List.append_assoc, List.drop_append_of_le_length hol, List.drop_take, show off + n * size - off = n * size by omega, htake, ← List.append_assoc]
          exact List.take_left' (by rw [List.length_append, hxl, hl, hsplit])
      · obtain ⟨v', w', hrun, ho, hgr⟩ := run_append_arg_grows (P := P) w t ty e i z size bytes E.ht hi hz hs hby E.hzs E.hsz ⟨g, off, none⟩ n cap xs hown.1 (fun j u hu => by rw [Addr.add_lit]; exact hown.cells j u hu) a m c news hl hc (by omega) h63 hbytes
        refine ⟨v', w', hrun, GOwn.of_own ho, ⟨hgr.os, hgr.tape, hgr.output, hgr.size, fun k hk _ => hgr.block k hk (by simp)⟩, fun g' hg' => .inr (ho.lt g' hg').1⟩
end
end Go.Proofs.Ytpcmfbdlfjlobaa

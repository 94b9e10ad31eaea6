/- Small laws that the walks of this seat share: blocks known whole, slices that read as lists, append on a row of the call's own. -/
import Derived.Test.YtpcmfbdlfjlobaaProg
import Derived.WalkKit
import Derived.WalkSpells
import Derived.WalkLawsBesides
import Derived.Deep.QuietTactic
import Derived.BigQuiet
import Derived.StillTailTactics
import Derived.Laws.Tables
import Derived.Laws.CopyOwn
import Derived.Laws.NewBlocks
import Derived.Maps.AppendAt
import Derived.Lib.Hide
import Derived.IntWalk
import Derived.Outline
namespace Go.Proofs.Ytpcmfbdlfjlobaa
open Go.RowKit
section
variable {P : Program}
/-- The kit's law, with the world behind the draw under its own name. -/
theorem still_tail {id : Nat} {Q : Exit → Act → World → Prop} {a : Act} {w : World} {l : List Oper} (n : Nat) (hm : P.follows .mixedOrders = true) (hB : Region.lexTailB .any l.toArray n = true)
    (h : wpStill P l.toArray w.drew (fun a' => wpList P l.toArray Q (l.drop n) a' w.drew) (l.take n) a) : (Code.region id l.toArray true).wp P Q a w :=
  wp_region_still_tail n hm hB h
theorem still_lit {id : Nat} {Q : Exit → Act → World → Prop} {a : Act} {w : World} {l : List Oper} (hm : P.follows .mixedOrders = true) (hB : Region.lexB .any l.toArray = true)
    (h : wpStill P l.toArray w.drew (fun a' => Q .normal a' w.drew) l a) : (Code.region id l.toArray true).wp P Q a w :=
  wp_region_still_lit hm hB h
/-- The kit's law for a struct or array that is built, with its cells named. -/
theorem build_as {ops : Array Oper} {rest : List Oper} {o : Oper} {a : Act} {w : World} {Q : Exit → Act → World → Prop} (hg : o.guard = none) (t : TypeId) (parts : Array (Nat × Operand)) (ho : o.op = .build t parts)
    (cells : Array Value) (hf : P.built t (parts.map fun (i, x) => (i, a.eval x)).toList = some cells)
    (h : wpList P ops Q rest (a.put o.dst (.agg cells)) w) : wpList P ops Q (o :: rest) a w :=
  wpList_build hg t parts ho (by rw [hf]; rfl) (by rw [hf]; exact h)
/-- An append whose run is known. -/
theorem wpl_append {ops : Array Oper} {rest : List Oper} {o : Oper} {a : Act} {w w' : World} {Q : Exit → Act → World → Prop} {v' : Value} (hg : o.guard = none) (s x : Operand) (t u : TypeId)
    (ho : o.op = .call { callee := .builtin .append, args := #[s, x], argTypes := #[t, u] }) (v vx : Value) (hs : a.eval s = v) (hx : a.eval x = vx)
    (hrun : (Builtin.append_ #[t, u] o.type #[v, vx]).run P w = .ok v' w') (h : wpList P ops Q rest (a.put o.dst v') w') : wpList P ops Q (o :: rest) a w :=
  wpList_plain hg fun K hK => by
    unfold Oper.wp execOp
    simp only [ho, resolve, invoke, builtin, Sem.run_bind, Sem.run_pure, Result.andThen_ok, List.map_toArray, List.map_cons, List.map_nil, hs, hx, hrun]
    exact hK _ _ h
end
/-- Block g is just the cells cs. -/
def Blk (w : World) (g : Nat) (t : TypeId) (cs : List Value) : Prop := w.heap[g]? = some (.cells cs.toArray t (0, 0))
section
variable {w w' : World} {g : Nat} {t : TypeId} {cs : List Value}
theorem Blk.cell (h : Blk w g t cs) (i : Nat) : w.cell? ⟨g, i, none⟩ = cs[i]? := by
  unfold Blk at h
  simp [World.cell?, h]
theorem Blk.frozen (h : Blk w g t cs) (i : Nat) : w.frozen? ⟨g, i, none⟩ = false := by
  unfold Blk at h
  simp [World.frozen?, h]
theorem Blk.lt (h : Blk w g t cs) : g < w.heap.size := by
  rcases Nat.lt_or_ge g w.heap.size with hlt | hge
  · exact hlt
  · unfold Blk at h; rw [Array.getElem?_eq_none hge] at h; cases h
theorem Blk.set_ (h : Blk w g t cs) (i : Nat) (u : Value) : Blk (w.setCell ⟨g, i, none⟩ u) g t (cs.set i u) := by
  unfold Blk at h ⊢
  simp [World.setCell, Array.getElem?_modify, h]
theorem Blk.drew (h : Blk w g t cs) : Blk w.drew g t cs := h
theorem Blk.drewN (h : Blk w g t cs) (n : Nat) : Blk (w.drewN n) g t cs := h
theorem Blk.new (w : World) (t : TypeId) (cs : List Value) : Blk (w.alloc (.cells cs.toArray t)) w.heap.size t cs := heap_alloc_new w _
theorem Blk.alloc (h : Blk w g t cs) (o : Obj) : Blk (w.alloc o) g t cs := (Below.heap_alloc w o g h.lt).trans h
theorem Blk.far (h : Blk w g t cs) {p : Addr} (hp : g ≠ p.block) (u : Value) : Blk (w.setCell p u) g t cs := (Below.heap_setCell w p u g hp).trans h
theorem Blk.below {B : Nat} (h : Blk w g t cs) (hb : Below B w w') (hg : g < B) : Blk w' g t cs := (hb.block g hg).trans h
theorem Blk.grown {row : Option Nat} (h : Blk w g t cs) (hb : w.grownBy w' row) (hg : some g ≠ row) : Blk w' g t cs := (hb.block g h.lt hg).trans h
theorem Blk.new2 (w : World) (o : Obj) (cs : List Value) (t : TypeId) : Blk ((w.alloc o).alloc (.cells cs.toArray t)) (w.heap.size + 1) t cs := by
  have h := heap_alloc_new (w.alloc o) (.cells cs.toArray t)
  rw [show (w.alloc o).heap.size = w.heap.size + 1 by simp] at h
  exact h
theorem Blk.eq_of {t' : TypeId} {cs' : List Value} (h : Blk w g t cs) (h' : Blk w g t' cs') : t = t' ∧ cs = cs' := by
  unfold Blk at h h'
  rw [h] at h'
  injection h' with h'
  injection h' with h1 h2
  exact ⟨h2, by simpa using h1⟩
end
/-- A store of a whole struct or array into a block of its own. -/
theorem wpl_store_blk {P : Program} {ops : Array Oper} {rest : List Oper} {o : Oper} {a : Act} {w : World} {Q : Exit → Act → World → Prop} (hgd : o.guard = none) (ty : TypeId) (x y : Operand) (ho : o.op = .store ty x y)
    (g : Nat) (t : TypeId) (old cs : List Value) (hg : Blk w g t old) (hx : a.eval x = .pointer (some ⟨g, 0, none⟩)) (hy : a.eval y = .agg cs.toArray)
    (hi : (P.info? ty).map (·.size) = some cs.length) (hold : old.length = cs.length) (h1 : ∀ u ∈ cs, u.oneCell' = true)
    (h : ∀ w', Blk w' g t cs → w.grownBy w' (some g) → w'.heap.size = w.heap.size → wpList P ops Q rest (a.put o.dst undef) w') : wpList P ops Q (o :: rest) a w :=
  wpList_store_row hgd ty x y ho g cs.toArray hx hy t old.toArray hg (by simpa using hi) (by simpa using hold) (by simpa using h1)
    (h _ (setRow_heap _ _ _ _ _ _ hg) ⟨rfl, rfl, rfl, by simp, fun k _ hk => setRow_other w g k _ (fun e => hk (by simp [e]))⟩ (by simp))
/-- A slice at A whose cells are xs (nothing is said of A where xs is empty). -/
def Rd (w : World) (A : Option Addr) (xs : List Value) : Prop :=
  xs = [] ∨ ∃ b off, A = some ⟨b, off, none⟩ ∧ b < w.heap.size ∧ ∀ j u, xs[j]? = some u → w.cell? ⟨b, off + j, none⟩ = some u
section
variable {w w' : World} {A : Option Addr} {xs : List Value}
theorem Rd.nil (w : World) (A : Option Addr) : Rd w A [] := .inl rfl
theorem Rd.at (h : Rd w A xs) {j : Nat} (hj : j < xs.length) : ∃ b off, A = some ⟨b, off, none⟩ ∧ b < w.heap.size ∧ ∀ j u, xs[j]? = some u → w.cell? ⟨b, off + j, none⟩ = some u := by
  rcases h with rfl | h
  · simp at hj
  · exact h
theorem Rd.keep (h : Rd w A xs) (hz : w.heap.size ≤ w'.heap.size) (hk : ∀ b, b < w.heap.size → w'.heap[b]? = w.heap[b]?) : Rd w' A xs := by
  rcases h with h | ⟨b, off, e, hb, hc⟩
  · exact .inl h
  · exact .inr ⟨b, off, e, by omega, fun j u hu => (World.cell?_of_block (w := w) (w' := w') (a := ⟨b, off + j, none⟩) (hk b hb)).trans (hc j u hu)⟩
theorem Rd.below (h : Rd w A xs) (hb : Below w.heap.size w w') : Rd w' A xs := h.keep hb.size hb.block
theorem Rd.belowB {B : Nat} (h : Rd w A xs) (hb : Below B w w') (hB : ∀ b off, A = some ⟨b, off, none⟩ → b < B) : Rd w' A xs := by
  rcases h with h | ⟨b, off, e, hlt, hc⟩
  · exact .inl h
  · exact .inr ⟨b, off, e, Nat.lt_of_lt_of_le hlt hb.size, fun j u hu => (hb.cell (p := ⟨b, off + j, none⟩) (hB _ _ e)).trans (hc j u hu)⟩
theorem Rd.drew (h : Rd w A xs) : Rd w.drew A xs := h
theorem Rd.alloc (h : Rd w A xs) (o : Obj) : Rd (w.alloc o) A xs := h.keep (by simp) fun b hb => Below.heap_alloc w o b hb
theorem Rd.take (h : Rd w A xs) (n : Nat) : Rd w A (xs.take n) := by
  rcases h with rfl | ⟨b, off, e, hlt, hc⟩
  · left; simp
  · right
    refine ⟨b, off, e, hlt, fun j u hu => hc j u ?_⟩
    rw [List.getElem?_take] at hu
    split at hu
    · exact hu
    · cases hu
theorem Rd.drop (h : Rd w A xs) {n : Nat} {A' : Option Addr} (hA : n < xs.length → ∀ b off, A = some ⟨b, off, none⟩ → A' = some ⟨b, off + n, none⟩) : Rd w A' (xs.drop n) := by
  by_cases hn : n < xs.length
  · obtain ⟨b, off, e, hlt, hc⟩ := h.at hn
    right
    refine ⟨b, off + n, hA hn b off e, hlt, fun j u hu => ?_⟩
    rw [List.getElem?_drop] at hu
    rw [Nat.add_assoc]
    exact hc _ u hu
  · left; exact List.drop_eq_nil_of_le (by omega)
theorem Rd.of_blk {g : Nat} {t : TypeId} {cs : List Value} (h : Blk w g t cs) (off : Nat) : Rd w (some ⟨g, off, none⟩) (cs.drop off) :=
  .inr ⟨g, off, rfl, h.lt, fun j u hu => by rw [h.cell, ← List.getElem?_drop]; exact hu⟩
theorem Rd.of_own {base : Nat} {e : TypeId} {size n cap : Nat} (h : w.ownsRow base e size (.slice A n cap) n xs) : Rd w A xs := by
  rcases h.2 with ⟨h1, h2⟩ | ⟨g, cap', cur, hv, hb, hh, _, _, _, hx⟩
  · left
    subst h2
    exact List.eq_nil_of_length_eq_zero (by rw [h.1]; simp)
  · right
    obtain ⟨hA, _⟩ : A = some ⟨g, 0, none⟩ ∧ True := by injection hv with h1; exact ⟨h1, trivial⟩
    refine ⟨g, 0, hA, ?_, fun j u hu => ?_⟩
    · rcases Nat.lt_or_ge g w.heap.size with hlt | hge
      · exact hlt
      · rw [Array.getElem?_eq_none hge] at hh; cases hh
    · have := h.cells (g := g) (by subst hA; rfl) j u hu
      simpa [Addr.add_lit] using this
end
/-- What is asked of a slice's type, once. -/
structure Elem (P : Program) (t e : TypeId) (z : Value) (size bytes : Nat) : Prop where
  ht : P.underlying t = some (.slice e)
  hi : ∃ i, P.info? e = some i ∧ i.zero = some z ∧ i.size = size ∧ i.bytes = bytes
  hzs : z.cells.size = size
  hsz : 0 < size
theorem Elem.mk_ {P : Program} {t e : TypeId} {z : Value} {size bytes : Nat} (ht : P.underlying t = some (.slice e)) (hi : (P.info? e).map (fun i => (i.zero, i.size, i.bytes)) = some (some z, size, bytes)) (hzs : z.cells.size = size) (hsz : 0 < size) :
    Elem P t e z size bytes := by
  refine ⟨ht, ?_, hzs, hsz⟩
  cases h : P.info? e with
  | none => simp [h] at hi
  | some i =>
    simp [h] at hi
    exact ⟨i, rfl, hi.1, hi.2.1, hi.2.2⟩
section
variable {P : Program} {w : World} {t e : TypeId} {z : Value} {size bytes : Nat}
theorem app_own (E : Elem P t e z size bytes) (ty : TypeId) {base : Nat} {v : Value} {n : Nat} {xs : List Value} (hown : w.ownsRow base e size v n xs)
    {A : Option Addr} (m c : Nat) {news : List Value} (hr : Rd w A news) (hl : news.length = m * size) (h1 : ∀ u ∈ news, u.oneCell' = true)
    (hbytes : (n + m) * bytes ≤ 140737488355328) (h63 : n + m ≤ maxLen) (hbase : base ≤ w.heap.size) :
    ∃ v' w', (Builtin.append_ #[t, t] ty #[v, .slice A m c]).run P w = .ok v' w' ∧ w'.ownsRow base e size v' (n + m) (xs ++ news) ∧ w.grownBy w' v.ownBlock ∧
      (v'.ownBlock = v.ownBlock ∨ v'.ownBlock = some w.heap.size) := by
  obtain ⟨i, hi, hz, hs, hb⟩ := E.hi
  have some_ : ∀ a : Addr, A = some a → (∀ j u, news[j]? = some u → w.cell? (a.add j) = some u) → ∃ v' w', (Builtin.append_ #[t, t] ty #[v, .slice A m c]).run P w = .ok v' w' ∧ w'.ownsRow base e size v' (n + m) (xs ++ news) ∧ w.grownBy w' v.ownBlock ∧
      (v'.ownBlock = v.ownBlock ∨ v'.ownBlock = some w.heap.size) := fun a hA hc => by
    subst hA
    obtain ⟨v', w', h2, h3, h4, _, h6⟩ := run_append_own_at (P := P) w base t ty e i z size bytes E.ht hi hz hs hb E.hzs E.hsz v n xs hown a m c news hl hc h1 h63 hbytes hbase
    exact ⟨v', w', h2, h3, h4, h6⟩
  rcases hr with rfl | ⟨b, off, hA, _, hc⟩
  · cases A with
    | some a => exact some_ a rfl (fun j u hu => by simp at hu)
    | none =>
      have hm : m = 0 := by
        rcases Nat.eq_zero_or_pos m with h | h
        · exact h
        · have := Nat.mul_pos h E.hsz
          simp at hl
          omega
      subst hm
      refine ⟨v, w, ?_, by simpa using hown, ⟨rfl, rfl, rfl, Nat.le_refl _, fun _ _ _ => rfl⟩, .inl rfl⟩
      rcases hown.2 with ⟨rfl, rfl⟩ | ⟨g, cap, cur, rfl, _, _, hnc, _⟩
      · simp [Builtin.append_, run_underlying E.ht, sizeOf, typeInfo, hi, Builtin.lenOf, Builtin.firstCells]
      · simp [Builtin.append_, run_underlying E.ht, sizeOf, typeInfo, hi, Builtin.lenOf, Builtin.firstCells, hnc, storeCells]
  · exact some_ _ hA (fun j u hu => by rw [Addr.add_lit]; exact hc j u hu)
/-- append within the capacity. -/
theorem app_fits (E : Elem P t e z size bytes) (ty : TypeId) {base g n cap : Nat} {xs : List Value} (hown : w.ownsRow base e size (.slice (some ⟨g, 0, none⟩) n cap) n xs)
    {A : Option Addr} (m c : Nat) {news : List Value} (hr : Rd w A news) (hl : news.length = m * size) (h1 : ∀ u ∈ news, u.oneCell' = true) (hfit : n + m ≤ cap) :
    ∃ w', (Builtin.append_ #[t, t] ty #[.slice (some ⟨g, 0, none⟩) n cap, .slice A m c]).run P w = .ok (.slice (some ⟨g, 0, none⟩) (n + m) cap) w' ∧
      w'.ownsRow base e size (.slice (some ⟨g, 0, none⟩) (n + m) cap) (n + m) (xs ++ news) ∧ w.grownBy w' (some g) := by
  obtain ⟨i, hi, _, hs, _⟩ := E.hi
  have some_ : ∀ a : Addr, A = some a → (∀ j u, news[j]? = some u → w.cell? (a.add j) = some u) → ∃ w', (Builtin.append_ #[t, t] ty #[.slice (some ⟨g, 0, none⟩) n cap, .slice A m c]).run P w = .ok (.slice (some ⟨g, 0, none⟩) (n + m) cap) w' ∧
      w'.ownsRow base e size (.slice (some ⟨g, 0, none⟩) (n + m) cap) (n + m) (xs ++ news) ∧ w.grownBy w' (some g) := fun a hA hc => by
    subst hA
    exact run_append_fits (P := P) w base t ty e i size E.ht hi hs g n cap xs hown a m c news hl hc h1 hfit
  rcases hr with rfl | ⟨b, off, hA, _, hc⟩
  · cases A with
    | some a => exact some_ a rfl (fun j u hu => by simp at hu)
    | none =>
      have hm : m = 0 := by
        rcases Nat.eq_zero_or_pos m with h | h
        · exact h
        · have := Nat.mul_pos h E.hsz
          simp at hl
          omega
      subst hm
      refine ⟨w, ?_, by simpa using hown, ⟨rfl, rfl, rfl, Nat.le_refl _, fun _ _ _ => rfl⟩⟩
      have hnc : n ≤ cap := by omega
      simp [Builtin.append_, run_underlying E.ht, sizeOf, typeInfo, hi, Builtin.lenOf, Builtin.firstCells, hnc, storeCells]
  · exact some_ _ hA (fun j u hu => by rw [Addr.add_lit]; exact hc j u hu)
/-- append(s, make([]T, m)...) that fits. -/
theorem app_zeros (E : Elem P t e z size bytes) (hone : z.cells = #[z]) (h1 : z.oneCell' = true) (hzv : ∀ w', (zeroValue e).run P w' = .ok z w') (u ty : TypeId) (hu : P.underlying u = some (.int .i64)) {base g n cap : Nat} {xs : List Value}
    (hown : w.ownsRow base e 1 (.slice (some ⟨g, 0, none⟩) n cap) n xs) (hs1 : size = 1) (m : Nat) (hfit : n + m ≤ cap) (hb : m * bytes ≤ 281474976710656) (hm : m ≤ 9223372036854775807) :
    ∃ w', (Builtin.append_ #[t, u] ty #[.slice (some ⟨g, 0, none⟩) n cap, .int .i64 m]).run P w = .ok (.slice (some ⟨g, 0, none⟩) (n + m) cap) w' ∧
      w'.ownsRow base e 1 (.slice (some ⟨g, 0, none⟩) (n + m) cap) (n + m) (xs ++ List.replicate m z) ∧ w.grownBy w' (some g) := by
  obtain ⟨i, hi, hz, hs, hby⟩ := E.hi
  subst hs1
  have hw : IntKind.i64.wrap (m : Int) = m := IntWalk.i64_in _ (by omega)
  rcases hown.2 with ⟨h, _⟩ | ⟨g', cap', cur, h, hbg, hg, hnc, hcm, hcs, htake⟩
  · simp at h
  · simp only [Value.slice.injEq, Option.some.injEq, Addr.mk.injEq, and_true, true_and] at h
    obtain ⟨rfl, rfl⟩ := h
    have hzc : (Builtin.zeroCells z.cells m).toList = List.replicate m z := by
      rw [hone]
      apply List.ext_getElem
      · simp [Builtin.zeroCells]
      · intro j h1 h2
        have hj : j % 1 = 0 := Nat.mod_one j
        simp [Builtin.zeroCells, hj]
    have hst := run_storeCells_at P g n e (List.replicate m z) 0 cur w hg (by simp; omega) (fun v hv => by rw [List.eq_of_mem_replicate hv]; exact h1)
    simp only [Nat.add_zero, List.length_replicate] at hst
    have hnb : (m : Int) * (i.bytes : Int) ≤ 281474976710656 := by
      rw [hby, ← Int.natCast_mul]
      omega
    have hnl : ¬ ((m : Int) < 0) := by omega
    have hrun : (Builtin.append_ #[t, u] ty #[.slice (some ⟨g, 0, none⟩) n cap, .int .i64 m]).run P w = .ok (.slice (some ⟨g, 0, none⟩) (n + m) cap) (w.setRow g (cur.toList.take n ++ List.replicate m z ++ cur.toList.drop (n + m)).toArray) := by
      by_cases hm0 : m = 0
      · subst hm0
        have hself : w.setRow g (cur.toList.take n ++ List.replicate 0 z ++ cur.toList.drop (n + 0)).toArray = w := by
          simp only [List.replicate_zero, List.append_nil, Nat.add_zero, List.take_append_drop, Array.toArray_toList]
          exact setRow_self w g cur e (0, 0) hg
        rw [hself]
        simp [Builtin.append_, run_underlying E.ht, run_underlying hu, sizeOf, typeInfo, hi, asInt, asIntOf, hnc, storeCells, IntKind.wrap, IntKind.bits]
      · simp [Builtin.append_, run_underlying E.ht, run_underlying hu, sizeOf, typeInfo, hi, asInt, asIntOf, hs, hw, hnl, hfit, hm0, hzv, hzc, Addr.add_lit, hst]
        intro hbig
        omega
    refine ⟨_, hrun, ⟨by simp [hown.1], .inr ⟨g, cap, _, rfl, hbg, setRow_heap w g cur _ e _ hg, hfit, hcm, ?_, ?_⟩⟩, ⟨rfl, rfl, rfl, by simp, fun k _ hk => setRow_other w g k _ (fun e => hk (by simp [e]))⟩⟩
    · simp only [List.size_toArray, List.length_append, List.length_take, List.length_drop, Array.length_toList, List.length_replicate]
      omega
    · have hx : cur.toList.take n = xs := by simpa using htake
      have hl : xs.length = n := by simpa using hown.1
      rw [hx, Nat.mul_one]
      exact List.take_left' (by simp [hl])
end
end Go.Proofs.Ytpcmfbdlfjlobaa

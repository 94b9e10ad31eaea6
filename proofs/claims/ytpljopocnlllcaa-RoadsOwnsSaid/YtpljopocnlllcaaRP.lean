/- How a world of packets lies in memory, the program's and the reference's alike. -/
import Derived.Test.YtpljopocnlllcaaGO
import Derived.Test.YtpljopocnlllcaaTK
namespace Go.Proofs.Ytpljopocnlllcaa
open Go.RowKit
def Kept (F : Nat → Prop) (w w' : World) : Prop := w'.os = w.os ∧ w'.tape = w.tape ∧ w'.output = w.output ∧ w.heap.size ≤ w'.heap.size ∧ ∀ k, k < w.heap.size → ¬ F k → w'.heap[k]? = w.heap[k]?
def Grew (F F' : Nat → Prop) (w : World) : Prop := ∀ k, F' k → F k ∨ w.heap.size ≤ k
section
variable {F F' G : Nat → Prop} {w w' w'' : World}
theorem Kept.refl (F : Nat → Prop) (w : World) : Kept F w w := ⟨rfl, rfl, rfl, Nat.le_refl _, fun _ _ _ => rfl⟩
theorem Kept.size (h : Kept F w w') : w.heap.size ≤ w'.heap.size := h.2.2.2.1
theorem Kept.block (h : Kept F w w') {k : Nat} (hk : k < w.heap.size) (hF : ¬ F k) : w'.heap[k]? = w.heap[k]? := h.2.2.2.2 k hk hF
theorem Kept.of_below (F : Nat → Prop) (h : Below w.heap.size w w') : Kept F w w' := ⟨h.os, h.tape, h.output, h.size, fun k hk _ => h.block k hk⟩
theorem Kept.trans (h : Kept F w w') (g : Grew F F' w) (h2 : Kept F' w' w'') : Kept F w w'' := by
  refine ⟨h2.1.trans h.1, h2.2.1.trans h.2.1, h2.2.2.1.trans h.2.2.1, Nat.le_trans h.size h2.size, fun k hk hF => ?_⟩
  exact (h2.block (Nat.lt_of_lt_of_le hk h.size) (fun hF' => by rcases g k hF' with h | h; exact hF h; omega)).trans (h.block hk hF)
theorem Kept.mono (h : Kept F w w') (hg : ∀ k, F k → G k) : Kept G w w' := ⟨h.1, h.2.1, h.2.2.1, h.size, fun k hk hG => h.block hk (fun hF => hG (hg k hF))⟩
theorem Kept.below (h : Kept F w w') {B : Nat} (hB : ∀ k, F k → B ≤ k) (hw : B ≤ w.heap.size) : Below B w w' := ⟨h.1, h.2.1, h.2.2.1, h.size, fun k hk => h.block (Nat.lt_of_lt_of_le hk hw) (fun hF => by have := hB k hF; omega)⟩
theorem Kept.set (h : Kept F w w') {p : Addr} (hp : F p.block ∨ w.heap.size ≤ p.block) (u : Value) : Kept F w (w'.setCell p u) := by
  refine ⟨h.1, h.2.1, h.2.2.1, by have := h.size; simpa using this, fun k hk hF => ?_⟩
  refine (Below.heap_setCell w' p u k (fun e => ?_)).trans (h.block hk hF)
  subst e
  rcases hp with hp | hp
  · exact hF hp
  · omega
theorem Kept.alloc (h : Kept F w w') (o : Obj) : Kept F w (w'.alloc o) := ⟨h.1, h.2.1, h.2.2.1, by have := h.size; simp; omega, fun k hk hF => (Below.heap_alloc w' o k (Nat.lt_of_lt_of_le hk h.size)).trans (h.block hk hF)⟩
theorem Kept.drew (h : Kept F w w') : Kept F w w'.drew := h
theorem Kept.drewN (h : Kept F w w') (n : Nat) : Kept F w (w'.drewN n) := h
theorem Kept.grown (h : Kept F w w') {row : Option Nat} (hg : w'.grownBy w'' row) (hr : ∀ k, row = some k → F k ∨ w.heap.size ≤ k) : Kept F w w'' := by
  refine ⟨hg.os.trans h.1, hg.tape.trans h.2.1, hg.output.trans h.2.2.1, Nat.le_trans h.size hg.size, fun k hk hF => ?_⟩
  refine (hg.block k (Nat.lt_of_lt_of_le hk h.size) (fun e => ?_)).trans (h.block hk hF)
  rcases hr k e.symm with h1 | h1
  · exact hF h1
  · omega
theorem Grew.refl (F : Nat → Prop) (w : World) : Grew F F w := fun _ h => .inl h
theorem Grew.trans {F'' : Nat → Prop} (h : Grew F F' w) (h2 : Grew F' F'' w') (hz : w.heap.size ≤ w'.heap.size) : Grew F F'' w := fun k hk => by
  rcases h2 k hk with h3 | h3
  · exact h k h3
  · exact .inr (Nat.le_trans hz h3)
theorem Rd.kept {A : Option Addr} {xs : List Value} (h : Rd w A xs) (hk : Kept F w w') (hA : ∀ a, A = some a → ¬ F a.block) : Rd w' A xs := by
  rcases h with h | ⟨b, off, e, hlt, hc⟩
  · exact .inl h
  · exact .inr ⟨b, off, e, Nat.lt_of_lt_of_le hlt hk.size, fun j u hu => (World.cell?_of_block (w := w) (a := ⟨b, off + j, none⟩) (hk.block hlt (hA ⟨b, off, none⟩ e))).trans (hc j u hu)⟩
theorem Rd.at_blocks {A : Option Addr} {xs : List Value} (h : Rd w A xs) (hz : w.heap.size ≤ w'.heap.size) (hk : ∀ a, A = some a → a.block < w.heap.size → w'.heap[a.block]? = w.heap[a.block]?) : Rd w' A xs := by
  rcases h with h | ⟨b, off, e, hlt, hc⟩
  · exact .inl h
  · exact .inr ⟨b, off, e, Nat.lt_of_lt_of_le hlt hz, fun j u hu => (World.cell?_of_block (w := w) (a := ⟨b, off + j, none⟩) (hk ⟨b, off, none⟩ e hlt)).trans (hc j u hu)⟩
end
/-- A packet as it lies. -/
structure Pk where
  to : Int
  a : Option Addr
  bs : List UInt8
  c : Nat
def Pk.cells (p : Pk) : List Value := [.int .i64 p.to, .slice p.a p.bs.length p.c]
def pcells (ps : List Pk) : List Value := ps.flatMap Pk.cells
structure Pk.ok (w : World) (p : Pk) : Prop where
  rd : Rd w p.a (bvals p.bs)
  len : p.bs.length ≤ p.c
  cap : p.c ≤ maxLen
def Pk.blk (p : Pk) : Option Nat := p.a.map (·.block)
def Pk.pair (p : Pk) : Int × List UInt8 := (p.to, p.bs)
def ivals (l : List Int) : List Value := l.map (Value.int .i64)
theorem ivals_length (l : List Int) : (ivals l).length = l.length := by simp [ivals]
theorem ivals_at (l : List Int) (j : Nat) (h : j < l.length) : (ivals l)[j]? = some (.int .i64 (l.getD j 0)) := by simp [ivals, h]
theorem ivals_append (a b : List Int) : ivals (a ++ b) = ivals a ++ ivals b := by simp [ivals]
theorem ivals_one (l : List Int) : ∀ u ∈ ivals l, u.oneCell' = true := by
  intro u hu
  obtain ⟨b, _, rfl⟩ := List.mem_map.1 hu
  rfl
theorem pcells_length (ps : List Pk) : (pcells ps).length = ps.length * 2 := by
  induction ps with
  | nil => rfl
  | cons p ps ih => simp [pcells, Pk.cells] at *; omega
theorem pcells_append (a b : List Pk) : pcells (a ++ b) = pcells a ++ pcells b := by simp [pcells]
theorem pcells_one (l : List Pk) : ∀ u ∈ pcells l, u.oneCell' = true := by
  intro u hu
  obtain ⟨p, _, hp⟩ := List.mem_flatMap.1 hu
  simp only [Pk.cells, List.mem_cons, List.not_mem_nil, or_false] at hp
  rcases hp with rfl | rfl <;> rfl
theorem pcells_take (l : List Pk) (k : Nat) : (pcells l).take (k * 2) = pcells (l.take k) := by
  induction l generalizing k with
  | nil => simp [pcells]
  | cons p l ih =>
    cases k with
    | zero => simp [pcells]
    | succ k =>
      have := ih k
      simp only [pcells, List.flatMap_cons, Pk.cells, List.take_succ_cons, List.cons_append, List.nil_append] at *
      rw [show (k + 1) * 2 = k * 2 + 1 + 1 by omega, List.take_succ_cons, List.take_succ_cons, this]
theorem pcells_drop (l : List Pk) (k : Nat) : (pcells l).drop (k * 2) = pcells (l.drop k) := by
  induction l generalizing k with
  | nil => simp [pcells]
  | cons p l ih =>
    cases k with
    | zero => simp [pcells]
    | succ k =>
      have := ih k
      simp only [pcells, List.flatMap_cons, Pk.cells, List.drop_succ_cons, List.cons_append, List.nil_append] at *
      rw [show (k + 1) * 2 = k * 2 + 1 + 1 by omega, List.drop_succ_cons, List.drop_succ_cons, this]
theorem pcells_at (l : List Pk) (k : Nat) (h : k < l.length) : (pcells l)[k * 2]? = some (.int .i64 l[k].to) ∧ (pcells l)[k * 2 + 1]? = some (.slice l[k].a l[k].bs.length l[k].c) := by
  have e : (pcells l).drop (k * 2) = Pk.cells l[k] ++ pcells (l.drop (k + 1)) := by
    rw [pcells_drop, List.drop_eq_getElem_cons h]
    rfl
  have h0 : ((pcells l).drop (k * 2))[0]? = some (.int .i64 l[k].to) := by rw [e]; rfl
  have h1 : ((pcells l).drop (k * 2))[1]? = some (.slice l[k].a l[k].bs.length l[k].c) := by rw [e]; rfl
  rw [List.getElem?_drop] at h0 h1
  exact ⟨h0, h1⟩
structure St where
  time : Int
  clocks : List Int
  ps : List (Int × List UInt8)
structure St.good (s : St) : Prop where
  n0 : 2 ≤ s.clocks.length
  n1 : s.clocks.length ≤ 16
  p1 : s.ps.length ≤ 120
  t0 : 0 ≤ s.time
  t1 : s.time ≤ 4611686018427387904
structure RepW (tw te : TypeId) (w : World) (p : Nat) (s : St) (F : Nat → Prop) (cv kv : Value) (qs : List Pk) : Prop where
  ptr : Blk w p tw [.int .i64 s.time, cv, kv]
  clk : GOwn w 3 1 cv s.clocks.length (ivals s.clocks)
  pks : GOwn w te 2 kv qs.length (pcells qs)
  data : ∀ q ∈ qs, q.ok w
  eq : qs.map Pk.pair = s.ps
  ap1 : cv.ownBlock ≠ some p
  ap2 : kv.ownBlock ≠ some p
  ap3 : ∀ b, cv.ownBlock = some b → kv.ownBlock ≠ some b
  apd : ∀ q ∈ qs, ∀ a, q.a = some a → a.block ≠ p ∧ cv.ownBlock ≠ some a.block ∧ kv.ownBlock ≠ some a.block
  fpp : F p
  fpc : ∀ b, cv.ownBlock = some b → F b
  fpk : ∀ b, kv.ownBlock = some b → F b
  fpd : ∀ q ∈ qs, ∀ a, q.a = some a → F a.block
  lt : ∀ b, F b → b < w.heap.size
def Rep (tw te : TypeId) (w : World) (p : Nat) (s : St) (F : Nat → Prop) : Prop := ∃ cv kv qs, RepW tw te w p s F cv kv qs
section
variable {tw te : TypeId} {w w' : World} {p : Nat} {s : St} {F G : Nat → Prop} {cv kv : Value} {qs : List Pk}
theorem Pk.ok.kept {q : Pk} (h : q.ok w) (hk : Kept G w w') (hA : ∀ a, q.a = some a → ¬ G a.block) : q.ok w' := ⟨h.rd.kept hk hA, h.len, h.cap⟩
theorem RepW.kept (h : RepW tw te w p s F cv kv qs) (hk : Kept G w w') (hd : ∀ k, F k → ¬ G k) : RepW tw te w' p s F cv kv qs :=
  { ptr := (hk.block (h.lt p h.fpp) (hd p h.fpp)).trans h.ptr
    clk := h.clk.keep fun b hb => hk.block (h.lt b (h.fpc b hb)) (hd b (h.fpc b hb))
    pks := h.pks.keep fun b hb => hk.block (h.lt b (h.fpk b hb)) (hd b (h.fpk b hb))
    data := fun q hq => (h.data q hq).kept hk fun a ha => hd _ (h.fpd q hq a ha)
    eq := h.eq, ap1 := h.ap1, ap2 := h.ap2, ap3 := h.ap3, apd := h.apd, fpp := h.fpp, fpc := h.fpc, fpk := h.fpk, fpd := h.fpd
    lt := fun b hb => Nat.lt_of_lt_of_le (h.lt b hb) hk.size }
theorem Rep.kept (h : Rep tw te w p s F) (hk : Kept G w w') (hd : ∀ k, F k → ¬ G k) : Rep tw te w' p s F := by
  obtain ⟨cv, kv, qs, h⟩ := h
  exact ⟨cv, kv, qs, h.kept hk hd⟩
theorem Rep.lt (h : Rep tw te w p s F) : ∀ b, F b → b < w.heap.size := by
  obtain ⟨cv, kv, qs, h⟩ := h
  exact h.lt
theorem RepW.len (h : RepW tw te w p s F cv kv qs) : qs.length = s.ps.length := by rw [← h.eq, List.length_map]
/-- Two structures with nothing in common stay so. -/
theorem apart_grew {F F' G : Nat → Prop} (hd : ∀ k, F k → ¬ G k) (hg : Grew F F' w) (hlt : ∀ k, G k → k < w.heap.size) : ∀ k, F' k → ¬ G k := fun k hk hG => by
  rcases hg k hk with h | h
  · exact hd k h hG
  · have := hlt k hG; omega
end
end Go.Proofs.Ytpljopocnlllcaa

/- Bytes as values; strings out of bytes and bytes out of strings. -/
import Derived.Test.YtpcmfbdlfjlobaaK
import Derived.Laws.IdiomStrings
import Derived.Deep.RegionHeld3
import Derived.Deep.DrawnRows
namespace Go.Proofs.Ytpcmfbdlfjlobaa
open Go.RowKit
/-- An append whose run is known, at a step of a region that draws its order. -/
theorem step_append {P : Program} {ops : Array Oper} {o : Oper} {a : Act} {w w' : World} {K : Act → World → Prop} {Q : Exit → Act → World → Prop} {E : Prop} {v' : Value} (hg : o.guard = none) (s x : Operand) (t u : TypeId)
    (ho : o.op = .call { callee := .builtin .append, args := #[s, x], argTypes := #[t, u] }) (v vx : Value) (hs : a.eval s = v) (hx : a.eval x = vx)
    (hrun : (Builtin.append_ #[t, u] o.type #[v, vx]).run P w = .ok v' w') (h : K (a.put o.dst v') w') : if Region.wanted o (yielded ops a.tmps) = true then Oper.wp P o a w K Q else E := by
  rw [if_pos (by simp [Region.wanted, hg])]
  unfold Oper.wp execOp
  simp only [ho, resolve, invoke, builtin, Sem.run_bind, Sem.run_pure, Result.andThen_ok, List.map_toArray, List.map_cons, List.map_nil, hs, hx, hrun]
  exact h
/-- A byte as a value. -/
def bval (b : UInt8) : Value := .int .u8 (b.toNat : Int)
def bvals (bs : List UInt8) : List Value := bs.map bval
theorem bvals_length (bs : List UInt8) : (bvals bs).length = bs.length := by simp [bvals]
theorem bvals_one (bs : List UInt8) : ∀ u ∈ bvals bs, u.oneCell' = true := by
  intro u hu
  obtain ⟨b, _, rfl⟩ := List.mem_map.1 hu
  rfl
theorem bvals_append (a b : List UInt8) : bvals (a ++ b) = bvals a ++ bvals b := by simp [bvals]
theorem bvals_take (a : List UInt8) (n : Nat) : bvals (a.take n) = (bvals a).take n := by simp [bvals, List.map_take]
theorem bvals_drop (a : List UInt8) (n : Nat) : bvals (a.drop n) = (bvals a).drop n := by simp [bvals, List.map_drop]
theorem bvals_at (bs : List UInt8) (j : Nat) (h : j < bs.length) : (bvals bs)[j]? = some (bval (bs.getD j 0)) := by
  simp [bvals, h]
theorem bvals_some {bs : List UInt8} {j : Nat} {u : Value} (h : (bvals bs)[j]? = some u) : j < bs.length ∧ u = bval (bs.getD j 0) := by
  have hj : j < bs.length := by
    rcases Nat.lt_or_ge j bs.length with h1 | h1
    · exact h1
    · rw [List.getElem?_eq_none (by rw [bvals_length]; exact h1)] at h; cases h
  rw [bvals_at bs j hj] at h
  exact ⟨hj, (Option.some.inj h).symm⟩
theorem wrap_u8 (n : Nat) : IntKind.u8.wrap (n : Int) = ((UInt8.ofNat n).toNat : Int) := by
  simp [IntKind.wrap, IntKind.bits, IntKind.signed]
theorem u8_lt (b : UInt8) : b.toNat < 256 := b.toNat_lt
theorem bval_inj {a b : UInt8} (h : (a.toNat : Int) = (b.toNat : Int)) : a = b := UInt8.toNat_inj.1 (by omega)
theorem Rd.byte {w : World} {A : Option Addr} {bs : List UInt8} (h : Rd w A (bvals bs)) {j : Nat} (hj : j < bs.length) :
    ∃ b off, A = some ⟨b, off, none⟩ ∧ w.cell? ⟨b, off + j, none⟩ = some (.int .u8 ((bs.getD j 0).toNat : Int)) := by
  obtain ⟨b, off, e, _, hc⟩ := h.at (j := j) (by rw [bvals_length]; exact hj)
  exact ⟨b, off, e, hc j _ (bvals_at bs j hj)⟩
/-- 'string(b)'. -/
theorem str_of {P : Program} {w : World} {src dst e : TypeId} (hs : P.underlying src = some (.slice e)) (he : P.underlying e = some (.int .u8)) (hd : P.underlying dst = some .string)
    {A : Option Addr} {n : Nat} (cap : Nat) {l : List UInt8} (hr : Rd w A (bvals l)) (hl : l.length = n) : (convert src dst (.slice A n cap)).run P w = .ok (.string ⟨l.toArray⟩) w := by
  subst hl
  have some_ : ∀ a, A = some a → (∀ j (hj : j < l.length), w.cell? (a.add j) = some (.int .u8 (l[j].toNat : Int))) → (convert src dst (.slice A l.length cap)).run P w = .ok (.string ⟨l.toArray⟩) w := fun a hA hc => by
    subst hA
    exact run_convert_bytes_back w src dst e a cap l hs he hd hc
  rcases hr with h | ⟨b, off, hA, _, hc⟩
  · have hl0 : l = [] := by simpa [bvals] using h
    subst hl0
    cases A with
    | some a => exact some_ a rfl (fun j hj => by simp at hj)
    | none =>
      rw [run_convert_bytes_string w src dst e none _ cap hs he hd]
      simp [Conv.bytesToString]
      rfl
  · refine some_ _ hA (fun j hj => ?_)
    rw [Addr.add_lit]
    have := hc j _ (bvals_at l j hj)
    rw [this]
    simp [bval, hj]
/-- '[]byte(s)': a new row that reads as the bytes of s. -/
theorem bytes_of {P : Program} (w : World) (src dst e : TypeId) (s : ByteArray) (hs : P.underlying src = some .string) (hd : P.underlying dst = some (.slice e)) (he : P.underlying e = some (.int .u8)) :
    ∃ c w', (convert src dst (.string s)).run P w = .ok (.slice (some ⟨w.heap.size, 0, none⟩) s.size c) w' ∧ Rd w' (some ⟨w.heap.size, 0, none⟩) (bvals s.data.toList) ∧ w.grownBy w' none ∧ w'.heap.size = w.heap.size + 1 ∧ s.size ≤ c := by
  refine ⟨_, _, run_bytes_of_string w src dst e s hs hd he, ?_, ?_, by simp, grownCap_ge _ _ _ _⟩
  · right
    refine ⟨w.heap.size, 0, rfl, by simp, fun j u hu => ?_⟩
    obtain ⟨hj, rfl⟩ := bvals_some hu
    have hn := heap_alloc_new w.drew (.cells (bytesRow s (grownCap w s.size 0 e)) e ((bytesRow s (grownCap w s.size 0 e)).size, (bytesRow s (grownCap w s.size 0 e)).size + 1))
    have hj' : j < s.data.size := by simpa using hj
    rw [Nat.zero_add]
    unfold World.cell?
    rw [show w.heap.size = w.drew.heap.size from rfl, hn]
    have hj2 : j < s.size := hj'
    simp [bytesRow, Array.getElem?_append, bval, hj2]
  · exact ⟨rfl, rfl, rfl, by simp, fun k hk _ => by
      exact Below.heap_alloc w.drew (.cells (bytesRow s (grownCap w s.size 0 e)) e ((bytesRow s (grownCap w s.size 0 e)).size, (bytesRow s (grownCap w s.size 0 e)).size + 1)) k hk⟩
end Go.Proofs.Ytpcmfbdlfjlobaa

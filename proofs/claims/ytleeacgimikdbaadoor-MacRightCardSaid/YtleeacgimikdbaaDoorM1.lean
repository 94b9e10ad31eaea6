/- Slices of byte slices; few, cut, Joined, Equal. -/
import Derived.Test.YtleeacgimikdbaaDoorL4
import Derived.Test.YtleeacgimikdbaaDoorMS
namespace Go.Proofs.YtleeacgimikdbaaDoor
open Go.RowKit
attribute [local go_sem ↓] Go.wp_at_zero Go.wp_at_succ
/-- A byte slice as a value: where it lies, its bytes, its capacity. -/
structure Pt where
  a : Option Addr
  bs : List UInt8
  c : Nat
def Pt.val (p : Pt) : Value := .slice p.a p.bs.length p.c
structure Pt.ok (w : World) (p : Pt) : Prop where
  rd : Rd w p.a (bvals p.bs)
  len : p.bs.length ≤ p.c
  cap : p.c ≤ maxLen
def pvals (ps : List Pt) : List Value := ps.map Pt.val
/-- A slice at P whose elements are ps. -/
structure Rps (w : World) (P : Option Addr) (ps : List Pt) : Prop where
  rd : Rd w P (pvals ps)
  each : ∀ p ∈ ps, p.ok w
theorem pvals_length (ps : List Pt) : (pvals ps).length = ps.length := by simp [pvals]
theorem pvals_one (ps : List Pt) : ∀ u ∈ pvals ps, u.oneCell' = true := by
  intro u hu
  obtain ⟨b, _, rfl⟩ := List.mem_map.1 hu
  rfl
theorem Pt.ok.below {w w' : World} {p : Pt} (h : p.ok w) (hb : Below w.heap.size w w') : p.ok w' := ⟨h.rd.below hb, h.len, h.cap⟩
theorem Rps.below {w w' : World} {P : Option Addr} {ps : List Pt} (h : Rps w P ps) (hb : Below w.heap.size w w') : Rps w' P ps :=
  ⟨h.rd.below hb, fun p hp => (h.each p hp).below hb⟩
theorem Rps.drewN {w : World} {P : Option Addr} {ps : List Pt} (h : Rps w P ps) (k : Nat) : Rps (w.drewN k) P ps := ⟨h.rd, fun p hp => ⟨(h.each p hp).rd, (h.each p hp).len, (h.each p hp).cap⟩⟩
theorem pvals_at (ps : List Pt) (j : Nat) (h : j < ps.length) : (pvals ps)[j]? = some (ps[j].val) := by simp [pvals, h]
theorem Rps.at_ {w : World} {P : Option Addr} {ps : List Pt} (h : Rps w P ps) {j : Nat} (hj : j < ps.length) :
    ∃ b off, P = some ⟨b, off, none⟩ ∧ b < w.heap.size ∧ w.cell? ⟨b, off + j, none⟩ = some (ps[j].val) := by
  obtain ⟨b, off, e, hb, hc⟩ := h.rd.at (j := j) (by rw [pvals_length]; exact hj)
  exact ⟨b, off, e, hb, hc j _ (pvals_at ps j hj)⟩
def joined (ps : List Pt) : List UInt8 := ps.flatMap Pt.bs
theorem joined_take (ps : List Pt) (k : Nat) (h : k < ps.length) : joined (ps.take (k + 1)) = joined (ps.take k) ++ ps[k].bs := by
  unfold joined
  rw [List.take_succ_eq_append_getElem h, List.flatMap_append]
  simp
theorem joined_take_le (ps : List Pt) (k : Nat) : (joined (ps.take k)).length ≤ (joined ps).length := by
  conv => rhs; rw [← List.take_append_drop k ps]
  unfold joined
  rw [List.flatMap_append, List.length_append]
  omega
def Pt.few (p : Pt) (n : Nat) : Pt := ⟨p.a, p.bs.take n, p.c⟩
def cutAll (ps : List Pt) : List Pt := (ps.take 6).map fun p => p.few 60
theorem Pt.ok.few {w : World} {p : Pt} (h : p.ok w) (n : Nat) : (p.few n).ok w := ⟨h.rd.takeB n, Nat.le_trans (by simp [Pt.few]; omega) h.len, h.cap⟩
theorem cutAll_ok {w : World} {ps : List Pt} (h : ∀ p ∈ ps, p.ok w) : ∀ p ∈ cutAll ps, p.ok w := by
  intro p hp
  obtain ⟨q, hq, rfl⟩ := List.mem_map.1 hp
  exact (h q (List.mem_of_mem_take hq)).few 60
theorem cutAll_length (ps : List Pt) : (cutAll ps).length ≤ 6 := by unfold cutAll; simp; omega
theorem joined_len (l : List Pt) (h : ∀ p ∈ l, p.bs.length ≤ 60) : (joined l).length ≤ 60 * l.length := by
  induction l with
  | nil => simp [joined]
  | cons p l ih =>
    have h1 := h p (by simp)
    have h2 := ih fun q hq => h q (by simp [hq])
    simp [joined] at *
    omega
theorem cutAll_joined (ps : List Pt) : (joined (cutAll ps)).length ≤ 360 := by
  have h := joined_len (cutAll ps) (by
    intro p hp
    obtain ⟨q, _, rfl⟩ := List.mem_map.1 hp
    simp [Pt.few]
    omega)
  have := cutAll_length ps
  omega
set_option maxRecDepth 100000 in
set_option maxHeartbeats 1000000 in
/-- 'few' of the second layer. -/
theorem few2_any (A : Option Addr) (n c m : Nat) (w : World) (hc : n ≤ c) (hm : c ≤ maxLen) (_hm2 : m ≤ 1000) :
    Calls Tryd.prog 21 #[.slice A n c, .int .i64 (m : Int)] w fun e w' => e = .returned (.slice A (min n m) c) ∧ w = w' := by
  have hm' : c ≤ 9223372036854775807 := hm
  by_cases h : m < n
  · rw [Nat.min_eq_right (by omega)]
    have h2 : (m : Int) ≤ (c : Int) := by omega
    go_enter Tryd.func21, Tryd.ntmps21
    go_wp2
    all_goals
      go_ret
      exact ⟨rfl, rfl⟩
  · rw [Nat.min_eq_left (by omega)]
    go_enter Tryd.func21, Tryd.ntmps21
    go_wp2
    go_ret
    exact ⟨rfl, rfl⟩
theorem few2_bs (A : Option Addr) (bs : List UInt8) (c : Nat) (z : Int) (w : World) (hc : bs.length ≤ c) (hm : c ≤ maxLen) (h0 : 0 ≤ z) (h1 : z ≤ 1000) :
    Calls Tryd.prog 21 #[.slice A bs.length c, .int .i64 z] w fun e w' => e = .returned (.slice A (bs.take z.toNat).length c) ∧ w = w' := by
  obtain ⟨m, rfl⟩ := Int.eq_ofNat_of_zero_le h0
  rw [List.length_take, Nat.min_comm, Int.toNat_natCast]
  exact few2_any A bs.length c m w hc hm (by omega)
end Go.Proofs.YtleeacgimikdbaaDoor

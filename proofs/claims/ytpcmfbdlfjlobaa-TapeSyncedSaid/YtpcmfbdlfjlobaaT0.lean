/- The tape, by definition: sides, units, what a side has behind some units. -/
import Derived.Test.YtpcmfbdlfjlobaaKG
namespace Go.Proofs.Ytpcmfbdlfjlobaa
open Go.RowKit
set_option linter.unusedVariables false
structure Sd where
  a : List UInt8
  b : List UInt8
structure Un where
  one : Bool
  cut : Option Nat
  byt : UInt8
def Sd.get (s : Sd) : Bool → List UInt8
  | false => s.a
  | true => s.b
def Sd.put (s : Sd) : Bool → List UInt8 → Sd
  | false, l => ⟨l, s.b⟩
  | true, l => ⟨s.a, l⟩
def stepB (l : List UInt8) (u : Un) : List UInt8 :=
  match u.cut with
  | some k => l.take k
  | none => l ++ [u.byt]
def stepS (s : Sd) (u : Un) : Sd := s.put u.one (stepB (s.get u.one) u)
def runS (s : Sd) (us : List Un) : Sd := us.foldl stepS s
def Sd.ok (s : Sd) : Prop := s.a.length ≤ 65536 ∧ s.b.length ≤ 65536
def cutok (s : Sd) (u : Un) : Prop := ∀ k, u.cut = some k → k ≤ (s.get u.one).length
def okUs : Sd → List Un → Prop
  | s, [] => s.ok
  | s, u :: us => s.ok ∧ cutok s u ∧ okUs (stepS s u) us
theorem okUs.ok {s : Sd} {us : List Un} (h : okUs s us) : s.ok := by
  cases us with
  | nil => exact h
  | cons u us => exact h.1
theorem Sd.ok.get {s : Sd} (h : s.ok) (o : Bool) : (s.get o).length ≤ 65536 := by cases o; exact h.1; exact h.2
theorem runS_append (s : Sd) (us vs : List Un) : runS s (us ++ vs) = runS (runS s us) vs := by simp [runS]
theorem runS_take_succ (s : Sd) (us : List Un) (k : Nat) (h : k < us.length) : runS s (us.take (k + 1)) = stepS (runS s (us.take k)) us[k] := by
  rw [← List.take_append_getElem h, runS_append]
  rfl
theorem okUs_append {s : Sd} {us vs : List Un} : okUs s (us ++ vs) ↔ okUs s us ∧ okUs (runS s us) vs := by
  induction us generalizing s with
  | nil => exact ⟨fun h => ⟨h.ok, h⟩, fun h => h.2⟩
  | cons u us ih =>
    show (s.ok ∧ cutok s u ∧ okUs (stepS s u) (us ++ vs)) ↔ (s.ok ∧ cutok s u ∧ okUs (stepS s u) us) ∧ okUs (runS (stepS s u) us) vs
    rw [ih]
    constructor
    · rintro ⟨h1, h2, h3, h4⟩; exact ⟨⟨h1, h2, h3⟩, h4⟩
    · rintro ⟨⟨h1, h2, h3⟩, h4⟩; exact ⟨h1, h2, h3, h4⟩
theorem okUs_take {s : Sd} {us : List Un} (h : okUs s us) (k : Nat) : okUs s (us.take k) := (okUs_append.1 (by rw [List.take_append_drop]; exact h)).1
theorem okUs_run {s : Sd} {us : List Un} (h : okUs s us) : (runS s us).ok := by
  have := (okUs_append (s := s) (us := us) (vs := [])).1 (by simpa using h)
  exact this.2
theorem okUs_at {s : Sd} {us : List Un} (h : okUs s us) (k : Nat) (hk : k < us.length) : (runS s (us.take k)).ok ∧ cutok (runS s (us.take k)) us[k] := by
  have h1 : okUs s (us.take k ++ us.drop k) := by rw [List.take_append_drop]; exact h
  have h2 := (okUs_append.1 h1).2
  rw [List.drop_eq_getElem_cons hk] at h2
  exact ⟨h2.1, h2.2.1⟩
/-- The units of bytes that are written to a side. -/
def wUs (o : Bool) (bs : List UInt8) : List Un := bs.map fun b => ⟨o, none, b⟩
theorem wUs_length (o : Bool) (bs : List UInt8) : (wUs o bs).length = bs.length := by simp [wUs]
theorem get_put (s : Sd) (o : Bool) (l : List UInt8) : (s.put o l).get o = l := by cases o <;> rfl
theorem put_put (s : Sd) (o : Bool) (l m : List UInt8) : (s.put o l).put o m = s.put o m := by cases o <;> rfl
theorem put_get (s : Sd) (o : Bool) : s.put o (s.get o) = s := by cases o <;> rfl
theorem runS_w (s : Sd) (o : Bool) (bs : List UInt8) : runS s (wUs o bs) = s.put o (s.get o ++ bs) := by
  induction bs generalizing s with
  | nil => simp [wUs, runS, put_get]
  | cons b bs ih =>
    show runS (stepS s ⟨o, none, b⟩) (wUs o bs) = _
    rw [ih]
    show ((s.put o (s.get o ++ [b])).put o ((s.put o (s.get o ++ [b])).get o ++ bs)) = _
    rw [get_put, put_put]
    simp
theorem okUs_w (s : Sd) (o : Bool) (bs : List UInt8) (h : s.ok) (hl : (s.get o).length + bs.length ≤ 65536) : okUs s (wUs o bs) := by
  induction bs generalizing s with
  | nil => exact h
  | cons b bs ih =>
    refine ⟨h, (fun k hk => by cases hk), ih _ ?_ ?_⟩
    · simp at hl
      cases o
      · exact ⟨by simp [stepS, stepB, Sd.put, Sd.get] at *; omega, h.2⟩
      · exact ⟨h.1, by simp [stepS, stepB, Sd.put, Sd.get] at *; omega⟩
    · show ((s.put o (s.get o ++ [b])).get o).length + bs.length ≤ 65536
      rw [get_put]
      simp at hl ⊢
      omega
theorem okUs_cut (s : Sd) (o : Bool) (k : Nat) (h : s.ok) (hk : k ≤ (s.get o).length) : okUs s [⟨o, some k, 0⟩] := by
  refine ⟨h, (fun k' hk' => by cases hk'; exact hk), ?_⟩
  show (stepS s ⟨o, some k, 0⟩).ok
  cases o
  · exact ⟨by have := h.1; simp [stepS, stepB, Sd.put, Sd.get] at *; omega, h.2⟩
  · exact ⟨h.1, by have := h.2; simp [stepS, stepB, Sd.put, Sd.get] at *; omega⟩
structure TSt where
  safe : Sd
  us : List Un
  burns : Bool
  left : Int
def TSt.now (s : TSt) : Sd := runS s.safe s.us
structure TSt.good (s : TSt) : Prop where
  ok : okUs s.safe s.us
  l0 : s.burns = true → 0 ≤ s.left ∧ s.left ≤ 1099511627776
def rdyN (s : TSt) (side : Int) : Int := if side < 0 ∨ 1 < side then 1 else if s.burns = true ∧ s.left = 0 then 40 else 0
def TSt.did (s : TSt) (l : List Un) : TSt := ⟨s.safe, s.us ++ l, s.burns, s.left - 1⟩
def TSt.synced (s : TSt) : TSt := ⟨s.now, [], s.burns, s.left - 1⟩
def TSt.crashed (s : TSt) (n : Nat) : TSt := ⟨runS s.safe (s.us.take n), [], false, 0⟩
def TSt.fused (s : TSt) (n : Int) : TSt := ⟨s.safe, s.us, true, if s.burns = true then min n s.left else n⟩
def t0 : TSt := ⟨⟨[], []⟩, [], false, 0⟩
theorem t0_good : t0.good := ⟨⟨by simp [t0], by simp [t0]⟩, fun h => by cases h⟩
theorem TSt.did_now (s : TSt) (l : List Un) : (s.did l).now = runS s.now l := runS_append _ _ _
theorem TSt.good.did {s : TSt} (h : s.good) {side : Int} (hr : rdyN s side = 0) {l : List Un} (hl : okUs s.now l) : (s.did l).good :=
  ⟨okUs_append.2 ⟨h.ok, hl⟩, fun hb => by
    have h1 := h.l0 hb
    unfold rdyN at hr
    split at hr
    · cases hr
    · split at hr
      · cases hr
      · rename_i h2
        have h3 : s.left ≠ 0 := fun e => h2 ⟨hb, e⟩
        show 0 ≤ s.left - 1 ∧ s.left - 1 ≤ 1099511627776
        omega⟩
theorem TSt.good.synced {s : TSt} (h : s.good) {side : Int} (hr : rdyN s side = 0) : s.synced.good :=
  ⟨okUs_run h.ok, (h.did hr (l := []) (okUs_run h.ok)).l0⟩
theorem TSt.good.crashed {s : TSt} (h : s.good) (n : Nat) : (s.crashed n).good := ⟨okUs_run (okUs_take h.ok n), fun hb => by cases hb⟩
theorem TSt.good.fused {s : TSt} (h : s.good) {n : Int} (h0 : 0 ≤ n) (h1 : n ≤ 1099511627776) : (s.fused n).good :=
  ⟨h.ok, fun _ => by
    show 0 ≤ (if s.burns = true then min n s.left else n) ∧ (if s.burns = true then min n s.left else n) ≤ 1099511627776
    split
    · rename_i hb
      have := h.l0 hb
      omega
    · omega⟩
theorem TSt.good.now {s : TSt} (h : s.good) (o : Bool) : (s.now.get o).length ≤ 65536 := (okUs_run h.ok).get o
def Un.cells (u : Un) : List Value := [.int .i64 (if u.one then 1 else 0), .int .i64 (match u.cut with | some k => (k : Int) | none => -1), .int .u8 (u.byt.toNat : Int)]
def ucells (us : List Un) : List Value := us.flatMap Un.cells
theorem ucells_length (us : List Un) : (ucells us).length = us.length * 3 := by
  induction us with
  | nil => rfl
  | cons u us ih => simp [ucells, Un.cells] at *; omega
theorem ucells_append (a b : List Un) : ucells (a ++ b) = ucells a ++ ucells b := by simp [ucells]
theorem ucells_one (l : List Un) : ∀ u ∈ ucells l, u.oneCell' = true := by
  intro u hu
  obtain ⟨p, _, hp⟩ := List.mem_flatMap.1 hu
  simp only [Un.cells, List.mem_cons, List.not_mem_nil, or_false] at hp
  rcases hp with rfl | rfl | rfl <;> rfl
theorem ucells_drop (l : List Un) (k : Nat) : (ucells l).drop (k * 3) = ucells (l.drop k) := by
  induction l generalizing k with
  | nil => simp [ucells]
  | cons p l ih =>
    cases k with
    | zero => simp [ucells]
    | succ k =>
      have := ih k
      simp only [ucells, List.flatMap_cons, Un.cells, List.drop_succ_cons, List.cons_append, List.nil_append] at *
      rw [show (k + 1) * 3 = k * 3 + 1 + 1 + 1 by omega, List.drop_succ_cons, List.drop_succ_cons, List.drop_succ_cons, this]
theorem ucells_at (l : List Un) (k : Nat) (h : k < l.length) (j : Nat) (v : Value) (hv : l[k].cells[j]? = some v) : (ucells l)[k * 3 + j]? = some v := by
  have e : (ucells l).drop (k * 3) = l[k].cells ++ ucells (l.drop (k + 1)) := by
    rw [ucells_drop, List.drop_eq_getElem_cons h]
    rfl
  rw [← List.getElem?_drop, e, List.getElem?_append_left (List.getElem?_eq_some_iff.1 hv).1]
  exact hv
end Go.Proofs.Ytpcmfbdlfjlobaa

/- The document's examples. -/
import Derived.Test.YtpcmfbdlfjlobaaT7
import Derived.Lib.SlBytesConst
namespace Go.Proofs.Ytpcmfbdlfjlobaa
open Go.RowKit
set_option linter.unusedVariables false
attribute [local go_sem ↓] Go.wp_at_zero Go.wp_at_succ
def Lived (w : World) (e : Ending) (w' : World) : Prop := e = .returned (.bool true) ∧ Below w.heap.size w w'
theorem lo_grew {F F' : Nat → Prop} {w0 w : World} (h : ∀ k, F k → w0.heap.size ≤ k) (hg : Grew F F' w) (hz : w0.heap.size ≤ w.heap.size) : ∀ k, F' k → w0.heap.size ≤ k := fun k hk => by
  rcases hg k hk with h1 | h1
  · exact h k h1
  · omega
theorem Rd.newM (w : World) (t : TypeId) (cs : List Value) (fr : Nat × Nat) : Rd (w.alloc (.cells cs.toArray t fr)) (some ⟨w.heap.size, 0, none⟩) cs := by
  refine .inr ⟨w.heap.size, 0, rfl, by simp, fun j u hu => ?_⟩
  have h := heap_alloc_new w (.cells cs.toArray t fr)
  simp only [World.cell?, h]
  simpa using hu
theorem conv28 (w : World) (C : Array Value) (n c : Nat) : (convert 28 28 (.slice (some ⟨w.heap.size, 0, none⟩) n c)).run Try.prog (w.alloc (.cells C 5)) = .ok (.slice (some ⟨w.heap.size, 0, none⟩) n c) (w.alloc (.cells C 5 (C.size, C.size + 1))) := Lib.run_convert_bytes_const (P := Try.prog) w 28 5 C n c Try.underlying28 Try.underlying5
/-- A tape that a function has made, and a slice of bytes beside it. -/
def Go2 (w0 w : World) (p : Nat) (s : TSt) (A : Option Addr) (bs : List UInt8) : Prop := ∃ F, Tp w p s F ∧ Below w0.heap.size w0 w ∧ (∀ k, F k → w0.heap.size ≤ k) ∧ Rd w A (bvals bs) ∧ ∀ a, A = some a → ¬ F a.block ∧ a.block < w.heap.size
section
variable {w0 w w' : World} {p : Nat} {s s' : TSt} {A : Option Addr} {bs : List UInt8} {F : Nat → Prop}
theorem Go2.after (ht : Tp w p s F) (hb : Below w0.heap.size w0 w) (hl : ∀ k, F k → w0.heap.size ≤ k) (hr : Rd w A (bvals bs)) (ha : ∀ a, A = some a → ¬ F a.block ∧ a.block < w.heap.size) {F' : Nat → Prop} (ht' : Tp w' p s' F') (hk : Kept F w w') (hg : Grew F F' w) : Go2 w0 w' p s' A bs :=
  ⟨F', ht', hb.trans (hk.below hl hb.size), lo_grew hl hg hb.size, hr.kept hk fun a h => (ha a h).1, fun a h => ⟨fun hF => by
    rcases hg _ hF with h1 | h1
    · exact (ha a h).1 h1
    · have := (ha a h).2; omega, Nat.lt_of_lt_of_le (ha a h).2 hk.size⟩⟩
theorem Go2.below (h : Go2 w0 w p s A bs) (hb : Below w.heap.size w w') : Go2 w0 w' p s A bs := by
  obtain ⟨F, ht, hb0, hl, hr, ha⟩ := h
  exact Go2.after ht hb0 hl hr ha (ht.below hb) (Kept.of_below F hb) (Grew.refl _ _)
theorem Go2.alloc (h : Go2 w0 w p s A bs) (o : Obj) : Go2 w0 (w.alloc o) p s A bs := h.below ((Below.refl _ _).alloc (Nat.le_refl _) _)
theorem Go2.bel (h : Go2 w0 w p s A bs) : Below w0.heap.size w0 w := by
  obtain ⟨F, ht, hb0, hl, hr, ha⟩ := h
  exact hb0
theorem Go2.rd (h : Go2 w0 w p s A bs) : Rd w A (bvals bs) := by
  obtain ⟨F, ht, hb0, hl, hr, ha⟩ := h
  exact hr
theorem Go2.write (h : Go2 w0 w p s A bs) (hg : s.good) (o : Bool) (X : Option Addr) (c : Nat) (xs : List UInt8) (hx : Rd w X (bvals xs)) (hr : rdyN s (sdI o) = 0) (hm : (s.now.get o).length + xs.length ≤ 65536) (hl2 : s.us.length ≤ 1000000) :
    Calls Try.prog 15 #[.pointer (some ⟨p, 0, none⟩), .int .i64 (sdI o), .slice X xs.length c] w fun e w' => e = .returned (.int .i64 0) ∧ Go2 w0 w' p (s.did (wUs o xs)) A bs := by
  obtain ⟨F, ht, hb0, hl, hr0, ha⟩ := h
  exact (write_any o X c xs ht hg hr hx hm hl2).mono fun e w' ⟨he, F', ht', hk, hg'⟩ => ⟨he, Go2.after ht hb0 hl hr0 ha ht' hk hg'⟩
theorem Go2.clear_ (h : Go2 w0 w p s A bs) (hg : s.good) (o : Bool) (hr : rdyN s (sdI o) = 0) (hl2 : s.us.length ≤ 1000000) :
    Calls Try.prog 25 #[.pointer (some ⟨p, 0, none⟩), .int .i64 (sdI o)] w fun e w' => e = .returned (.int .i64 0) ∧ Go2 w0 w' p (s.did [⟨o, some 0, 0⟩]) A bs := by
  obtain ⟨F, ht, hb0, hl, hr0, ha⟩ := h
  exact (clear_any o ht hg hr hl2).mono fun e w' ⟨he, F', ht', hk, hg'⟩ => ⟨he, Go2.after ht hb0 hl hr0 ha ht' hk hg'⟩
theorem Go2.sync_ (h : Go2 w0 w p s A bs) (hg : s.good) (hr : rdyN s 0 = 0) :
    Calls Try.prog 18 #[.pointer (some ⟨p, 0, none⟩)] w fun e w' => e = .returned (.int .i64 0) ∧ Go2 w0 w' p s.synced A bs := by
  obtain ⟨F, ht, hb0, hl, hr0, ha⟩ := h
  exact (sync_any ht hg hr).mono fun e w' ⟨he, F', ht', hk, hg'⟩ => ⟨he, Go2.after ht hb0 hl hr0 ha ht' hk hg'⟩
theorem Go2.sync_bad (h : Go2 w0 w p s A bs) (hr : rdyN s 0 ≠ 0) :
    Calls Try.prog 18 #[.pointer (some ⟨p, 0, none⟩)] w fun e w' => e = .returned (.int .i64 (rdyN s 0)) ∧ w = w' := by
  obtain ⟨F, ht, hb0, hl, hr0, ha⟩ := h
  exact sync_rdy ht hr
theorem Go2.fuse_ (h : Go2 w0 w p s A bs) (n : Int) (hn0 : 0 ≤ n) (hn1 : n ≤ 1099511627776) :
    Calls Try.prog 23 #[.pointer (some ⟨p, 0, none⟩), .int .i64 n] w fun e w' => e = .returned (.int .i64 0) ∧ Go2 w0 w' p (s.fused n) A bs := by
  obtain ⟨F, ht, hb0, hl, hr0, ha⟩ := h
  exact (fuse_any n ht hn0 hn1).mono fun e w' ⟨he, F', ht', hk, hg'⟩ => ⟨he, Go2.after ht hb0 hl hr0 ha ht' hk hg'⟩
theorem Go2.crash_ (h : Go2 w0 w p s A bs) (hg : s.good) (n : Int) (h0 : -9223372036854775808 ≤ n) (h1 : n ≤ 9223372036854775807) (hl2 : s.us.length ≤ 1000000) :
    Calls Try.prog 19 #[.pointer (some ⟨p, 0, none⟩), .int .i64 n] w fun e w' => e = .returned (.tuple #[]) ∧ Go2 w0 w' p (s.crashed (pickF n (s.us.length + 1))) A bs := by
  obtain ⟨F, ht, hb0, hl, hr0, ha⟩ := h
  exact (crash_any n ht hg h0 h1 hl2).mono fun e w' ⟨he, F', ht', hk, hg'⟩ => ⟨he, Go2.after ht hb0 hl hr0 ha ht' hk hg'⟩
/-- What is read takes the slice's place. -/
theorem Go2.read_ (h : Go2 w0 w p s A bs) (hg : s.good) (o : Bool) (hr : rdyN s (sdI o) = 0) :
    Calls Try.prog 16 #[.pointer (some ⟨p, 0, none⟩), .int .i64 (sdI o)] w fun e w' => ∃ X c, e = .returned (.tuple #[.slice X (s.now.get o).length c, .int .i64 0]) ∧ Go2 w0 w' p s X (s.now.get o) ∧ Go2 w0 w' p s A bs := by
  obtain ⟨F, ht, hb0, hl, hr0, ha⟩ := h
  refine (read_any o ht hg hr).mono ?_
  rintro e w' ⟨X, c, rfl, ho, hX, hb⟩
  exact ⟨X, c, rfl, ⟨F, ht.below hb, hb0.trans (hb.mono hb0.size), hl, ho.rd, fun a h => ⟨fun hF => by have := ht.lt _ hF; have := (hX a h).1; omega, (hX a h).2⟩⟩, Go2.after ht hb0 hl hr0 ha (ht.below hb) (Kept.of_below F hb) (Grew.refl _ _)⟩
end
theorem Made.go {w w' : World} {e : Ending} (h : Made (fun w' p => Tp w' p t0) w e w') : ∃ p, e = .returned (.pointer (some ⟨p, 0, none⟩)) ∧ Go2 w w' p t0 none [] := by
  obtain ⟨p, F, he, ht, hl, hb⟩ := h
  exact ⟨p, he, F, ht, hb, hl, Rd.nil _ _, fun a ha => by cases ha⟩
def a1 : TSt := t0.did (wUs false [97, 98, 99])
def a2 : TSt := a1.synced
def a3 : TSt := a2.did (wUs false [100, 101])
def a4 : TSt := a3.crashed 1
def a5 : TSt := a4.did (wUs true [120])
def a6 : TSt := a5.did [⟨true, some 0, 0⟩]
def a7 : TSt := a6.did (wUs true [121])
def a8 : TSt := a7.crashed 2
def a9 : TSt := a8.fused 1
def a10 : TSt := a9.did (wUs false [120])
theorem g_did {s : TSt} (h : s.good) (o : Bool) (bs : List UInt8) {side : Int} (hr : rdyN s side = 0) (hl : (s.now.get o).length + bs.length ≤ 65536) : (s.did (wUs o bs)).good := h.did hr (okUs_w _ o bs (okUs_run h.ok) hl)
theorem g1 : a1.good := g_did t0_good false _ (side := 0) (by decide) (by decide)
theorem g2 : a2.good := g1.synced (side := 0) (by decide)
theorem g3 : a3.good := g_did g2 false _ (side := 0) (by decide) (by decide)
theorem g4 : a4.good := g3.crashed 1
theorem g5 : a5.good := g_did g4 true _ (side := 0) (by decide) (by decide)
theorem g6 : a6.good := g5.did (side := 0) (by decide) (okUs_cut _ _ _ (okUs_run g5.ok) (by decide))
theorem g7 : a7.good := g_did g6 true _ (side := 0) (by decide) (by decide)
theorem g8 : a8.good := g7.crashed 2
theorem g9 : a9.good := g8.fused (by decide) (by decide)
theorem g10 : a10.good := g_did g9 false _ (side := 0) (by decide) (by decide)
end Go.Proofs.Ytpcmfbdlfjlobaa

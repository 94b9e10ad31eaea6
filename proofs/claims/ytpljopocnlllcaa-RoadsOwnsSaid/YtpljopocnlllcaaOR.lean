/- The plain law of the order. -/
import Derived.Test.YtpljopocnlllcaaC4
namespace Go.Proofs.Ytpljopocnlllcaa
open Go.RowKit
def pkz (z : Nat × List UInt8) : Int × List UInt8 := (1 + ((z.1 % 2 : Nat) : Int), UInt8.ofNat z.1 :: z.2)
def ord (zs : List (Nat × List UInt8)) : St := ⟨0, [0, 0], zs.map pkz⟩
def okz (zs : List (Nat × List UInt8)) : Prop := ∀ z ∈ zs, z.1 < 119 ∧ z.2.length ≤ 20
def lefts (zs : List (Nat × List UInt8)) : List Int := zs.map fun z => (z.1 : Int)
theorem lefts_length (zs : List (Nat × List UInt8)) : (lefts zs).length = zs.length := by simp [lefts]
theorem ord_length (zs : List (Nat × List UInt8)) : (ord zs).ps.length = zs.length := by simp [ord]
theorem ord_good (zs : List (Nat × List UInt8)) (h : zs.length ≤ 120) : (ord zs).good := ⟨by simp [ord], by simp [ord], by simpa [ord] using h, by simp [ord], by simp [ord]⟩
theorem ord_nil : ord [] = st0 2 := rfl
theorem ord_send (zs : List (Nat × List UInt8)) (i : Nat) (t : List UInt8) (h : zs.length + 1 ≤ 120) : sendSt (ord zs) (1 + ((i % 2 : Nat) : Int)) (UInt8.ofNat i :: t) = ord (zs ++ [(i, t)]) := by
  unfold sendSt
  rw [if_neg (by rw [ord_length]; omega)]
  simp [ord, pkz]
theorem ord_erase (zs : List (Nat × List UInt8)) (k : Nat) : (⟨(ord zs).time, (ord zs).clocks, (ord zs).ps.eraseIdx k⟩ : St) = ord (zs.eraseIdx k) := by
  simp [ord, map_erase]
theorem ord_at (zs : List (Nat × List UInt8)) (k : Nat) (h : k < zs.length) : (ord zs).ps[k]? = some (1 + ((zs[k].1 % 2 : Nat) : Int), UInt8.ofNat zs[k].1 :: zs[k].2) := by
  simp [ord, pkz, h]
theorem lefts_erase (zs : List (Nat × List UInt8)) (k : Nat) : lefts (zs.eraseIdx k) = (lefts zs).take k ++ (lefts zs).drop (k + 1) := by
  unfold lefts
  rw [map_erase, List.eraseIdx_eq_take_drop_succ]
theorem lefts_add (zs : List (Nat × List UInt8)) (i : Nat) (t : List UInt8) : lefts (zs ++ [(i, t)]) = lefts zs ++ [(i : Int)] := by simp [lefts]
theorem okz_add {zs : List (Nat × List UInt8)} (h : okz zs) {i : Nat} {t : List UInt8} (hi : i < 119) (ht : t.length ≤ 20) : okz (zs ++ [(i, t)]) := fun z hz => by
  rcases List.mem_append.1 hz with hz | hz
  · exact h z hz
  · obtain rfl := List.mem_singleton.1 hz; exact ⟨hi, ht⟩
theorem okz_erase {zs : List (Nat × List UInt8)} (h : okz zs) (k : Nat) : okz (zs.eraseIdx k) := fun z hz => h z (List.mem_of_mem_eraseIdx hz)
theorem own_keep {w w' : World} {B : Nat} {e : TypeId} {size : Nat} {v : Value} {n : Nat} {xs : List Value} (h : w.ownsRow B e size v n xs) (hk : ∀ g, v.ownBlock = some g → w'.heap[g]? = w.heap[g]?) : w'.ownsRow B e size v n xs := by
  refine ⟨h.1, ?_⟩
  rcases h.2 with h0 | ⟨g, cap, cur, hv, hb, hh, hr⟩
  · exact .inl h0
  · exact .inr ⟨g, cap, cur, hv, hb, (hk g (by rw [hv]; rfl)).trans hh, hr⟩
theorem own_below {w w' : World} {B : Nat} {e : TypeId} {size : Nat} {v : Value} {n : Nat} {xs : List Value} (h : w.ownsRow B e size v n xs) (hb : Below w.heap.size w w') : w'.ownsRow B e size v n xs := own_keep h fun g hg => hb.block g (h.lt g hg).2
theorem wrap_u8_small (k : Nat) (h : k < 256) : IntKind.u8.wrap (k : Int) = (k : Int) := by
  have : IntKind.u8.wrap (k : Int) = (k : Int) % 256 := rfl
  omega
theorem u8_small (k : Nat) (h : k < 256) : bvals [UInt8.ofNat k] = [.int .u8 (k : Int)] := by
  have : (UInt8.ofNat k).toNat = k := UInt8.toNat_ofNat_of_lt' (by show k < 256; exact h)
  simp [bvals, bval, this]
theorem own_slice {w : World} {base : Nat} {e : TypeId} {size : Nat} {v : Value} {n : Nat} {xs : List Value} (h : w.ownsRow base e size v n xs) : ∃ A cap, v = .slice A n cap ∧ n ≤ cap ∧ cap ≤ maxLen := by
  rcases h.2 with ⟨h1, h2⟩ | ⟨g, cap, cur, h1, _, _, h3, h4, _⟩
  · exact ⟨none, 0, by rw [h1, h2], by omega, by simp⟩
  · exact ⟨_, cap, h1, h3, h4⟩
def InvO (B : Nat) (w : World) (p n : Nat) (v i : Value) (wr : World) : Prop := ∃ k : Nat, ∃ zs : List (Nat × List UInt8), ∃ F : Nat → Prop, k ≤ n ∧ k ≤ 119 ∧ i = .int .i64 (k : Int) ∧ zs.length = k ∧ okz zs ∧ wr.ownsRow B 3 1 v k (ivals (lefts zs)) ∧ Rep 51 64 wr p (ord zs) F ∧ (∀ b, F b → B ≤ b) ∧ (∀ b, v.ownBlock = some b → ¬ F b) ∧ Below B w wr
def InvP (B : Nat) (w : World) (p n : Nat) (v i : Value) (wr : World) : Prop := ∃ k : Nat, ∃ zs : List (Nat × List UInt8), ∃ F : Nat → Prop, k ≤ n ∧ k ≤ 60 ∧ i = .int .i64 (k : Int) ∧ zs.length ≤ 119 ∧ okz zs ∧ wr.ownsRow B 3 1 v zs.length (ivals (lefts zs)) ∧ Rep 51 64 wr p (ord zs) F ∧ (∀ b, F b → B ≤ b) ∧ (∀ b, v.ownBlock = some b → ¬ F b) ∧ Below B w wr
def InvQ (B : Nat) (w : World) (p : Nat) (zs : List (Nat × List UInt8)) (v i : Value) (wr : World) : Prop := ∃ k : Nat, ∃ F : Nat → Prop, k ≤ zs.length ∧ i = .int .i64 (k : Int) ∧ wr.ownsRow B 3 1 v zs.length (ivals (lefts zs)) ∧ Rep 51 64 wr p (ord (zs.drop k)) F ∧ (∀ b, F b → B ≤ b) ∧ (∀ b, v.ownBlock = some b → ¬ F b) ∧ Below B w wr
theorem drop_erase (zs : List (Nat × List UInt8)) (k : Nat) : (zs.drop k).eraseIdx 0 = zs.drop (k + 1) := by
  rw [List.eraseIdx_zero, List.tail_drop]
theorem lefts_at (zs : List (Nat × List UInt8)) (k : Nat) (h : k < zs.length) : (ivals (lefts zs))[k]? = some (.int .i64 (zs[k].1 : Int)) := by simp [ivals, lefts, h]
end Go.Proofs.Ytpljopocnlllcaa

/- The walk of RoadsOwns: what is handed in stays, and what is told is new. -/
import Derived.Test.YtpljopocnlllcaaP3
import Derived.Test.YtpljopocnlllcaaTF
namespace Go.Proofs.Ytpljopocnlllcaa
open Go.RowKit
attribute [local go_sem ↓] Go.wp_at_zero Go.wp_at_succ
/-- A byte of a slice of one's own is written over: both structures stay. -/
theorem Two.set {B : Nat} {w : World} {p q : Nat} {s t : St} {F G : Nat → Prop} (h : Two B w p q s t F G) (a : Addr) (hF : ¬ F a.block) (hG : ¬ G a.block) (u : Value) : Two B (w.setCell a u) p q s t F G := by
  have hk : Kept (fun k => k = a.block) w (w.setCell a u) := (Kept.refl (fun k => k = a.block) w).set (p := a) (.inl rfl) u
  exact
  { rp := h.rp.kept hk (fun k hk (e : k = a.block) => hF (e ▸ hk))
    rq := h.rq.kept hk (fun k hk (e : k = a.block) => hG (e ▸ hk))
    dis := h.dis, loF := h.loF, loG := h.loG, lo := by simpa using h.lo }
/-- The loop's state while own bytes are written over. -/
def InvW (B : Nat) (w : World) (p q : Nat) (s : St) (F G : Nat → Prop) (v : Value) (n : Nat) (i : Value) (wr : World) : Prop := ∃ k : Nat, ∃ xs : List Value, k ≤ n ∧ i = .int .i64 (k : Int) ∧ Two B wr p q s s F G ∧ GOwn wr 5 1 v n xs ∧ Below B w wr
theorem InvW.step {B : Nat} {w wr : World} {p q : Nat} {s : St} {F G : Nat → Prop} {g off n cap k : Nat} {xs : List Value} (hk : k < n) (ht : Two B wr p q s s F G) (ho : GOwn wr 5 1 (.slice (some ⟨g, off, none⟩) n cap) n xs) (hb : Below B w wr) (hg : B ≤ g) (hF : ¬ F g) (hG : ¬ G g) (u : Value) :
    InvW B w p q s F G (.slice (some ⟨g, off, none⟩) n cap) n (.int .i64 ((k + 1 : Nat) : Int)) (wr.setCell ⟨g, off + k, none⟩ u) :=
  ⟨k + 1, _, by omega, rfl, ht.set _ hF hG u, ho.set k u, hb.setCell hg u⟩
theorem InvW.cell {wr : World} {g off n cap k : Nat} {xs : List Value} (ho : GOwn wr 5 1 (.slice (some ⟨g, off, none⟩) n cap) n xs) (hk : k < n) : ∃ v, wr.cell? ⟨g, off + k, none⟩ = some v := by
  have h1 := ho.1
  exact ⟨xs[k]'(by omega), ho.cells k _ (List.getElem?_eq_getElem (by omega))⟩
/-- What Take(0, true) tells is the caller's own. -/
def Told (w : World) (e : Ending) (w' : World) : Prop := ∃ (t : Int) (A : Option Addr) (n c : Nat) (r : Int) (xs : List Value), e = .returned (.tuple #[.int .i64 t, .slice A n c, .int .i64 r]) ∧ n ≤ 1000 ∧ GOwn w' 5 1 (.slice A n c) n xs ∧ (∀ a, A = some a → w.heap.size ≤ a.block ∧ a.block < w'.heap.size) ∧ Below w.heap.size w w'
theorem take0_any {w : World} {p : Nat} {s : St} {F : Nat → Prop} (h : Rep 51 64 w p s F) (hf : s.fine) : Calls Try.prog 20 #[.pointer (some ⟨p, 0, none⟩), .int .i64 0, .bool true] w (Told w) := by
  cases hs : s.ps with
  | nil =>
    refine (take_bad 0 (.bool true) h (by rw [hs]; rfl)).mono ?_
    rintro e w' ⟨he, rfl⟩
    exact ⟨0, none, 0, 0, 13, [], he, by omega, GOwn.nil _ _ _, (fun a ha => by simp at ha), Below.refl _ _⟩
  | cons x l =>
    obtain ⟨to, bs⟩ := x
    have hk : s.ps[0]? = some (to, bs) := by rw [hs]; rfl
    have hb : bs.length ≤ 1000 := hf.small (to, bs) (List.mem_of_getElem? hk)
    exact (take_own 0 to bs h hf.good hk hb).mono fun e w' ⟨A, c, he, ho, hg, hb'⟩ => ⟨to, A, bs.length, c, 0, _, he, hb, ho, hg, hb'⟩
set_option maxRecDepth 100000 in
set_option maxHeartbeats 8000000 in
theorem owns_any (A : Option Addr) (c : Nat) (l : List Dd) (w : World) (h : DeedsAt w A l) (hl : l.length ≤ maxLen) :
    Calls Try.prog 6 #[.slice A l.length c] w (Lived w) := by
  unfold maxLen at hl
  generalize hn : l.length = m at hl ⊢
  have HN := Lib.hid hn
  have HD := Lib.hid h
  clear hn h
  go_enter Try.func6, Try.ntmps6
  go_wp2_with fail
  refine (new_any 3 w (by omega) (by omega)).mono ?_
  rintro e w1 ⟨p, F, rfl, hr1, hlo1, hb1⟩
  have HR1 := Lib.hid hr1
  have HK1 := Lib.hid hb1
  have HL1 := Lib.hid hlo1
  clear hr1 hb1 hlo1
  go_wp2_with fail
  refine (rnew_any 3 w1 (by omega) (by omega)).mono ?_
  rintro e w2 ⟨q, G, rfl, hr2, hlo2, hb2⟩
  have HT2 : Hid (Two w.heap.size w2 p q (st0 3) (st0 3) F G) := two_new HR1.out HL1.out HK1.out hr2 hlo2 hb2
  have HB2 : Hid (Below w.heap.size w w2) := HK1.out.trans (hb2.mono HK1.out.size)
  have HF0 : Hid ((st0 3).fine) := st0_fine 3 (by omega) (by omega)
  clear hr2 hlo2 hb2 HR1 HK1 HL1
  go_wp2_with fail
  go_loopw [5, 6, 7, 8, 9, 10, 11, 12, 13, 14] (fun i _ _ _ _ _ _ _ _ _ wr => InvPl w.heap.size w p q m 40 i wr) (fun i _ _ _ _ _ _ _ _ _ _ => 40 - (intOf i).toNat)
  case atStart => exact ⟨0, _, F, G, by omega, by omega, rfl, HT2.out, HF0.out, HB2.out⟩
  case round =>
    clear HT2 HB2 HF0
    obtain ⟨k, s, F, G, hk, hk1, rfl, ht, hf, hb⟩ := hrel
    have HT := Lib.hid ht
    have HF := Lib.hid hf
    have HB := Lib.hid hb
    clear ht hf hb
    by_cases hlt : k < m ∧ k < 40
    · obtain ⟨hkn, hk100⟩ := hlt
      have hkn' : (k : Int) < (m : Int) := by omega
      have hk100' : (k : Int) < 40 := by omega
      obtain ⟨b, off, rfl, hbl, hc, hok⟩ := HD.out.at_ k (by rw [HN.out]; exact hkn)
      generalize (l[k]'(by rw [HN.out]; exact hkn)) = d at hc hok
      have HOK := Lib.hid (hok.below HB.out)
      have hc' : ∀ j v, d.cells[j]? = some v → wr.cell? ⟨b, off + k * 7 + j, none⟩ = some v := fun j v hv => (World.cell?_of_block (w := w) (a := ⟨b, off + k * 7 + j, none⟩) (HB.out.block b hbl)).trans (hc j v hv)
      obtain ⟨kind, N, to, place, sa, sk, sc, da, bs, dc, stays⟩ := d
      have HFAR : Hid (∀ a, sa = some a → sk.take 20 ≠ [] → a.block < w.heap.size) := fun a ha hne => hok.rs.lt_of (fun e => hne (by cases sk with | nil => rfl | cons x y => simp [ivals] at e)) a ha
      have x0 := hc' 0 _ rfl
      have x1 := hc' 1 _ rfl
      have x2 := hc' 2 _ rfl
      have x3 := hc' 3 _ rfl
      have x4 := hc' 4 _ rfl
      have x5 := hc' 5 _ rfl
      have x6 := hc' 6 _ rfl
      rw [Nat.add_zero] at x0
      clear hc hok hc' hbl
      go_wp2_with fail
      refine (cut_any ⟨kind, N, to, place, sa, sk, sc, da, bs, dc, stays⟩ wr HOK.out).mono ?_
      rintro e w2 ⟨rfl, hb2⟩
      have HOK2 : Hid (Dd.ok w2 (Dd.cut ⟨kind, N, to, place, sa, sk, sc, da, bs, dc, stays⟩)) := HOK.out.cut.below hb2
      have HB2 : Hid (Below w.heap.size w w2) := HB.out.trans (hb2.mono HT.out.lo)
      have HT2 : Hid (Two w.heap.size w2 p q s s F G) := HT.out.below hb2
      rw [show (Dd.cut ⟨kind, N, to, place, sa, sk, sc, da, bs, dc, stays⟩).cells.toArray = #[.int .i64 kind, .int .i64 N, .int .i64 to, .int .i64 place, .slice sa (sk.take 20).length sc, .slice da (bs.take 20).length dc, .bool stays] from rfl]
      have HOKC : Hid (Dd.ok w2 ⟨kind, N, to, place, sa, sk.take 20, sc, da, bs.take 20, dc, stays⟩) := HOK2.out
      have HDT : Hid ((bs.take 20).length ≤ 20) := by unfold Hid; simp; omega
      clear x0 x1 x2 x3 x4 x5 x6 HOK HOK2 HB hb2 HT
      generalize sk.take 20 = sk2 at *
      generalize bs.take 20 = bs2 at *
      have HX3 : Hid (Blk (w2.alloc (.cells #[.int .i64 kind, .int .i64 N, .int .i64 to, .int .i64 place, .slice sa sk2.length sc, .slice da bs2.length dc, .bool stays] 32)) w2.heap.size 32 [.int .i64 kind, .int .i64 N, .int .i64 to, .int .i64 place, .slice sa sk2.length sc, .slice da bs2.length dc, .bool stays]) := Blk.new w2 32 _
      have HRD3 : Hid (Rd (w2.alloc (.cells #[.int .i64 kind, .int .i64 N, .int .i64 to, .int .i64 place, .slice sa sk2.length sc, .slice da bs2.length dc, .bool stays] 32)) da (bvals bs2)) := HOKC.out.rd.alloc _
      have x5 := HX3.out.cell 5
      go_wp2_with (at_builtin; obtain ⟨v5, w5, hrun5, own5, grow5, at5⟩ := app_own byteE 30 (World.ownsRow_nil (w2.alloc (.cells #[.int .i64 kind, .int .i64 N, .int .i64 to, .int .i64 place, .slice sa sk2.length sc, .slice da bs2.length dc, .bool stays] 32)) w2.heap.size 5 1) (A := da) (news := bvals bs2) bs2.length dc HRD3.out (by rw [bvals_length, Nat.mul_one]) (bvals_one _) (by have := HDT.out; omega) (by have := HDT.out; unfold maxLen; omega) (by simp); refine wpl_append rfl (.tmp 35) (.tmp 37) 30 30 rfl _ _ rfl rfl hrun5 ?_; clear hrun5; simp only [Nat.zero_add, List.nil_append] at own5; obtain ⟨A5, c5, rfl, hl5, hm5⟩ := own_slice own5; have hbx5 : Blk w5 w2.heap.size 32 [.int .i64 kind, .int .i64 N, .int .i64 to, .int .i64 place, .slice sa sk2.length sc, .slice da bs2.length dc, .bool stays] := HX3.out.grown grow5 (by simp [Value.ownBlock]); have y0 := hbx5.cell 0; have y1 := hbx5.cell 1; have y2 := hbx5.cell 2; have y3 := hbx5.cell 3; have y4 := hbx5.cell 4; have y5 := hbx5.cell 5; have y6 := hbx5.cell 6)
      have HS6 : Hid (Below w2.heap.size w2 (w5.alloc (.cells #[.int .i64 kind, .int .i64 N, .int .i64 to, .int .i64 place, .slice sa sk2.length sc, .slice A5 bs2.length c5, .bool stays] 32))) := (((Below.refl _ _).alloc (Nat.le_refl _) _).grown grow5 (by simp) (fun g hg => by simp [Value.ownBlock] at hg)).alloc (by have := grow5.size; simp at this; omega) _
      have HO6 : Hid (GOwn (w5.alloc (.cells #[.int .i64 kind, .int .i64 N, .int .i64 to, .int .i64 place, .slice sa sk2.length sc, .slice A5 bs2.length c5, .bool stays] 32)) 5 1 (.slice A5 bs2.length c5) bs2.length (bvals bs2)) := (GOwn.of_own own5).keep fun g hg => Below.heap_alloc _ _ g (own5.lt g hg).2
      have HG6 : Hid (∀ a, A5 = some a → w2.heap.size ≤ a.block ∧ a.block < ((w5.alloc (.cells #[.int .i64 kind, .int .i64 N, .int .i64 to, .int .i64 place, .slice sa sk2.length sc, .slice A5 bs2.length c5, .bool stays] 32))).heap.size) := fun a ha => by
        subst ha
        have := own5.lt a.block rfl
        simp
        omega
      have HZ6 : Hid (bs2.length ≤ c5 ∧ c5 ≤ maxLen) := ⟨hl5, hm5⟩
      clear own5 grow5 at5 hbx5 x5 y0 y1 y2 y3 y4 y5 y6 HX3 HRD3 hl5 hm5
      generalize hW6 : (w5.alloc (.cells #[.int .i64 kind, .int .i64 N, .int .i64 to, .int .i64 place, .slice sa sk2.length sc, .slice A5 bs2.length c5, .bool stays] 32)) = W6 at *
      clear hW6
      have HB6 : Hid (Below w.heap.size w W6) := HB2.out.trans (HS6.out.mono HB2.out.size)
      have HT6 : Hid (Two w.heap.size W6 p q s s F G) := HT2.out.below HS6.out
      have HF6 : Hid (∀ a, A5 = some a → ¬ F a.block ∧ ¬ G a.block) := fun a ha => ⟨fun h => by have h1 := HT2.out.rp.lt _ h; have h2 := (HG6.out a ha).1; omega, fun h => by have h1 := HT2.out.rq.lt _ h; have h2 := (HG6.out a ha).1; omega⟩
      have HGB : Hid (∀ a, A5 = some a → w.heap.size ≤ a.block) := fun a ha => Nat.le_trans HB2.out.size (HG6.out a ha).1
      have HOK6 : Hid (Dd.ok W6 ⟨kind, N, to, place, sa, sk2, sc, A5, bs2, c5, stays⟩) := ⟨HOKC.out.rs.below HS6.out, HOKC.out.ls, HOKC.out.ms, HO6.out.rd, HZ6.out.1, HZ6.out.2, HOKC.out.k0, HOKC.out.k1⟩
      have HDO := Lib.hid (does_any ⟨kind, N, to, place, sa, sk2, sc, A5, bs2, c5, stays⟩ HT6.out HF.out HOK6.out (fun a ha hne => ⟨fun h => by have h1 := HT6.out.loF _ h; have h2 := HFAR.out a ha hne; omega, fun h => by have h1 := HT6.out.loG _ h; have h2 := HFAR.out a ha hne; omega⟩) (fun a ha _ => HF6.out a ha))
      have hl20 := HDT.out
      clear HB2 HT2 HOKC HFAR HS6 HZ6 HOK6 HDT
      refine HDO.out.mono ?_
      rintro e w7 ⟨rfl, ⟨s', F', G', ht', hf', hgf, hgg⟩, hb', hk'⟩
      have HT7 := Lib.hid ht'
      have HF7 := Lib.hid hf'
      have HB7 : Hid (Below w.heap.size w w7) := HB6.out.trans hb'
      have HO7 : Hid (GOwn w7 5 1 (.slice A5 bs2.length c5) bs2.length (bvals bs2)) := HO6.out.keep fun g hg => by
        cases A5 with
        | none => simp [Value.ownBlock] at hg
        | some a =>
          obtain rfl : a.block = g := by simpa [Value.ownBlock] using hg
          exact hk'.block (HG6.out a rfl).2 (fun h => h.elim (HF6.out a rfl).1 (HF6.out a rfl).2)
      have HN7 : Hid (∀ a, A5 = some a → ¬ F' a.block ∧ ¬ G' a.block) := fun a ha => ⟨fun h => by
        rcases hgf _ h with h | h
        · exact (HF6.out a ha).1 h
        · have := (HG6.out a ha).2; omega, fun h => by
        rcases hgg _ h with h | h
        · exact (HF6.out a ha).2 h
        · have := (HG6.out a ha).2; omega⟩
      clear ht' hf' hgf hgg hb' hk' HDO HT6 HB6 HF6 HG6 HO6
      generalize bvals bs2 = ys at *
      generalize bs2.length = n2 at *
      go_wp2_with fail
      go_loopw [10] (fun i wr => InvW w.heap.size w p q s' F' G' (.slice A5 n2 c5) n2 i wr) (fun i _ => n2 - (intOf i).toNat)
      case atStart => exact ⟨0, _, by omega, rfl, HT7.out, HO7.out, HB7.out⟩
      case round =>
        clear HT7 HO7 HB7
        obtain ⟨k2, xs, hk2, rfl, ht, ho, hb⟩ := hrel
        have HT8 := Lib.hid ht
        have HO8 := Lib.hid ho
        have HB8 := Lib.hid hb
        clear ht ho hb
        by_cases hlt2 : k2 < n2
        · have hlt2' : (k2 : Int) < (n2 : Int) := by omega
          obtain ⟨g8, off8, cap8, hv8, _, _, hg8⟩ := HO8.out.form (by omega)
          obtain ⟨rfl, rfl⟩ : A5 = some ⟨g8, off8, none⟩ ∧ c5 = cap8 := by injection hv8 with e1 _ e2; exact ⟨e1, e2⟩
          obtain ⟨v8, hc8⟩ := InvW.cell HO8.out hlt2
          have hfz8 := HO8.out.frozen (off8 + k2)
          have HST := Lib.hid (InvW.step hlt2 HT8.out HO8.out HB8.out (HGB.out _ rfl) (HN7.out _ rfl).1 (HN7.out _ rfl).2 (.int .u8 7))
          clear HT8 HO8 HB8 hv8
          go_wp2_with fail
          go_roundw
          case rel => exact HST.out
          case measure => simp [intOf]; omega
        · obtain rfl : k2 = n2 := by omega
          have HT0 := Lib.hid (take0_any HT8.out.rp HF7.out)
          clear HN7 HGB HO8
          go_wp2_with fail
          refine HT0.out.mono ?_
          rintro e w9 ⟨t9, A9, n9, c9, r9, xs9, rfl, hn9, ho9, hg9, hb9⟩
          have HT9 : Hid (Two w.heap.size w9 p q s' s' F' G') := HT8.out.below hb9
          have HB9 : Hid (Below w.heap.size w w9) := HB8.out.trans (hb9.mono HT8.out.lo)
          have HO9 := Lib.hid ho9
          have HN9 : Hid (∀ a, A9 = some a → ¬ F' a.block ∧ ¬ G' a.block) := fun a ha => ⟨fun h => by have h1 := HT8.out.rp.lt _ h; have h2 := (hg9 a ha).1; omega, fun h => by have h1 := HT8.out.rq.lt _ h; have h2 := (hg9 a ha).1; omega⟩
          have HGB9 : Hid (∀ a, A9 = some a → w.heap.size ≤ a.block) := fun a ha => Nat.le_trans HT8.out.lo (hg9 a ha).1
          clear ho9 hg9 hb9 HT8 HB8 HT0
          go_wp2_with fail
          obtain ⟨wo, rfl⟩ : ∃ wo : World, wo = wr := ⟨_, rfl⟩
          go_loopw [14] (fun i wr => InvW w.heap.size w p q s' F' G' (.slice A9 n9 c9) n9 i wr) (fun i _ => n9 - (intOf i).toNat)
          case atStart => exact ⟨0, _, by omega, rfl, HT9.out, HO9.out, HB9.out⟩
          case round =>
            clear HT9 HO9 HB9
            obtain ⟨k3, xs, hk3, rfl, ht, ho, hb⟩ := hrel
            have HT8 := Lib.hid ht
            have HO8 := Lib.hid ho
            have HB8 := Lib.hid hb
            clear ht ho hb
            by_cases hlt3 : k3 < n9
            · have hlt3' : (k3 : Int) < (n9 : Int) := by omega
              obtain ⟨g8, off8, cap8, hv8, _, _, hg8⟩ := HO8.out.form (by omega)
              obtain ⟨rfl, rfl⟩ : A9 = some ⟨g8, off8, none⟩ ∧ c9 = cap8 := by injection hv8 with e1 _ e2; exact ⟨e1, e2⟩
              obtain ⟨v8, hc8⟩ := InvW.cell HO8.out hlt3
              have hfz8 := HO8.out.frozen (off8 + k3)
              have HST := Lib.hid (InvW.step hlt3 HT8.out HO8.out HB8.out (HGB9.out _ rfl) (HN9.out _ rfl).1 (HN9.out _ rfl).2 (.int .u8 9))
              clear HT8 HO8 HB8 hv8
              go_wp2_with fail
              go_roundw
              case rel => exact HST.out
              case measure => simp [intOf]; omega
            · obtain rfl : k3 = n9 := by omega
              go_wp2_with fail
              go_roundw
              case rel => exact ⟨k + 1, s', F', G', by omega, by omega, by go_num, HT8.out, HF7.out, HB8.out⟩
              case measure => simp [intOf]; omega
    · have hx : ¬ (k : Int) < (m : Int) ∨ ((k : Int) < (m : Int) ∧ ¬ (k : Int) < 40) := by omega
      clear hlt hk hk1 HD HN hl
      have HLK := Lib.hid (like_any HT.out HF.out)
      rcases hx with hx | ⟨hx, hx2⟩
      all_goals
        go_wp2_with fail
        refine HLK.out.mono ?_
        rintro e w3 ⟨rfl, _, hb3⟩
        have HB3 : Hid (Below w.heap.size w w3) := HB.out.trans hb3
        clear hb3
        go_wp2_with fail
        refine (lives_any w3).mono ?_
        rintro e w4 ⟨rfl, hb4⟩
        have HB4 : Hid (Below w.heap.size w w4) := HB3.out.trans (hb4.mono HB3.out.size)
        clear hb4
        go_wp2_with fail
        go_ret
        exact ⟨rfl, HB4.out⟩
end Go.Proofs.Ytpljopocnlllcaa

/- does: a deed, of both structures. -/
import Derived.Test.YtpljopocnlllcaaD5
namespace Go.Proofs.Ytpljopocnlllcaa
open Go.RowKit
theorem does_any {B : Nat} {w : World} {p q : Nat} {s : St} {F G : Nat → Prop} (d : Dd) (h : Two B w p q s s F G) (hf : s.fine) (hd : d.ok w) (hfar : ∀ a, d.sa = some a → d.sk ≠ [] → ¬ F a.block ∧ ¬ G a.block) (hfd : ∀ a, d.da = some a → d.bs ≠ [] → ¬ F a.block ∧ ¬ G a.block) :
    Calls Try.prog 10 #[.pointer (some ⟨p, 0, none⟩), .pointer (some ⟨q, 0, none⟩), .agg d.cells.toArray] w (Acted B p q F G w) := by
  have h4 := pick_lt d.kind 4 (by omega)
  rcases (show pickF d.kind 4 = 0 ∨ pickF d.kind 4 = 1 ∨ pickF d.kind 4 = 2 ∨ pickF d.kind 4 = 3 by omega) with e | e | e | e
  · exact does_pass d h hf hd hfar hfd e
  · exact does_send d h hf hd hfar hfd e
  · exact does_take d h hf hd hfar hfd e
  · exact does_drop d h hf hd hfar hfd e
end Go.Proofs.Ytpljopocnlllcaa

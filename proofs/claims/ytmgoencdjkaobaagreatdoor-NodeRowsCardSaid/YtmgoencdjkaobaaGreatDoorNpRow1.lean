/- What the seat's rows have in common: the world in which a call begins is one of the calculus, where the listed variables hold what the row lists. The conditions stand in each. -/
import Derived.Test.YtmgoencdjkaobaaGreatDoorNpS
import Derived.Test.YtmgoencdjkaobaaGreatDoorNpO
import Derived.Test.YtmgoencdjkaobaaGreatDoorRows
import Derived.Test.YtmgoencdjkaobaaGreatDoorCards
import Derived.Test.YtmgoencdjkaobaaGreatDoorTie
import Derived.Lay
import Derived.MakeChecks
import Derived.SevenTiedAt
import Derived.Shelf.Vars
import Derived.OpenShut
import Derived.ProofKit
set_option linter.unusedVariables false
namespace Go.Proofs.YtmgoencdjkaobaaGreatDoor
open Go Go.Pe
theorem own : ownKnob Tryz.prog.godebug = none := by kernel_rfl
theorem laidOut : laidOutB Tryz.prog = true := by kernel_rfl
/-- The list of every row of the seat. -/
abbrev laidL : List (String × DataW Unit) := Rows.nodeRowsRow.laid
theorem laid_glob {W : World} (hL : laidMet Tryz.prog laidL W) (hsh : W.ShapedOpen Tryz.prog) : HeapRel X0 W [] [] := by
  have h1 : Lib.TabIs Tryz.prog W "internal/strconv.uint64pow10" .u64 Lib.pow10Tab := tab_at (g := 1) hL (show ("internal/strconv.uint64pow10", Rows.laid_internal_strconv_uint64pow10) ∈ laidL from .tail _ (.tail _ (.head _))) (by kernel_rfl) (t := 246) (by kernel_rfl) Tryz.underlying246 Tryz.underlying224 (by kernel_rfl) (by kernel_rfl)
  obtain ⟨te, pe, h2⟩ : ∃ u v, W.cell? ⟨5, 0, none⟩ = some (.iface u v) := iface_at (g := 5) hL (show ("strconv.ErrRange", Rows.laid_strconv_ErrRange) ∈ laidL from .tail _ (.tail _ (.tail _ (.tail _ (.head _))))) (by kernel_rfl) (t := 174) (by kernel_rfl) Tryz.underlying174
  obtain ⟨m, h3⟩ : ∃ m, W.cell? ⟨0, 0, none⟩ = some (.int .i64 m) := Go.Proofs.cell_of_shapedOpen_int (t := 3) (zero := #[.int .i64 0]) hsh (of_decide_eq_true (by kernel_rfl)) (by kernel_rfl) rfl (by kernel_rfl) (by kernel_rfl) Tryz.underlying3
  have size : ∀ (g : Nat) (v : Value), W.cell? ⟨g, 0, none⟩ = some v → g < W.heap.size := by
    intro g v h
    unfold World.cell? at h
    split at h
    · rename_i e; exact (Array.getElem?_eq_some_iff.1 e).1
    · cases h
  have s2 := size _ _ h2
  have s3 := size _ _ h3
  have s1 : 1 < W.heap.size := by
    have := World.var?_cell (by kernel_rfl : Tryz.prog.globalNamed "internal/strconv.uint64pow10" = some 1) h1 0
    exact size _ (.int .u64 1) (this.trans rfl)
  exact ⟨rfl, by simp, by simp, fun b h => h.elim, by simp, by simp, by simp, by simp, ⟨⟨h1, _, h2, .inr ⟨te, pe, rfl⟩, m, h3⟩, by show 6 ≤ _; omega, by simp⟩, ⟨rfl, rfl⟩, Nat.zero_le _, fun l r tm e => by cases e⟩
end Go.Proofs.YtmgoencdjkaobaaGreatDoor

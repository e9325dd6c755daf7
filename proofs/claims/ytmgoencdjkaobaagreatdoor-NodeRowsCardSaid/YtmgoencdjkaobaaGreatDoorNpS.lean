/- What is known of the seat's package-level variables. No conditions. -/
import Derived.Test.YtmgoencdjkaobaaGreatDoorPeK
import Derived.Test.YtmgoencdjkaobaaGreatDoorChecked
import Derived.Lib.LaidTab
import Derived.Shelf.Strconv.Itoa4
set_option linter.unusedVariables false
namespace Go.Proofs.YtmgoencdjkaobaaGreatDoor
open Go Go.Pe
theorem g_pow : Tryz.prog.globalNamed "internal/strconv.uint64pow10" = some 1 := by kernel_rfl
instance glob : Glob where
  n := 6
  laid := fun w => Lib.TabIs Tryz.prog w "internal/strconv.uint64pow10" .u64 Lib.pow10Tab ∧ ∃ ev, w.cell? ⟨5, 0, none⟩ = some ev ∧ (ev = .nilIface ∨ ∃ te pe, ev = .iface te pe) ∧ ∃ m, w.cell? ⟨0, 0, none⟩ = some (.int .i64 m)
  kept := by
    rintro w w' h ⟨h1, ev, h2, h3, m, h4⟩
    refine ⟨?_, ev, ?_, h3, m, ?_⟩
    · unfold Lib.TabIs World.var? at *
      rw [g_pow] at *
      simpa [h 1 (by decide)] using h1
    · rw [World.cell?_of_block (a := ⟨5, 0, none⟩) (h 5 (by decide))]; exact h2
    · rw [World.cell?_of_block (a := ⟨0, 0, none⟩) (h 0 (by decide))]; exact h4
  env := fun X => X.y = none ∧ X.N = 0
  exc := none
instance top : Top := ⟨rfl, fun X => Iff.rfl⟩
end Go.Proofs.YtmgoencdjkaobaaGreatDoor

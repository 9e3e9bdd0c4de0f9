/- The functions with the rules for slices.overlaps and slices.Insert ahead. -/
import Derived.Test.YtamemffnklfofaaGreatDoorCode
import Derived.Test.YtamemffnklfofaaGreatDoorAiInsert
import Derived.KernelRfl
namespace Go.Proofs.YtamemffnklfofaaGreatDoor
open Go.AI
set_option maxRecDepth 100000

theorem ovl_ok : OvlOk Tryz.prog (tabOf Tryz.prog) 78 := by
  obtain ⟨ei, hei⟩ := Option.isSome_iff_exists.mp (show (tabOf Tryz.prog 23).isSome = true by kernel_rfl)
  exact ⟨Tryz.f78, 31, 23, { u := .slice 23, size := 1, bytes := 24, zero := [.slice none 0 0], agg := false }, ei, Tryz.func78, by kernel_rfl, by kernel_rfl, by kernel_rfl, by kernel_rfl, by kernel_rfl, by kernel_rfl, rfl, hei⟩

noncomputable def FO : Nat → Option AFunc := withOvl FL 78
noncomputable def FX : Nat → Option AFunc := withIns FO 100000 53 2

theorem FO_ok : FOk Tryz.prog (tabOf Tryz.prog) 1 (drawOf (tabOf Tryz.prog) 1) FO := withOvl_ok (fun f af h => funcsOf_ok funcAt_ok f af (FL_ok f af h)) ovl_ok
theorem FO_ins : FO 53 = some ⟨[.tmp 6], insBody [.bool false, .int .i64 0] 2 16 78 79, .no⟩ := by kernel_rfl
theorem FX_ok : FOk Tryz.prog (tabOf Tryz.prog) 1 (drawOf (tabOf Tryz.prog) 1) FX :=
  withIns_ok FO_ok (tabOf_ok _) FO_ins (fov := ⟨[], .bad, .ovl⟩) rfl rfl rfl (by decide) (by decide)
end Go.Proofs.YtamemffnklfofaaGreatDoor

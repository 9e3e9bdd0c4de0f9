/- The functions with the rules for slices.overlaps and slices.Insert ahead. -/
import Derived.Test.YtaimplifmlljlaaGreatDoorCode
import Derived.Test.YtaimplifmlljlaaGreatDoorAiInsert
import Derived.KernelRfl
namespace Go.Proofs.YtaimplifmlljlaaGreatDoor
open Go.AI
set_option maxRecDepth 100000

theorem ovl_ins : OvlOk Tryz.prog (tabOf Tryz.prog) 71 := by
  obtain ⟨ei, hei⟩ := Option.isSome_iff_exists.mp (show (tabOf Tryz.prog 35).isSome = true by kernel_rfl)
  exact ⟨Tryz.f71, 40, 35, { u := .slice 35, size := 1, bytes := 24, zero := [.slice none 0 0], agg := false }, ei, Tryz.func71, by kernel_rfl, by kernel_rfl, by kernel_rfl, by kernel_rfl, by kernel_rfl, by kernel_rfl, rfl, hei⟩
theorem ovl_val : OvlOk Tryz.prog (tabOf Tryz.prog) 115 := by
  obtain ⟨ei, hei⟩ := Option.isSome_iff_exists.mp (show (tabOf Tryz.prog 32).isSome = true by kernel_rfl)
  exact ⟨Tryz.f115, 33, 32, { u := .slice 32, size := 1, bytes := 24, zero := [.slice none 0 0], agg := false }, ei, Tryz.func115, by kernel_rfl, by kernel_rfl, by kernel_rfl, by kernel_rfl, by kernel_rfl, by kernel_rfl, rfl, hei⟩

noncomputable def FO : Nat → Option AFunc := withOvl (withOvl FL 115) 71
noncomputable def FI : Nat → Option AFunc := withIns FO 100000 43 8
noncomputable def FX : Nat → Option AFunc := withIns FI 100000 98 2

theorem FO_ok : FOk Tryz.prog (tabOf Tryz.prog) 1 (drawOf (tabOf Tryz.prog) 1) FO := withOvl_ok (withOvl_ok (fun f af h => funcsOf_ok funcAt_ok f af (FL_ok f af h)) ovl_val) ovl_ins
theorem FO_ins : FO 43 = some ⟨[.tmp 6], insBody [.int .i64 0, .int .i64 0, .bool false, .int .i64 0, .bool false, .int .i64 0, .int .i64 0, .slice none 0 0] 8 80 71 72, .no⟩ := by kernel_rfl
theorem FI_ok : FOk Tryz.prog (tabOf Tryz.prog) 1 (drawOf (tabOf Tryz.prog) 1) FI :=
  withIns_ok FO_ok (tabOf_ok _) FO_ins (fov := ⟨[], .bad, .ovl⟩) rfl rfl rfl (by decide) (by decide)
theorem FI_ins : FI 98 = some ⟨[.tmp 6], insBody [.bool false, .int .i64 0] 2 16 115 116, .no⟩ := by kernel_rfl
theorem FX_ok : FOk Tryz.prog (tabOf Tryz.prog) 1 (drawOf (tabOf Tryz.prog) 1) FX :=
  withIns_ok FI_ok (tabOf_ok _) FI_ins (fov := ⟨[], .bad, .ovl⟩) rfl rfl rfl (by decide) (by decide)
end Go.Proofs.YtaimplifmlljlaaGreatDoor

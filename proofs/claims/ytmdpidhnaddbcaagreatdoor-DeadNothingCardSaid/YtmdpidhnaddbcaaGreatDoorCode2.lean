/- One function's code more. -/
import Derived.Test.YtmdpidhnaddbcaaGreatDoorCodeB
import Derived.KernelRfl
namespace Go.Proofs.YtmdpidhnaddbcaaGreatDoor
open Go.AI
set_option maxRecDepth 100000
def r_slices_IndexFunc_int_int_0 : ACode := (.seq (.ops [⟨(some 9), none, (.bin .lss [] (.tmp 8) (.tmp 7))⟩]) (.seq (.cond (.tmp 9) .skip (.exit 0)) (.seq (.block 1 (.seq (.ops [⟨(some 10), none, (.mv (.tmp 8))⟩, ⟨(some 5), none, (.mv (.tmp 10))⟩]) (.seq (.ops [⟨(some 11), none, (.mv (.tmp 1))⟩, ⟨(some 12), none, (.mv (.tmp 0))⟩, ⟨(some 13), none, (.mv (.tmp 5))⟩, ⟨(some 14), none, (.iaddr none 1 (.tmp 12) (.tmp 13))⟩, ⟨(some 15), none, (.load none (.tmp 14))⟩, ⟨(some 16), none, (.call (.tmp 11) [(.tmp 15)])⟩]) (.cond (.tmp 16) (.seq (.ops [⟨(some 17), none, (.mv (.tmp 5))⟩, ⟨(some 4), none, (.mv (.tmp 17))⟩]) .ret) .skip)))) (.ops [⟨(some 18), none, (.bin .add [] (.tmp 8) (.const (.int .i64 1)))⟩, ⟨(some 8), none, (.mv (.tmp 18))⟩]))))
abbrev n_slices_IndexFunc_int_int : Nat := 93
def b_slices_IndexFunc_int_int : ACode := (.seq (.ops [⟨(some 4), none, (.mv (.const (.int .i64 0)))⟩]) (.seq (.seq (.ops [⟨(some 6), none, (.mv (.tmp 0))⟩, ⟨(some 7), none, (.blen (.tmp 6))⟩, ⟨(some 8), none, (.mv (.const (.int .i64 0)))⟩]) (.block 0 (.loop r_slices_IndexFunc_int_int_0))) (.seq (.ops [⟨(some 4), none, (.mv (.const (.int .i64 (Int.negSucc 0))))⟩]) .ret)))
theorem c_slices_IndexFunc_int_int : FF n_slices_IndexFunc_int_int = some ⟨[(.tmp 4)], b_slices_IndexFunc_int_int, .no⟩ := by kernel_rfl
end Go.Proofs.YtmdpidhnaddbcaaGreatDoor

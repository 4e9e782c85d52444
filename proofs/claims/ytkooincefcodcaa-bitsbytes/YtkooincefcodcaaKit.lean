import Derived.Test.YtkooincefcodcaaChecked
import Derived.Test.YtkooincefcodcaaX3
import Derived.KernelRfl
set_option maxRecDepth 100000
namespace Go.Xr.Try
open Go Go.Xr
def tds : List (Nat × TD) := [(3, .pure (.int .i64)), (4, .pure .bool), (5, .pure (.int .u8)), (9, .pure .str), (22, .slice 3), (24, .slice 5), (34, .slice 43), (35, .ptr 37), (37, .struct [24, 3]), (38, .ptr 40), (40, .struct [24]), (41, .pure (.int .i64)), (43, .pure (.arr 2 (.int .i64))), (45, .ptr 102), (47, .ptr 49), (49, .struct [24, 3]), (102, .struct [24, 3])]
noncomputable def fns : List (Nat × Func) := [(5, Go.Proofs.Try.f5), (6, Go.Proofs.Try.f6), (7, Go.Proofs.Try.f7), (18, Go.Proofs.Try.f18), (21, Go.Proofs.Try.f21), (22, Go.Proofs.Try.f22), (23, Go.Proofs.Try.f23), (24, Go.Proofs.Try.f24), (25, Go.Proofs.Try.f25), (26, Go.Proofs.Try.f26), (27, Go.Proofs.Try.f27), (28, Go.Proofs.Try.f28), (29, Go.Proofs.Try.f29), (30, Go.Proofs.Try.f30), (31, Go.Proofs.Try.f31), (32, Go.Proofs.Try.f32), (33, Go.Proofs.Try.f33), (61, Go.Proofs.Try.f61)]
def vrs : List (Nat × List Nat) := [(5, [0, 1, 2, 6, 7, 8, 9, 10, 11, 12, 13, 14, 15, 16]), (6, [0, 2, 3, 4, 5, 6, 7, 8, 9, 10, 11, 12]), (7, [0, 1, 4, 5, 6, 7, 8, 9, 10, 11, 12]), (18, [0, 1, 4]), (21, [0, 1, 2, 3, 4, 5, 6, 7, 9, 11, 12, 13, 15]), (22, [0, 1, 2, 6, 7]), (23, [0, 1, 2, 6, 7]), (24, [0, 2]), (25, [0, 2]), (26, [0, 2]), (27, [0, 2, 3, 4]), (28, [0, 1, 4, 5, 22, 23]), (29, [0, 1, 4, 5, 6, 7]), (30, [0, 2]), (31, [0, 2]), (32, [0, 2, 3]), (33, [0, 2, 3, 4]), (61, [0, 2])]
noncomputable def K : Kit := mkKit tds fns vrs
theorem K_ok : KitOK Go.Proofs.Try.prog K := mkKit_ok (by kernel_rfl) ⟨⟨Go.Proofs.Try.func5, by kernel_rfl⟩, ⟨Go.Proofs.Try.func6, by kernel_rfl⟩, ⟨Go.Proofs.Try.func7, by kernel_rfl⟩, ⟨Go.Proofs.Try.func18, by kernel_rfl⟩, ⟨Go.Proofs.Try.func21, by kernel_rfl⟩, ⟨Go.Proofs.Try.func22, by kernel_rfl⟩, ⟨Go.Proofs.Try.func23, by kernel_rfl⟩, ⟨Go.Proofs.Try.func24, by kernel_rfl⟩, ⟨Go.Proofs.Try.func25, by kernel_rfl⟩, ⟨Go.Proofs.Try.func26, by kernel_rfl⟩, ⟨Go.Proofs.Try.func27, by kernel_rfl⟩, ⟨Go.Proofs.Try.func28, by kernel_rfl⟩, ⟨Go.Proofs.Try.func29, by kernel_rfl⟩, ⟨Go.Proofs.Try.func30, by kernel_rfl⟩, ⟨Go.Proofs.Try.func31, by kernel_rfl⟩, ⟨Go.Proofs.Try.func32, by kernel_rfl⟩, ⟨Go.Proofs.Try.func33, by kernel_rfl⟩, ⟨Go.Proofs.Try.func61, by kernel_rfl⟩, trivial⟩ (by kernel_rfl)
end Go.Xr.Try

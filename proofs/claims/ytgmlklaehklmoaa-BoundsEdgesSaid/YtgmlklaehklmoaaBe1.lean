/- BoundsEdges at 128 of its 512 inputs, by computation. (A help: no statement of the seat is proved here.) -/
import Derived.Test.YtgmlklaehklmoaaVmE
import Derived.Test.YtgmlklaehklmoaaChecked
import Derived.KernelRfl
namespace Go.Vm
open Go.Proofs
set_option maxRecDepth 1000000
theorem edges_true_0 : ((List.range 16).all fun i => isTrue (callA_ Try.prog 60 4 [.int .u8 ((i + 0 : Nat) : Int), .bool true] ⟨0, .leaf⟩)) = true := by kernel_rfl
theorem edges_true_1 : ((List.range 16).all fun i => isTrue (callA_ Try.prog 60 4 [.int .u8 ((i + 16 : Nat) : Int), .bool true] ⟨0, .leaf⟩)) = true := by kernel_rfl
theorem edges_true_2 : ((List.range 16).all fun i => isTrue (callA_ Try.prog 60 4 [.int .u8 ((i + 32 : Nat) : Int), .bool true] ⟨0, .leaf⟩)) = true := by kernel_rfl
theorem edges_true_3 : ((List.range 16).all fun i => isTrue (callA_ Try.prog 60 4 [.int .u8 ((i + 48 : Nat) : Int), .bool true] ⟨0, .leaf⟩)) = true := by kernel_rfl
theorem edges_true_4 : ((List.range 16).all fun i => isTrue (callA_ Try.prog 60 4 [.int .u8 ((i + 64 : Nat) : Int), .bool true] ⟨0, .leaf⟩)) = true := by kernel_rfl
theorem edges_true_5 : ((List.range 16).all fun i => isTrue (callA_ Try.prog 60 4 [.int .u8 ((i + 80 : Nat) : Int), .bool true] ⟨0, .leaf⟩)) = true := by kernel_rfl
theorem edges_true_6 : ((List.range 16).all fun i => isTrue (callA_ Try.prog 60 4 [.int .u8 ((i + 96 : Nat) : Int), .bool true] ⟨0, .leaf⟩)) = true := by kernel_rfl
theorem edges_true_7 : ((List.range 16).all fun i => isTrue (callA_ Try.prog 60 4 [.int .u8 ((i + 112 : Nat) : Int), .bool true] ⟨0, .leaf⟩)) = true := by kernel_rfl
end Go.Vm

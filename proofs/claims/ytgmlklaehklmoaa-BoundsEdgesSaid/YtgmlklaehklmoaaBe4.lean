/- BoundsEdges at 128 of its 512 inputs, by computation. (A help: no statement of the seat is proved here.) -/
import Derived.Test.YtgmlklaehklmoaaVmE
import Derived.Test.YtgmlklaehklmoaaChecked
import Derived.KernelRfl
namespace Go.Vm
open Go.Proofs
set_option maxRecDepth 1000000
theorem edges_false_8 : ((List.range 16).all fun i => isTrue (callA_ Try.prog 60 4 [.int .u8 ((i + 128 : Nat) : Int), .bool false] ⟨0, .leaf⟩)) = true := by kernel_rfl
theorem edges_false_9 : ((List.range 16).all fun i => isTrue (callA_ Try.prog 60 4 [.int .u8 ((i + 144 : Nat) : Int), .bool false] ⟨0, .leaf⟩)) = true := by kernel_rfl
theorem edges_false_10 : ((List.range 16).all fun i => isTrue (callA_ Try.prog 60 4 [.int .u8 ((i + 160 : Nat) : Int), .bool false] ⟨0, .leaf⟩)) = true := by kernel_rfl
theorem edges_false_11 : ((List.range 16).all fun i => isTrue (callA_ Try.prog 60 4 [.int .u8 ((i + 176 : Nat) : Int), .bool false] ⟨0, .leaf⟩)) = true := by kernel_rfl
theorem edges_false_12 : ((List.range 16).all fun i => isTrue (callA_ Try.prog 60 4 [.int .u8 ((i + 192 : Nat) : Int), .bool false] ⟨0, .leaf⟩)) = true := by kernel_rfl
theorem edges_false_13 : ((List.range 16).all fun i => isTrue (callA_ Try.prog 60 4 [.int .u8 ((i + 208 : Nat) : Int), .bool false] ⟨0, .leaf⟩)) = true := by kernel_rfl
theorem edges_false_14 : ((List.range 16).all fun i => isTrue (callA_ Try.prog 60 4 [.int .u8 ((i + 224 : Nat) : Int), .bool false] ⟨0, .leaf⟩)) = true := by kernel_rfl
theorem edges_false_15 : ((List.range 16).all fun i => isTrue (callA_ Try.prog 60 4 [.int .u8 ((i + 240 : Nat) : Int), .bool false] ⟨0, .leaf⟩)) = true := by kernel_rfl
end Go.Vm

/- BoundsEdges: each of its inputs is one of 512. (A help: no statement of the seat is proved here.) -/
import Derived.Test.YtgmlklaehklmoaaBe1
import Derived.Test.YtgmlklaehklmoaaBe2
import Derived.Test.YtgmlklaehklmoaaBe3
import Derived.Test.YtgmlklaehklmoaaBe4
namespace Go.Vm
open Go.Proofs

theorem sixteen {f : Nat → Option (AV × Heap)} {o k : Nat} (h : ((List.range 16).all fun i => isTrue (f (i + o))) = true) (h1 : o ≤ k) (h2 : k < o + 16) : ∃ H', f k = some (.bool true, H') := by
  have := isTrue_spec (List.all_eq_true.mp h (k - o) (List.mem_range.mpr (by omega)))
  rwa [show k - o + o = k by omega] at this

theorem edges_at (a0 : Int) (a1 : Bool) (h0 : 0 ≤ a0) (h1 : a0 < 256) : ∃ H', callA_ Try.prog 60 4 [.int .u8 a0, .bool a1] ⟨0, .leaf⟩ = some (.bool true, H') := by
  obtain ⟨k, rfl⟩ := Int.eq_ofNat_of_zero_le h0
  have hk : k < 256 := by omega
  cases a1 with
  | true =>
    by_cases c0 : k < 16
    · exact sixteen (f := fun k => callA_ Try.prog 60 4 [.int .u8 (k : Int), .bool true] ⟨0, .leaf⟩) edges_true_0 (by omega) (by omega)
    by_cases c1 : k < 32
    · exact sixteen (f := fun k => callA_ Try.prog 60 4 [.int .u8 (k : Int), .bool true] ⟨0, .leaf⟩) edges_true_1 (by omega) (by omega)
    by_cases c2 : k < 48
    · exact sixteen (f := fun k => callA_ Try.prog 60 4 [.int .u8 (k : Int), .bool true] ⟨0, .leaf⟩) edges_true_2 (by omega) (by omega)
    by_cases c3 : k < 64
    · exact sixteen (f := fun k => callA_ Try.prog 60 4 [.int .u8 (k : Int), .bool true] ⟨0, .leaf⟩) edges_true_3 (by omega) (by omega)
    by_cases c4 : k < 80
    · exact sixteen (f := fun k => callA_ Try.prog 60 4 [.int .u8 (k : Int), .bool true] ⟨0, .leaf⟩) edges_true_4 (by omega) (by omega)
    by_cases c5 : k < 96
    · exact sixteen (f := fun k => callA_ Try.prog 60 4 [.int .u8 (k : Int), .bool true] ⟨0, .leaf⟩) edges_true_5 (by omega) (by omega)
    by_cases c6 : k < 112
    · exact sixteen (f := fun k => callA_ Try.prog 60 4 [.int .u8 (k : Int), .bool true] ⟨0, .leaf⟩) edges_true_6 (by omega) (by omega)
    by_cases c7 : k < 128
    · exact sixteen (f := fun k => callA_ Try.prog 60 4 [.int .u8 (k : Int), .bool true] ⟨0, .leaf⟩) edges_true_7 (by omega) (by omega)
    by_cases c8 : k < 144
    · exact sixteen (f := fun k => callA_ Try.prog 60 4 [.int .u8 (k : Int), .bool true] ⟨0, .leaf⟩) edges_true_8 (by omega) (by omega)
    by_cases c9 : k < 160
    · exact sixteen (f := fun k => callA_ Try.prog 60 4 [.int .u8 (k : Int), .bool true] ⟨0, .leaf⟩) edges_true_9 (by omega) (by omega)
    by_cases c10 : k < 176
    · exact sixteen (f := fun k => callA_ Try.prog 60 4 [.int .u8 (k : Int), .bool true] ⟨0, .leaf⟩) edges_true_10 (by omega) (by omega)
    by_cases c11 : k < 192
    · exact sixteen (f := fun k => callA_ Try.prog 60 4 [.int .u8 (k : Int), .bool true] ⟨0, .leaf⟩) edges_true_11 (by omega) (by omega)
    by_cases c12 : k < 208
    · exact sixteen (f := fun k => callA_ Try.prog 60 4 [.int .u8 (k : Int), .bool true] ⟨0, .leaf⟩) edges_true_12 (by omega) (by omega)
    by_cases c13 : k < 224
    · exact sixteen (f := fun k => callA_ Try.prog 60 4 [.int .u8 (k : Int), .bool true] ⟨0, .leaf⟩) edges_true_13 (by omega) (by omega)
    by_cases c14 : k < 240
    · exact sixteen (f := fun k => callA_ Try.prog 60 4 [.int .u8 (k : Int), .bool true] ⟨0, .leaf⟩) edges_true_14 (by omega) (by omega)
    by_cases c15 : k < 256
    · exact sixteen (f := fun k => callA_ Try.prog 60 4 [.int .u8 (k : Int), .bool true] ⟨0, .leaf⟩) edges_true_15 (by omega) (by omega)
    omega
  | false =>
    by_cases c0 : k < 16
    · exact sixteen (f := fun k => callA_ Try.prog 60 4 [.int .u8 (k : Int), .bool false] ⟨0, .leaf⟩) edges_false_0 (by omega) (by omega)
    by_cases c1 : k < 32
    · exact sixteen (f := fun k => callA_ Try.prog 60 4 [.int .u8 (k : Int), .bool false] ⟨0, .leaf⟩) edges_false_1 (by omega) (by omega)
    by_cases c2 : k < 48
    · exact sixteen (f := fun k => callA_ Try.prog 60 4 [.int .u8 (k : Int), .bool false] ⟨0, .leaf⟩) edges_false_2 (by omega) (by omega)
    by_cases c3 : k < 64
    · exact sixteen (f := fun k => callA_ Try.prog 60 4 [.int .u8 (k : Int), .bool false] ⟨0, .leaf⟩) edges_false_3 (by omega) (by omega)
    by_cases c4 : k < 80
    · exact sixteen (f := fun k => callA_ Try.prog 60 4 [.int .u8 (k : Int), .bool false] ⟨0, .leaf⟩) edges_false_4 (by omega) (by omega)
    by_cases c5 : k < 96
    · exact sixteen (f := fun k => callA_ Try.prog 60 4 [.int .u8 (k : Int), .bool false] ⟨0, .leaf⟩) edges_false_5 (by omega) (by omega)
    by_cases c6 : k < 112
    · exact sixteen (f := fun k => callA_ Try.prog 60 4 [.int .u8 (k : Int), .bool false] ⟨0, .leaf⟩) edges_false_6 (by omega) (by omega)
    by_cases c7 : k < 128
    · exact sixteen (f := fun k => callA_ Try.prog 60 4 [.int .u8 (k : Int), .bool false] ⟨0, .leaf⟩) edges_false_7 (by omega) (by omega)
    by_cases c8 : k < 144
    · exact sixteen (f := fun k => callA_ Try.prog 60 4 [.int .u8 (k : Int), .bool false] ⟨0, .leaf⟩) edges_false_8 (by omega) (by omega)
    by_cases c9 : k < 160
    · exact sixteen (f := fun k => callA_ Try.prog 60 4 [.int .u8 (k : Int), .bool false] ⟨0, .leaf⟩) edges_false_9 (by omega) (by omega)
    by_cases c10 : k < 176
    · exact sixteen (f := fun k => callA_ Try.prog 60 4 [.int .u8 (k : Int), .bool false] ⟨0, .leaf⟩) edges_false_10 (by omega) (by omega)
    by_cases c11 : k < 192
    · exact sixteen (f := fun k => callA_ Try.prog 60 4 [.int .u8 (k : Int), .bool false] ⟨0, .leaf⟩) edges_false_11 (by omega) (by omega)
    by_cases c12 : k < 208
    · exact sixteen (f := fun k => callA_ Try.prog 60 4 [.int .u8 (k : Int), .bool false] ⟨0, .leaf⟩) edges_false_12 (by omega) (by omega)
    by_cases c13 : k < 224
    · exact sixteen (f := fun k => callA_ Try.prog 60 4 [.int .u8 (k : Int), .bool false] ⟨0, .leaf⟩) edges_false_13 (by omega) (by omega)
    by_cases c14 : k < 240
    · exact sixteen (f := fun k => callA_ Try.prog 60 4 [.int .u8 (k : Int), .bool false] ⟨0, .leaf⟩) edges_false_14 (by omega) (by omega)
    by_cases c15 : k < 256
    · exact sixteen (f := fun k => callA_ Try.prog 60 4 [.int .u8 (k : Int), .bool false] ⟨0, .leaf⟩) edges_false_15 (by omega) (by omega)
    omega

theorem walkEdges (a0 : Int) (a1 : Bool) (w0 : (Lit.int .u8 a0).wf = true) (w : World) :
    Calls Try.prog 4 #[.int .u8 a0, .bool a1] w fun e w' => e = .returned (.bool true) ∧ Kept w w' := by
  have hr : 0 ≤ a0 ∧ a0 < 256 := by
    simp [Lit.wf, IntKind.min, IntKind.max, IntKind.signed, IntKind.bits] at w0
    omega
  obtain ⟨H', h⟩ := edges_at a0 a1 hr.1 hr.2
  exact runs_true (by kernel_rfl) h (rel_empty w) (.cons _ _ _ _ (.int _ _) (.cons _ _ _ _ (.bool _) .nil)) (fun g cs e => by simp [Heap.get, Trie.get_leaf])
end Go.Vm

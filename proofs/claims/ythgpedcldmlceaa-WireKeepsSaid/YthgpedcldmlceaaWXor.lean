/-
  The loops that write over a packet's bytes.
-/
import Derived.Test.YthgpedcldmlceaaWMu
set_option linter.unusedVariables false
set_option linter.unusedSimpArgs false
namespace Go.VM
open Go Go.RowKit Go.Proofs

/-- One loop with its slots: the packet's, the counter's, the first of the others; the blocks' numbers; what is turned. -/
def xorLoop (p i t : Nat) (e b : Nat) (x : Int) : Cd := (.seq (.seq (.reg [] [.run ⟨(some t), none, .f (.mv (.t i))⟩,
    .run ⟨(some (t + 1)), none, .f (.fieldAddr 2 (.t p))⟩,
    .run ⟨(some (t + 2)), none, .f (.load false 1 (.t (t + 1)))⟩,
    .run ⟨(some (t + 3)), none, .f (.len .sl (.t (t + 2)))⟩,
    .run ⟨(some (t + 4)), none, .f (.bin .lss (.t t) (.t (t + 3)))⟩])
   (.ite (.t (t + 4))
   .skip
   (.exit e)))
   (.seq (.blk b (.reg [0, 1, 2, 3, 4, 5, 6, 7, 8, 9, 10] [.run ⟨(some (t + 7)), none, .f (.fieldAddr 2 (.t p))⟩,
    .run ⟨(some (t + 8)), none, .f (.load false 1 (.t (t + 7)))⟩,
    .run ⟨(some (t + 9)), none, .f (.mv (.t i))⟩,
    .run ⟨(some (t + 10)), none, .f (.fieldAddr 2 (.t p))⟩,
    .run ⟨(some (t + 11)), none, .f (.load false 1 (.t (t + 10)))⟩,
    .run ⟨(some (t + 12)), none, .f (.mv (.t i))⟩,
    .run ⟨(some (t + 13)), none, .f (.indexAddr 1 (.t (t + 11)) (.t (t + 12)))⟩,
    .run ⟨(some (t + 14)), none, .f (.load false 1 (.t (t + 13)))⟩,
    .run ⟨(some (t + 15)), none, .f (.bin .xor (.t (t + 14)) (.c (.int .u8 x)))⟩,
    .run ⟨(some (t + 16)), none, .f (.indexAddr 1 (.t (t + 8)) (.t (t + 9)))⟩,
    .run ⟨none, none, .e (.store 1 (.t (t + 16)) (.t (t + 15)))⟩]))
   (.reg [] [.run ⟨(some (t + 5)), none, .f (.mv (.t i))⟩,
    .run ⟨(some (t + 6)), none, .f (.bin .add (.t (t + 5)) (.c (.int .i64 1)))⟩,
    .run ⟨(some i), none, .f (.mv (.t (t + 6)))⟩])))
theorem xor_0 : l5_0 = xorLoop 4 5 34 0 1 1 := rfl
theorem xor_1 : l5_1 = xorLoop 6 8 56 2 3 2 := rfl
theorem xor_2 : l5_2 = xorLoop 9 11 78 4 5 4 := rfl

def AllU8 (cs : List V) : Prop := ∀ c ∈ cs, ∃ n : Int, c = .int .u8 n

theorem xor_u8 (n x : Int) : ∃ m, V.bin .xor (.int .u8 n) (.int .u8 x) = some (.int .u8 m) := ⟨_, rfl⟩
end Go.VM

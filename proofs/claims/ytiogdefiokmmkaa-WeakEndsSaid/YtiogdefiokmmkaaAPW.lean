/- The names of weak's arena. No conditions. -/
import Derived.Test.YtiogdefiokmmkaaG0
namespace Go.Proofs.Ytiogdefiokmmkaa
abbrev TArena : Nat := T_arena_Arena_weak_block_
abbrev TSpot : Nat := T_arena_spot_weak_block_
abbrev TSpots : Nat := T_sl_arena_spot_ptr_weak_block
end Go.Proofs.Ytiogdefiokmmkaa

/- The names of heap's arena. No conditions. -/
import Derived.Test.YtgchemgnmijpdaaG0
import Derived.Test.YtgchemgnmijpdaaG1
namespace Go.Proofs.Ytgchemgnmijpdaa
abbrev TArena : Nat := T_arena_Arena_heap_object_
abbrev TSpot : Nat := T_arena_spot_heap_object_
abbrev TSpots : Nat := T_sl_arena_spot_ptr_heap_object
end Go.Proofs.Ytgchemgnmijpdaa

/- Seat 29: the table that math/bits holds. No condition. -/
import Derived.Test.YtjbgdpfkmcibbaaGreatDoorSimV
import Derived.Test.YtjbgdpfkmcibbaaGreatDoorRows
namespace Go.Proofs.YtjbgdpfkmcibbaaGreatDoor.Sim
def tab : List Int := [0, 1, 56, 2, 57, 49, 28, 3, 61, 58, 42, 50, 38, 29, 17, 4, 62, 47, 59, 36, 45, 43, 51, 22, 53, 39, 33, 30, 24, 18, 12, 5,
  63, 55, 48, 27, 60, 41, 37, 16, 46, 35, 44, 21, 52, 32, 23, 11, 54, 26, 40, 15, 34, 20, 31, 10, 25, 14, 19, 9, 13, 8, 7, 6]
theorem tab_laid : (Rows.laid_math_bits_deBruijn64tab : DataW Unit) = .agg (tab.map fun x => .lit (.int .u8 x)) := rfl
end Go.Proofs.YtjbgdpfkmcibbaaGreatDoor.Sim

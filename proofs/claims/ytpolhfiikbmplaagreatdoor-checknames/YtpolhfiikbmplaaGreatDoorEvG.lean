/-
The program's tables that nobody writes, as the seat's dump numbers them: by hand for every seat.
-/
import Derived.Orders
namespace Go.Ev
def pow10s : Nat → Int → List Int
  | 0, _ => []
  | n + 1, k => k :: pow10s n (k * 10)
def gtab : List (Nat × IntKind × List Int) := [
  (1, .u64, pow10s 20 1),
  (0, .u8, [0, 1, 28, 2, 29, 14, 24, 3, 30, 22, 20, 15, 25, 17, 4, 8, 31, 27, 13, 23, 21, 19, 16, 7, 26, 12, 18, 6, 11, 5, 10, 9]),
  (2, .u8, [0, 1, 56, 2, 57, 49, 28, 3, 61, 58, 42, 50, 38, 29, 17, 4, 62, 47, 59, 36, 45, 43, 51, 22, 53, 39, 33, 30, 24, 18, 12, 5,
    63, 55, 48, 27, 60, 41, 37, 16, 46, 35, 44, 21, 52, 32, 23, 11, 54, 26, 40, 15, 34, 20, 31, 10, 25, 14, 19, 9, 13, 8, 7, 6])]
end Go.Ev

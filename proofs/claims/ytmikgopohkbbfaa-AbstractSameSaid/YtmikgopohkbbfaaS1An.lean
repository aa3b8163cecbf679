/- What the compiler is told of the functions of this seat: which variables lie on the heap, which slices are one's own. -/
import Derived.Test.YtmikgopohkbbfaaB
namespace Go.Ab
def an : An := { heap := fun _ => [], fz := fun f => if f == 20 then [3] else [], arr := fun f => if [9, 10, 19, 25, 30].contains f then List.range 200 else [], raw := fun f => [13, 14, 15, 16, 17, 18, 19, 20, 21, 25, 30].contains f, glob := fun _ => none }
end Go.Ab

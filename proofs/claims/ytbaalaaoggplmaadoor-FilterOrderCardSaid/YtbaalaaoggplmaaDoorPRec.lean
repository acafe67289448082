/- A part of a proof: what functions of the program compute. -/
import Derived.Test.YtbaalaaoggplmaaDoorPName
/-! What is wrong with a record. -/
namespace Go.Sl
def valOk (s : ByteArray) : Bool := (bytesI s).all fun c => decide (33 ≤ c) && decide (c ≤ 126)
def checkR (r : Rc) (m : Int) : Int :=
  if m < 1 ∨ 8 < m ∨ r.site < 0 ∨ m ≤ r.site ∨ r.seq < 1 ∨ 1048576 < r.seq then 1
  else if checkV r.dep m ≠ 0 then checkV r.dep m
  else if r.seq ≤ getI r.dep r.site then 13
  else if r.key.size < 1 ∨ 8 < r.key.size ∨ nameOk r.key = false then 3
  else if valOk r.val = false then 2
  else if 16 < r.val.size then 4 else 0
end Go.Sl

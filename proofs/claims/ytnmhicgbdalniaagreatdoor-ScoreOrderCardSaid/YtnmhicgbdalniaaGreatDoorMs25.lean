import Derived.Test.YtnmhicgbdalniaaGreatDoorMs23
namespace Go.Proofs.YtnmhicgbdalniaaGreatDoor
open Go.RowKit

/-! Who stands too close: the plain law of what SpreadBad asks. -/
def isNm (name : ByteArray) (p : Pd) : Bool := decide (p.name = name)
def dropS (s : St) (name : ByteArray) : St := { s with pods := s.pods.filter fun p => !isNm name p }
end Go.Proofs.YtnmhicgbdalniaaGreatDoor
namespace Go.Proofs.YtnmhicgbdalniaaGreatDoor
open Go.RowKit

/-! Where a pod fits, and by which way: the plain law. -/
def holdsV (t : Term) (s : List Pair) : Bool :=
  if t.op = 1 then (getV s t.key).2 && decide ((getV s t.key).1 = t.val)
  else if t.op = 2 then !(getV s t.key).2 || !decide ((getV s t.key).1 = t.val)
  else if t.op = 3 then (getV s t.key).2
  else decide (t.op = 4) && !(getV s t.key).2
def matchV (l : List Term) (s : List Pair) : Bool := l.all fun t => holdsV t s
def bearB (t x : Tnt) : Bool := (decide (x.key = ⟨#[]⟩) || decide (x.key = t.key)) && (x.b || decide (x.val = t.val))
def bearsV (l : List Tnt) (t : Tnt) : Bool := l.any (bearB t)
def zTnt : Tnt := ⟨⟨#[]⟩, ⟨#[]⟩, false⟩
def worstV (l : List Tnt) : List Tnt → Tnt × Bool
  | [] => (zTnt, false)
  | x :: r => if (x.b && !bearsV l x) = true then (x, true) else worstV l r
def softV (l : List Tnt) (t : List Tnt) : Nat := t.countP fun x => !x.b && !bearsV l x
def subN (a b : Int) : Int × Int := if a < 0 then (0, 1) else if b < 0 then (0, 1) else if a < b then (0, 5) else (a - b, 0)
def subL (a b : List Amt) : List ByteArray → List Amt → List Amt × Int
  | [], out => if 8 < out.length then ([], 4) else (out, 0)
  | x :: r, out => if (subN (getA a x) (getA b x)).2 ≠ 0 then ([], (subN (getA a x) (getA b x)).2) else subL a b r (if 0 < (subN (getA a x) (getA b x)).1 then out ++ [⟨x, (subN (getA a x) (getA b x)).1⟩] else out)
def subVec (a b : List Amt) : List Amt × Int :=
  if checkVec a ≠ 0 then ([], checkVec a) else if checkVec b ≠ 0 then ([], checkVec b) else subL a b (namesV a b) []
def freeV (s : St) (name : ByteArray) : List Amt × Int := if (usedV s name).2 ≠ 0 then ([], (usedV s name).2) else subVec (findV s.nodes name).1.cap (usedV s name).1
def skewOk (s : St) (p : Pd) (name : ByteArray) : Bool := emptyB p.key || ((skewV s p name).2 && decide ((skewV s p name).1 ≤ p.most))
def fitD (s : St) (p : Pd) (name : ByteArray) : Int :=
  if (findV s.nodes name).2 = false then 3
  else if (!(findV s.nodes name).1.cordon && matchV p.sel (findV s.nodes name).1.labels) = false then 8
  else if (worstV p.tols (findV s.nodes name).1.taints).2 = true then 9
  else if skewOk s p name = false then 10
  else if (decide ((freeV s name).2 = 0) && fitsV p.need (freeV s name).1) = false then 7
  else 0
def fitV (s : St) (p : Pd) (name : ByteArray) : Int := fitD (dropS s p.name) p name
def nodesV (s : St) (p : Pd) : List ByteArray := (s.nodes.filter fun n => decide (fitV s p n.name = 0)).map (·.name)
def onV (s : St) (name : ByteArray) : List Pd := s.pods.filter fun p => decide (p.node = name) && !emptyB name
end Go.Proofs.YtnmhicgbdalniaaGreatDoor

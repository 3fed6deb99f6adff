import Derived.Test.YtfbmfjmnpfidoaaFind
namespace Go.Proofs.Ytfbmfjmnpfidoaa
open Go.RowKit

/-! Which data may be: the plain law. -/
def ltS (a b : ByteArray) : Bool := decide (a.data.toList < b.data.toList)
def nameB (c : UInt8) : Bool := (decide (97 ≤ c.toNat) && decide (c.toNat ≤ 122)) || (decide (48 ≤ c.toNat) && decide (c.toNat ≤ 57))
def isName (s : ByteArray) : Bool := decide (1 ≤ s.size) && (decide (s.size ≤ 12) && s.data.toList.all nameB)
def orV (a b : Int) : Int := if a ≠ 0 then a else b
theorem orV_l {a b : Int} (h : a ≠ 0) : orV a b = a := if_pos h
theorem orV_r {a b : Int} (h : a = 0) : orV a b = b := if_neg (fun k => k h)
def tooLow : Option ByteArray → ByteArray → Bool
  | none, _ => false
  | some q, x => !ltS q x
def prevN {α : Type} (nm : α → ByteArray) (l : List α) (k : Nat) : Option ByteArray := if k = 0 then none else l[k - 1]?.map nm
def rowsV {α : Type} (f : α → Int) (nm : α → ByteArray) : Option ByteArray → List α → Int
  | _, [] => 0
  | p, x :: r => orV (f x) (if tooLow p (nm x) = true then 13 else rowsV f nm (some (nm x)) r)
theorem prevN_succ {α : Type} (nm : α → ByteArray) {l : List α} {k : Nat} (h : k < l.length) : prevN nm l (k + 1) = some (nm l[k]) := by
  unfold prevN
  rw [if_neg (by omega), Nat.add_sub_cancel, List.getElem?_eq_getElem h]; rfl
theorem rowsV_at {α : Type} (f : α → Int) (nm : α → ByteArray) {l : List α} {k : Nat} (h : k < l.length) :
    rowsV f nm (prevN nm l k) (l.drop k) = orV (f l[k]) (if tooLow (prevN nm l k) (nm l[k]) = true then 13 else rowsV f nm (prevN nm l (k + 1)) (l.drop (k + 1))) := by
  rw [List.drop_eq_getElem_cons h, prevN_succ nm h]; rfl
theorem tooLow_first {α : Type} (nm : α → ByteArray) (l : List α) (x : ByteArray) : tooLow (prevN nm l 0) x = false := rfl
theorem tooLow_next {α : Type} (nm : α → ByteArray) {l : List α} {k : Nat} (h : k < l.length) (h0 : 0 < k) (x : ByteArray) : tooLow (prevN nm l k) x = !ltS (nm l[k - 1]) x := by
  obtain ⟨j, rfl⟩ : ∃ j, k = j + 1 := ⟨k - 1, by omega⟩
  rw [prevN_succ nm (by omega)]; rfl
def firstV {α : Type} (f : α → Int) : List α → Int
  | [] => 0
  | x :: r => orV (f x) (firstV f r)
theorem firstV_at {α : Type} (f : α → Int) {l : List α} {k : Nat} (h : k < l.length) : firstV f (l.drop k) = orV (f l[k]) (firstV f (l.drop (k + 1))) := by
  rw [List.drop_eq_getElem_cons h]; rfl
def amtV (x : Amt) : Int := if isName x.name = false then 3 else if x.n ≤ 0 then 1 else 0
def pairV (x : Pair) : Int := if isName x.key = false then 3 else if isName x.val = false then 3 else 0
def emptyB (s : ByteArray) : Bool := decide (s = ⟨#[]⟩)
def termV (t : Term) : Int :=
  if t.op < 1 then 1 else if 4 < t.op then 1 else if isName t.key = false then 3 else if t.op ≤ 2 then (if isName t.val = false then 3 else 0) else if emptyB t.val = false then 3 else 0
def tolV (t : Tnt) : Int :=
  if emptyB t.key = false ∧ isName t.key = false then 3 else if t.b = true then (if emptyB t.val = false then 3 else 0) else if isName t.val = false then 3 else 0
def sameT (a b : Tnt) : Bool := decide (a.key = b.key) && decide (a.val = b.val)
def taintsV : List Tnt → List Tnt → Int
  | _, [] => 0
  | seen, x :: r => if isName x.key = false then 3 else if isName x.val = false then 3 else if seen.any (fun y => sameT y x) = true then 6 else taintsV (seen ++ [x]) r
theorem taintsV_at {l : List Tnt} {k : Nat} (h : k < l.length) : taintsV (l.take k) (l.drop k) = if isName l[k].key = false then 3 else if isName l[k].val = false then 3 else if (l.take k).any (fun y => sameT y l[k]) = true then 6 else taintsV (l.take (k + 1)) (l.drop (k + 1)) := by
  rw [List.drop_eq_getElem_cons h, List.take_succ_eq_append_getElem h]; rfl
def manyV {α : Type} (lim : Nat) (l : List α) (n : Int) : Int := if lim < l.length then 4 else n
def checkVec (l : List Amt) : Int := manyV 8 l (rowsV amtV Amt.name none l)
def checkSet (l : List Pair) : Int := manyV 8 l (rowsV pairV Pair.key none l)
def checkSel (l : List Term) : Int := manyV 8 l (firstV termV l)
def checkTaints (l : List Tnt) : Int := manyV 8 l (taintsV [] l)
def checkTols (l : List Tnt) : Int := manyV 8 l (firstV tolV l)
def checkNode (n : Nd) : Int := orV (if isName n.name = false then 3 else 0) (orV (checkVec n.cap) (orV (checkSet n.labels) (checkTaints n.taints)))
def checkNodes (l : List Nd) : Int := manyV 32 l (rowsV checkNode Nd.name none l)
def maybeV (s : ByteArray) : Int := if emptyB s = false ∧ isName s = false then 3 else 0
def mostV (p : Pd) : Int := if emptyB p.key = true then (if p.most ≠ 0 then 1 else 0) else if p.most < 1 ∨ 128 < p.most then 1 else 0
def prioV (p : Pd) : Int := if p.prio < -1 then 1 else if 1000000 < p.prio then 1 else if p.hold = decide (p.prio = -1) then 0 else 1
def checkPod (p : Pd) : Int :=
  orV (if isName p.name = false then 3 else 0) (orV (maybeV p.owner) (orV (prioV p) (orV (checkVec p.need) (orV (checkSet p.labels) (orV (checkSel p.sel) (orV (checkTols p.tols) (orV (maybeV p.key) (orV (mostV p) (maybeV p.node)))))))))
def checkPods (l : List Pd) : Int := manyV 128 l (rowsV checkPod Pd.name none l)
def checkBudget (b : Bd) : Int := orV (if isName b.name = false then 3 else 0) (orV (checkSel b.sel) (if b.floor < 0 then 1 else if 128 < b.floor then 1 else 0))
def checkBudgets (l : List Bd) : Int := manyV 8 l (rowsV checkBudget Bd.name none l)
/-! Sums of vectors. -/
def getA : List Amt → ByteArray → Int
  | [], _ => 0
  | x :: r, k => if x.name = k then x.n else getA r k
theorem getA_at {l : List Amt} {j : Nat} (h : j < l.length) (key : ByteArray) : getA (l.drop j) key = if l[j].name = key then l[j].n else getA (l.drop (j + 1)) key := by
  rw [List.drop_eq_getElem_cons h]; rfl
def addN (a b : Int) : Int × Int := if a < 0 then (0, 1) else if b < 0 then (0, 1) else if 9223372036854775807 - b < a then (0, 5) else (a + b, 0)
def namesV : List Amt → List Amt → List ByteArray
  | [], b => b.map (·.name)
  | x :: a, [] => x.name :: namesV a []
  | x :: a, y :: b => if ltS x.name y.name = true then x.name :: namesV a (y :: b) else if ltS y.name x.name = true then y.name :: namesV (x :: a) b else x.name :: namesV a b
termination_by a b => a.length + b.length
def addL (a b : List Amt) : List ByteArray → List Amt → List Amt × Int
  | [], out => if 8 < out.length then ([], 4) else (out, 0)
  | x :: r, out => if (addN (getA a x) (getA b x)).2 ≠ 0 then ([], (addN (getA a x) (getA b x)).2) else addL a b r (out ++ [⟨x, (addN (getA a x) (getA b x)).1⟩])
def addVec (a b : List Amt) : List Amt × Int :=
  if checkVec a ≠ 0 then ([], checkVec a) else if checkVec b ≠ 0 then ([], checkVec b) else addL a b (namesV a b) []
def sumV {α : Type} (f : α → List Amt) : List α → List Amt → List Amt × Int
  | [], v => (v, 0)
  | x :: r, v => if (addVec v (f x)).2 ≠ 0 then ([], (addVec v (f x)).2) else sumV f r (addVec v (f x)).1
def onB (name : ByteArray) (p : Pd) : Bool := decide (p.node = name)
def usedV (s : St) (name : ByteArray) : List Amt × Int := if (findV s.nodes name).2 = false then ([], 3) else sumV Pd.need (s.pods.filter (onB name)) []
def totalV (s : St) : List Amt × Int := sumV Nd.cap s.nodes []
def fitsV (need have_ : List Amt) : Bool := need.all fun x => decide (x.n ≤ getA have_ x.name)
def podV (s : St) (p : Pd) : Int := if emptyB p.node = false ∧ (findV s.nodes p.node).2 = false then 3 else 0
def roomV (s : St) (n : Nd) : Int := orV (usedV s n.name).2 (if fitsV (usedV s n.name).1 n.cap = false then 7 else 0)
def checkSt (s : St) : Int := orV (checkNodes s.nodes) (orV (checkPods s.pods) (orV (checkBudgets s.budgets) (orV (firstV (podV s) s.pods) (orV (firstV (roomV s) s.nodes) (totalV s).2))))
end Go.Proofs.Ytfbmfjmnpfidoaa

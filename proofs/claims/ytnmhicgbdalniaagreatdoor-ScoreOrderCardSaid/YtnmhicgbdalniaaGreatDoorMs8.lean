import Derived.Test.YtnmhicgbdalniaaGreatDoorMs4
import Derived.Test.YtnmhicgbdalniaaGreatDoorMs7
import Derived.WalkSmall
namespace Go.Proofs.YtnmhicgbdalniaaGreatDoor
open Go.RowKit

theorem drewN_below (w : World) (n : Nat) : Below w.heap.size w (w.drewN n) := below_drewN (Below.refl _ _) n
theorem alloc_below (w : World) (o : Obj) : Below w.heap.size w (w.alloc o) := (Below.refl _ _).alloc (Nat.le_refl _) o
theorem Below.then {w w1 w2 : World} (h : Below w.heap.size w w1) (k : Below w1.heap.size w1 w2) : Below w.heap.size w w2 := h.trans (k.mono h.size)
theorem Below.thenN {B : Nat} {w w1 w2 : World} (h : Below B w w1) (hB : B ≤ w1.heap.size) (k : Below w1.heap.size w1 w2) : Below B w w2 := h.trans (k.mono hB)
theorem empty_beq (a : ByteArray) : (a.toList.isEmpty) = decide (a = ⟨#[]⟩) := by
  have h1 := Lib.bytes_beq_false_iff a ⟨#[]⟩
  have h0 : (⟨#[]⟩ : ByteArray).toList = [] := by unfold ByteArray.toList ByteArray.toList.loop; rfl
  rw [h0] at h1
  by_cases h : a = ⟨#[]⟩
  · rw [decide_eq_true h, h, h0]; rfl
  · have := h1.2 h
    rw [decide_eq_false h]
    cases he : a.toList with
    | nil => rw [he] at this; cases this
    | cons _ _ => rfl
def getV : List Pair → ByteArray → ByteArray × Bool
  | [], _ => (⟨#[]⟩, false)
  | p :: r, k => if p.key = k then (p.val, true) else getV r k
def zNd : Nd := ⟨⟨#[]⟩, [], [], [], false⟩
def findV : List Nd → ByteArray → Nd × Bool
  | [], _ => (zNd, false)
  | n :: r, k => if n.name = k then (n, true) else findV r k
theorem getV_at {l : List Pair} {j : Nat} (h : j < l.length) (key : ByteArray) : getV (l.drop j) key = if l[j].key = key then (l[j].val, true) else getV (l.drop (j + 1)) key := by
  rw [List.drop_eq_getElem_cons h]; rfl
theorem findV_at {l : List Nd} {j : Nat} (h : j < l.length) (key : ByteArray) : findV (l.drop j) key = if l[j].name = key then (l[j], true) else findV (l.drop (j + 1)) key := by
  rw [List.drop_eq_getElem_cons h]; rfl
theorem blk_all {w : World} {p : Nat} {cs : Array Value} {T : TypeId} (h : w.heap[p]? = some (.cells cs T (0, 0))) : (∀ j, w.cell? ⟨p, j, none⟩ = cs[j]?) ∧ ∀ j, w.frozen? ⟨p, j, none⟩ = false :=
  ⟨fun j => cell_of_row w p j _ _ _ h, fun j => by simp [World.frozen?, h]⟩
theorem blk_set {w : World} {p j : Nat} {cs : Array Value} {T : TypeId} {fr : Nat × Nat} (h : w.heap[p]? = some (.cells cs T fr)) (u : Value) : (w.setCell ⟨p, j, none⟩ u).heap[p]? = some (.cells (cs.setIfInBounds j u) T fr) := by
  simp [World.setCell, Array.getElem?_modify, h]
theorem ret_sb {a : ByteArray} {b : Bool} {r : ByteArray × Bool} (h : (a, b) = r) : Ending.returned (.tuple #[.string a, .bool b]) = .returned (.tuple #[.string r.1, .bool r.2]) := by rw [← h]
def GetDone (l : List Pair) (key : ByteArray) (w : World) (e : Ending) (w' : World) : Prop := e = .returned (.tuple #[.string (getV l key).1, .bool (getV l key).2]) ∧ Below w.heap.size w w'
def FindDone (l : List Nd) (key : ByteArray) (w : World) (e : Ending) (w' : World) : Prop := ∃ cs, e = .returned (.tuple #[.agg cs.toArray, .bool (findV l key).2]) ∧ Kd.node.K (vw w' []) (findV l key).1 cs ∧ Below w.heap.size w w'
set_option maxHeartbeats 1000000 in
theorem Get_calls (v : Value) (l : List Pair) (key : ByteArray) (w : World) (hs : Kd.pair.S (vw w []) v l) :
    Calls Tryz.prog 255 #[v, .string key] w (GetDone l key w) := by
  obtain ⟨A, cap, rfl, hs⟩ := hs.val
  obtain ⟨_, hcap, hlen⟩ := hs.form
  have HS := Lib.hid hs
  clear hs
  go_enter Tryz.func255, Tryz.ntmps255
  go_wp2
  go_loopw [10] (fun i wr => ∃ k : Nat, k ≤ l.length ∧ i = .int .i64 k ∧ Hid (getV (l.drop k) key = getV l key) ∧ Hid (Below w.heap.size w wr)) (fun i _ => l.length - (intOf i).toNat)
  case atStart => exact ⟨0, Nat.zero_le _, rfl, rfl, Below.refl _ _⟩
  case round =>
    obtain ⟨k, hk, rfl, HG, HB⟩ := hrel
    by_cases hlt : k < l.length
    · obtain ⟨b, off, rfl, hc, _⟩ := (HS.out.mono (vw_below HB.out)).elemN k hlt
      have c0 : wr.cell? ⟨b, off + k * 2, none⟩ = some (.string l[k].key) := hc 0 _ rfl
      have c1 : wr.cell? ⟨b, off + k * 2 + 1, none⟩ = some (.string l[k].val) := hc 1 _ rfl
      have hg := HG.out
      rw [getV_at hlt] at hg
      have HG2 := Lib.hid hg
      clear hg hc HG
      by_cases he : l[k].key = key
      · have hb := str_beq he
        have hr := HG2.out
        rw [if_pos he] at hr
        have HR := Lib.hid hr
        clear he hr
        go_wp2
        go_ret2
        exact ⟨ret_sb HR.out, HB.out.alloc HB.out.size _⟩
      · have hb := str_nbeq he
        have hr := HG2.out
        rw [if_neg he] at hr
        have HR := Lib.hid hr
        clear he hr
        go_wp2
        go_roundw
        case rel => exact ⟨k + 1, by omega, by go_num, HR.out, HB.out.alloc HB.out.size _⟩
        case measure => simp [intOf]; omega
    · obtain rfl : k = l.length := by omega
      have hr := HG.out
      rw [List.drop_length] at hr
      have HR := Lib.hid hr
      clear hr
      go_wp2
      go_ret2
      exact ⟨ret_sb HR.out, HB.out⟩
def GetSame (l : List Pair) (key : ByteArray) (w : World) (e : Ending) (w' : World) : Prop := e = .returned (.tuple #[.string (getV l key).1, .bool (getV l key).2]) ∧ w = w'
set_option maxHeartbeats 1000000 in
theorem Label_calls (v : Value) (l : List Pair) (key : ByteArray) (w : World) (hs : Kd.pair.S (vw w []) v l) :
    Calls Tryz.prog 217 #[v, .string key] w (GetSame l key w) := by
  obtain ⟨A, cap, rfl, hs⟩ := hs.val
  obtain ⟨_, hcap, hlen⟩ := hs.form
  have HS := Lib.hid hs
  clear hs
  go_enter Tryz.func217, Tryz.ntmps217
  go_wp2
  go_loop [6] (fun i => ∃ k : Nat, k ≤ l.length ∧ i = .int .i64 k ∧ Hid (getV (l.drop k) key = getV l key)) (fun i => l.length - (intOf i).toNat)
  case atStart => exact ⟨0, Nat.zero_le _, rfl, rfl⟩
  case round =>
    obtain ⟨k, hk, rfl, HG⟩ := hrel
    by_cases hlt : k < l.length
    · obtain ⟨b, off, rfl, hc, _⟩ := HS.out.elemN k hlt
      have c0 : w.cell? ⟨b, off + k * 2, none⟩ = some (.string l[k].key) := hc 0 _ rfl
      have c1 : w.cell? ⟨b, off + k * 2 + 1, none⟩ = some (.string l[k].val) := hc 1 _ rfl
      have hg := HG.out
      rw [getV_at hlt] at hg
      have HG2 := Lib.hid hg
      clear hg hc HG
      by_cases he : l[k].key = key
      · have hb := str_beq he
        have hr := HG2.out
        rw [if_pos he] at hr
        have HR := Lib.hid hr
        clear he hr
        go_wp2
        go_ret2
        exact ⟨ret_sb HR.out, rfl⟩
      · have hb := str_nbeq he
        have hr := HG2.out
        rw [if_neg he] at hr
        have HR := Lib.hid hr
        clear he hr
        go_wp2
        go_round
        case rel => exact ⟨k + 1, by omega, by go_num, HR.out⟩
        case measure => simp [intOf]; omega
    · obtain rfl : k = l.length := by omega
      have hr := HG.out
      rw [List.drop_length] at hr
      have HR := Lib.hid hr
      clear hr
      go_wp2
      go_ret2
      exact ⟨ret_sb HR.out, rfl⟩
theorem K_zNd (h : View) : Kd.node.K h zNd [.string ⟨#[]⟩, .slice none 0 0, .slice none 0 0, .slice none 0 0, .bool false] :=
  ⟨none, 0, none, 0, none, 0, rfl, Nat.zero_le _, Kd.S.nil _ _, Kd.S.nil _ _, Kd.S.nil _ _⟩
set_option maxHeartbeats 1000000 in
set_option maxRecDepth 100000 in
theorem Find_calls (v : Value) (l : List Nd) (key : ByteArray) (w : World) (hs : Kd.node.S (vw w []) v l) :
    Calls Tryz.prog 96 #[v, .string key] w (FindDone l key w) := by
  obtain ⟨A, cap, rfl, hs⟩ := hs.val
  obtain ⟨_, hcap, hlen⟩ := hs.form
  have HS := Lib.hid hs
  clear hs
  go_enter Tryz.func96, Tryz.ntmps96
  go_wp2
  go_loopw [10] (fun i wr => ∃ k : Nat, k ≤ l.length ∧ i = .int .i64 k ∧ Hid (findV (l.drop k) key = findV l key) ∧ Hid (Below w.heap.size w wr) ∧ Hid (wr.heap[w.heap.size]? = some (.cells #[.string ⟨#[]⟩, .slice none 0 0, .slice none 0 0, .slice none 0 0, .bool false] 94 (0, 0)))) (fun i _ => l.length - (intOf i).toNat)
  case atStart => exact ⟨0, Nat.zero_le _, rfl, rfl, alloc_below _ _, blk_last _ _⟩
  case round =>
    obtain ⟨k, hk, rfl, HG, HB, HR0⟩ := hrel
    obtain ⟨z1, z2⟩ := blk_all HR0.out
    have z3 := blk_lt HR0.out
    by_cases hlt : k < l.length
    · obtain ⟨b, off, cs, rfl, hn, hc⟩ := HS.out.both HB.out k hlt
      have HN := Lib.hid hn
      obtain ⟨A1, d1, A2, d2, A3, d3, rfl, -⟩ := hn
      have hg := HG.out
      rw [findV_at hlt] at hg
      have HG2 := Lib.hid hg
      have HC : Hid (wr.rangeAt b (off + k * 5) _) := hc
      clear hg hc HG
      by_cases he : l[k].name = key
      · have hb := str_beq he
        have hr := HG2.out
        rw [if_pos he] at hr
        have HR := Lib.hid hr
        clear he hr
        go_wp2_with (with_reducible refine wpList_load_mid rfl 94 _ rfl b (off + k * 5) rfl _ _ HC.out Tryz.underlying94 rfl (by kernel_rfl) ?_)
        have hbl := Below.alloc (Below.setCell (Below.setCell (Below.setCell (Below.setCell (Below.setCell HB.out (p := ⟨w.heap.size, 0, none⟩) (Nat.le_refl _) (.string l[k].name)) (p := ⟨w.heap.size, 1, none⟩) (Nat.le_refl _) (.slice A1 l[k].cap.length d1)) (p := ⟨w.heap.size, 2, none⟩) (Nat.le_refl _) (.slice A2 l[k].labels.length d2)) (p := ⟨w.heap.size, 3, none⟩) (Nat.le_refl _) (.slice A3 l[k].taints.length d3)) (p := ⟨w.heap.size, 4, none⟩) (Nat.le_refl _) (.bool l[k].cordon)) (by simp [World.setCell]; omega) (.cells #[.string l[k].name, .slice A1 l[k].cap.length d1, .slice A2 l[k].labels.length d2, .slice A3 l[k].taints.length d3, .bool l[k].cordon] 94)
        have hx := Kd.node.mono (vw_below hbl) HN.out
        refine ret_row2 (cs := [.string l[k].name, .slice A1 l[k].cap.length d1, .slice A2 l[k].labels.length d2, .slice A3 l[k].taints.length d3, .bool l[k].cordon]) rfl rfl
          ((blk_old _ _ (by simpa [World.setCell] using z3)).trans ((blk_set (blk_set (blk_set (blk_set (blk_set HR0.out _) _) _) _) _).trans rfl)) Tryz.underlying94 rfl (by kernel_rfl) rfl
          ⟨[.string l[k].name, .slice A1 l[k].cap.length d1, .slice A2 l[k].labels.length d2, .slice A3 l[k].taints.length d3, .bool l[k].cordon], ?_, ?_, hbl⟩
        · rw [← HR.out]; rfl
        · rw [← HR.out]; exact hx
      · have hb := str_nbeq he
        have hr := HG2.out
        rw [if_neg he] at hr
        have HR := Lib.hid hr
        clear he hr z1 z2
        go_wp2_with (with_reducible refine wpList_load_mid rfl 94 _ rfl b (off + k * 5) rfl _ _ HC.out Tryz.underlying94 rfl (by kernel_rfl) ?_)
        go_roundw
        case rel => exact ⟨k + 1, by omega, by go_num, HR.out, HB.out.alloc HB.out.size _, (blk_old _ _ z3).trans HR0.out⟩
        case measure => simp [intOf]; omega
    · obtain rfl : k = l.length := by omega
      have hr := HG.out
      rw [List.drop_length] at hr
      have HR := Lib.hid hr
      clear hr
      go_wp2
      have hbl := Below.setCell (Below.setCell (Below.setCell (Below.setCell (Below.setCell HB.out (p := ⟨w.heap.size, 0, none⟩) (Nat.le_refl _) (.string ⟨#[]⟩)) (p := ⟨w.heap.size, 1, none⟩) (Nat.le_refl _) (.slice none 0 0)) (p := ⟨w.heap.size, 2, none⟩) (Nat.le_refl _) (.slice none 0 0)) (p := ⟨w.heap.size, 3, none⟩) (Nat.le_refl _) (.slice none 0 0)) (p := ⟨w.heap.size, 4, none⟩) (Nat.le_refl _) (.bool false)
      refine ret_row2 (cs := [.string ⟨#[]⟩, .slice none 0 0, .slice none 0 0, .slice none 0 0, .bool false]) rfl rfl
        ((blk_set (blk_set (blk_set (blk_set (blk_set HR0.out _) _) _) _) _).trans rfl) Tryz.underlying94 rfl (by kernel_rfl) rfl
        ⟨[.string ⟨#[]⟩, .slice none 0 0, .slice none 0 0, .slice none 0 0, .bool false], ?_, ?_, hbl⟩
      · rw [← HR.out]; rfl
      · rw [← HR.out]; exact K_zNd _
end Go.Proofs.YtnmhicgbdalniaaGreatDoor
namespace Go.Proofs.YtnmhicgbdalniaaGreatDoor
open Go.RowKit

/-! Which data may be: the plain law. -/
def ltS (a b : ByteArray) : Bool := decide (a.data.toList < b.data.toList)
def nameB (c : UInt8) : Bool := (decide (97 ≤ c.toNat) && decide (c.toNat ≤ 122)) || (decide (48 ≤ c.toNat) && decide (c.toNat ≤ 57))
def isName (s : ByteArray) : Bool := decide (1 ≤ s.size) && (decide (s.size ≤ 12) && s.data.toList.all nameB)
def orV (a b : Int) : Int := if a ≠ 0 then a else b
theorem orV_l {a b : Int} (h : a ≠ 0) : orV a b = a := if_pos h
theorem orV_r {a b : Int} (h : a = 0) : orV a b = b := if_neg (fun k => k h)
def tooLow : Option ByteArray → ByteArray → Bool
  | none, _ => false
  | some q, x => !ltS q x
def prevN {α : Type} (nm : α → ByteArray) (l : List α) (k : Nat) : Option ByteArray := if k = 0 then none else l[k - 1]?.map nm
def rowsV {α : Type} (f : α → Int) (nm : α → ByteArray) : Option ByteArray → List α → Int
  | _, [] => 0
  | p, x :: r => orV (f x) (if tooLow p (nm x) = true then 13 else rowsV f nm (some (nm x)) r)
theorem prevN_succ {α : Type} (nm : α → ByteArray) {l : List α} {k : Nat} (h : k < l.length) : prevN nm l (k + 1) = some (nm l[k]) := by
  unfold prevN
  rw [if_neg (by omega), Nat.add_sub_cancel, List.getElem?_eq_getElem h]; rfl
theorem rowsV_at {α : Type} (f : α → Int) (nm : α → ByteArray) {l : List α} {k : Nat} (h : k < l.length) :
    rowsV f nm (prevN nm l k) (l.drop k) = orV (f l[k]) (if tooLow (prevN nm l k) (nm l[k]) = true then 13 else rowsV f nm (prevN nm l (k + 1)) (l.drop (k + 1))) := by
  rw [List.drop_eq_getElem_cons h, prevN_succ nm h]; rfl
theorem tooLow_first {α : Type} (nm : α → ByteArray) (l : List α) (x : ByteArray) : tooLow (prevN nm l 0) x = false := rfl
theorem tooLow_next {α : Type} (nm : α → ByteArray) {l : List α} {k : Nat} (h : k < l.length) (h0 : 0 < k) (x : ByteArray) : tooLow (prevN nm l k) x = !ltS (nm l[k - 1]) x := by
  obtain ⟨j, rfl⟩ : ∃ j, k = j + 1 := ⟨k - 1, by omega⟩
  rw [prevN_succ nm (by omega)]; rfl
def firstV {α : Type} (f : α → Int) : List α → Int
  | [] => 0
  | x :: r => orV (f x) (firstV f r)
theorem firstV_at {α : Type} (f : α → Int) {l : List α} {k : Nat} (h : k < l.length) : firstV f (l.drop k) = orV (f l[k]) (firstV f (l.drop (k + 1))) := by
  rw [List.drop_eq_getElem_cons h]; rfl
def amtV (x : Amt) : Int := if isName x.name = false then 3 else if x.n ≤ 0 then 1 else 0
def pairV (x : Pair) : Int := if isName x.key = false then 3 else if isName x.val = false then 3 else 0
def emptyB (s : ByteArray) : Bool := decide (s = ⟨#[]⟩)
def termV (t : Term) : Int :=
  if t.op < 1 then 1 else if 4 < t.op then 1 else if isName t.key = false then 3 else if t.op ≤ 2 then (if isName t.val = false then 3 else 0) else if emptyB t.val = false then 3 else 0
def tolV (t : Tnt) : Int :=
  if emptyB t.key = false ∧ isName t.key = false then 3 else if t.b = true then (if emptyB t.val = false then 3 else 0) else if isName t.val = false then 3 else 0
def sameT (a b : Tnt) : Bool := decide (a.key = b.key) && decide (a.val = b.val)
def taintsV : List Tnt → List Tnt → Int
  | _, [] => 0
  | seen, x :: r => if isName x.key = false then 3 else if isName x.val = false then 3 else if seen.any (fun y => sameT y x) = true then 6 else taintsV (seen ++ [x]) r
theorem taintsV_at {l : List Tnt} {k : Nat} (h : k < l.length) : taintsV (l.take k) (l.drop k) = if isName l[k].key = false then 3 else if isName l[k].val = false then 3 else if (l.take k).any (fun y => sameT y l[k]) = true then 6 else taintsV (l.take (k + 1)) (l.drop (k + 1)) := by
  rw [List.drop_eq_getElem_cons h, List.take_succ_eq_append_getElem h]; rfl
def manyV {α : Type} (lim : Nat) (l : List α) (n : Int) : Int := if lim < l.length then 4 else n
def checkVec (l : List Amt) : Int := manyV 8 l (rowsV amtV Amt.name none l)
def checkSet (l : List Pair) : Int := manyV 8 l (rowsV pairV Pair.key none l)
def checkSel (l : List Term) : Int := manyV 8 l (firstV termV l)
def checkTaints (l : List Tnt) : Int := manyV 8 l (taintsV [] l)
def checkTols (l : List Tnt) : Int := manyV 8 l (firstV tolV l)
def checkNode (n : Nd) : Int := orV (if isName n.name = false then 3 else 0) (orV (checkVec n.cap) (orV (checkSet n.labels) (checkTaints n.taints)))
def checkNodes (l : List Nd) : Int := manyV 32 l (rowsV checkNode Nd.name none l)
def maybeV (s : ByteArray) : Int := if emptyB s = false ∧ isName s = false then 3 else 0
def mostV (p : Pd) : Int := if emptyB p.key = true then (if p.most ≠ 0 then 1 else 0) else if p.most < 1 ∨ 128 < p.most then 1 else 0
def prioV (p : Pd) : Int := if p.prio < -1 then 1 else if 1000000 < p.prio then 1 else if p.hold = decide (p.prio = -1) then 0 else 1
def checkPod (p : Pd) : Int :=
  orV (if isName p.name = false then 3 else 0) (orV (maybeV p.owner) (orV (prioV p) (orV (checkVec p.need) (orV (checkSet p.labels) (orV (checkSel p.sel) (orV (checkTols p.tols) (orV (maybeV p.key) (orV (mostV p) (maybeV p.node)))))))))
def checkPods (l : List Pd) : Int := manyV 128 l (rowsV checkPod Pd.name none l)
def checkBudget (b : Bd) : Int := orV (if isName b.name = false then 3 else 0) (orV (checkSel b.sel) (if b.floor < 0 then 1 else if 128 < b.floor then 1 else 0))
def checkBudgets (l : List Bd) : Int := manyV 8 l (rowsV checkBudget Bd.name none l)
/-! Sums of vectors. -/
def getA : List Amt → ByteArray → Int
  | [], _ => 0
  | x :: r, k => if x.name = k then x.n else getA r k
theorem getA_at {l : List Amt} {j : Nat} (h : j < l.length) (key : ByteArray) : getA (l.drop j) key = if l[j].name = key then l[j].n else getA (l.drop (j + 1)) key := by
  rw [List.drop_eq_getElem_cons h]; rfl
def addN (a b : Int) : Int × Int := if a < 0 then (0, 1) else if b < 0 then (0, 1) else if 9223372036854775807 - b < a then (0, 5) else (a + b, 0)
def namesV : List Amt → List Amt → List ByteArray
  | [], b => b.map (·.name)
  | x :: a, [] => x.name :: namesV a []
  | x :: a, y :: b => if ltS x.name y.name = true then x.name :: namesV a (y :: b) else if ltS y.name x.name = true then y.name :: namesV (x :: a) b else x.name :: namesV a b
termination_by a b => a.length + b.length
def addL (a b : List Amt) : List ByteArray → List Amt → List Amt × Int
  | [], out => if 8 < out.length then ([], 4) else (out, 0)
  | x :: r, out => if (addN (getA a x) (getA b x)).2 ≠ 0 then ([], (addN (getA a x) (getA b x)).2) else addL a b r (out ++ [⟨x, (addN (getA a x) (getA b x)).1⟩])
def addVec (a b : List Amt) : List Amt × Int :=
  if checkVec a ≠ 0 then ([], checkVec a) else if checkVec b ≠ 0 then ([], checkVec b) else addL a b (namesV a b) []
def sumV {α : Type} (f : α → List Amt) : List α → List Amt → List Amt × Int
  | [], v => (v, 0)
  | x :: r, v => if (addVec v (f x)).2 ≠ 0 then ([], (addVec v (f x)).2) else sumV f r (addVec v (f x)).1
def onB (name : ByteArray) (p : Pd) : Bool := decide (p.node = name)
def usedV (s : St) (name : ByteArray) : List Amt × Int := if (findV s.nodes name).2 = false then ([], 3) else sumV Pd.need (s.pods.filter (onB name)) []
def totalV (s : St) : List Amt × Int := sumV Nd.cap s.nodes []
def fitsV (need have_ : List Amt) : Bool := need.all fun x => decide (x.n ≤ getA have_ x.name)
def podV (s : St) (p : Pd) : Int := if emptyB p.node = false ∧ (findV s.nodes p.node).2 = false then 3 else 0
def roomV (s : St) (n : Nd) : Int := orV (usedV s n.name).2 (if fitsV (usedV s n.name).1 n.cap = false then 7 else 0)
def checkSt (s : St) : Int := orV (checkNodes s.nodes) (orV (checkPods s.pods) (orV (checkBudgets s.budgets) (orV (firstV (podV s) s.pods) (orV (firstV (roomV s) s.nodes) (totalV s).2))))
end Go.Proofs.YtnmhicgbdalniaaGreatDoor

import Derived.Test.YtfbmfjmnpfidoaaStruct
namespace Go.Proofs.Ytfbmfjmnpfidoaa
open Go.RowKit

/-! The program's data, and the document's, in plain words. -/
def lim : Nat := 140737488351232
structure Amt where
  name : ByteArray
  n : Int
structure Pair where
  key : ByteArray
  val : ByteArray
structure Term where
  op : Int
  key : ByteArray
  val : ByteArray
structure Tnt where
  key : ByteArray
  val : ByteArray
  b : Bool
structure Nd where
  name : ByteArray
  cap : List Amt
  labels : List Pair
  taints : List Tnt
  cordon : Bool
structure Pd where
  name : ByteArray
  owner : ByteArray
  prio : Int
  need : List Amt
  labels : List Pair
  sel : List Term
  tols : List Tnt
  key : ByteArray
  most : Int
  node : ByteArray
  hold : Bool
structure Bd where
  name : ByteArray
  sel : List Term
  floor : Int
structure St where
  nodes : List Nd
  pods : List Pd
  budgets : List Bd
def i64 (n : Int) : Prop := -9223372036854775808 ≤ n ∧ n ≤ 9223372036854775807
def sok (s : ByteArray) : Prop := s.size ≤ 140737488351232
namespace Kd
variable {α : Type}
/-- What an element's cells hold. -/
theorem S.at_ {d : Kd α} {w : World} {M : List Nat} {A : Option Addr} {m cap : Nat} {xs : List α} (s : d.S (vw w M) (.slice A m cap) xs) (j : Nat) (hj : j < xs.length) :
    ∃ b off cs, A = some ⟨b, off, none⟩ ∧ d.K (vw w M) xs[j] cs ∧ w.rangeAt b (off + j * d.sz) cs := by
  obtain ⟨b, off, cs, e, h1, h2⟩ := s.elem j hj
  exact ⟨b, off, cs, e, h1, range_of_view h2⟩
/-- The same, the element told of an older world. -/
theorem S.both {d : Kd α} {w wr : World} {A : Option Addr} {m cap : Nat} {xs : List α} (s : d.S (vw w []) (.slice A m cap) xs) (hb : Below w.heap.size w wr) (j : Nat) (hj : j < xs.length) :
    ∃ b off cs, A = some ⟨b, off, none⟩ ∧ d.K (vw w []) xs[j] cs ∧ wr.rangeAt b (off + j * d.sz) cs := by
  obtain ⟨b, off, cs, e, h1, h2⟩ := s.elem j hj
  exact ⟨b, off, cs, e, h1, range_of_view fun i u hu => View.cell_mono (vw_below hb) (h2 i u hu)⟩
/-- A struct by value. -/
def V (d : Kd α) (h : View) (v : Value) (x : α) : Prop := ∃ cs, v = .agg cs.toArray ∧ d.K h x cs
theorem V.mono {d : Kd α} {h k : View} {v : Value} {x : α} (hk : h.le k) (s : d.V h v x) : d.V k v x := by
  obtain ⟨cs, e, h1⟩ := s
  exact ⟨cs, e, d.mono hk h1⟩
def amt : Kd Amt := flat 2 (fun x => [.string x.name, .int .i64 x.n]) (fun x => sok x.name ∧ i64 x.n) (fun _ => rfl)
def pair : Kd Pair := flat 2 (fun x => [.string x.key, .string x.val]) (fun x => sok x.key ∧ sok x.val) (fun _ => rfl)
def term : Kd Term := flat 3 (fun x => [.int .i64 x.op, .string x.key, .string x.val]) (fun x => i64 x.op ∧ sok x.key ∧ sok x.val) (fun _ => rfl)
def tnt : Kd Tnt := flat 3 (fun x => [.string x.key, .string x.val, .bool x.b]) (fun x => sok x.key ∧ sok x.val) (fun _ => rfl)
def node : Kd Nd where
  sz := 5
  K := fun h x cs => ∃ A1 c1 A2 c2 A3 c3, cs = [.string x.name, .slice A1 x.cap.length c1, .slice A2 x.labels.length c2, .slice A3 x.taints.length c3, .bool x.cordon] ∧ sok x.name ∧
    amt.S h (.slice A1 x.cap.length c1) x.cap ∧ pair.S h (.slice A2 x.labels.length c2) x.labels ∧ tnt.S h (.slice A3 x.taints.length c3) x.taints
  len := by rintro h x cs ⟨_, _, _, _, _, _, rfl, _⟩; rfl
  mono := by rintro h k x cs hk ⟨A1, c1, A2, c2, A3, c3, e, h0, h1, h2, h3⟩; exact ⟨A1, c1, A2, c2, A3, c3, e, h0, h1.mono hk, h2.mono hk, h3.mono hk⟩
def PdOk (x : Pd) : Prop := (sok x.name ∧ sok x.owner ∧ i64 x.prio) ∧ sok x.key ∧ i64 x.most ∧ sok x.node
def pod : Kd Pd where
  sz := 11
  K := fun h x cs => ∃ A1 c1 A2 c2 A3 c3 A4 c4, cs = [.string x.name, .string x.owner, .int .i64 x.prio, .slice A1 x.need.length c1, .slice A2 x.labels.length c2, .slice A3 x.sel.length c3, .slice A4 x.tols.length c4, .string x.key, .int .i64 x.most, .string x.node, .bool x.hold] ∧ PdOk x ∧
    amt.S h (.slice A1 x.need.length c1) x.need ∧ pair.S h (.slice A2 x.labels.length c2) x.labels ∧ term.S h (.slice A3 x.sel.length c3) x.sel ∧ tnt.S h (.slice A4 x.tols.length c4) x.tols
  len := by rintro h x cs ⟨_, _, _, _, _, _, _, _, rfl, _⟩; rfl
  mono := by rintro h k x cs hk ⟨A1, c1, A2, c2, A3, c3, A4, c4, e, h0, h1, h2, h3, h4⟩; exact ⟨A1, c1, A2, c2, A3, c3, A4, c4, e, h0, h1.mono hk, h2.mono hk, h3.mono hk, h4.mono hk⟩
def budget : Kd Bd where
  sz := 3
  K := fun h x cs => ∃ A1 c1, cs = [.string x.name, .slice A1 x.sel.length c1, .int .i64 x.floor] ∧ (sok x.name ∧ i64 x.floor) ∧ term.S h (.slice A1 x.sel.length c1) x.sel
  len := by rintro h x cs ⟨_, _, rfl, _⟩; rfl
  mono := by rintro h k x cs hk ⟨A1, c1, e, h0, h1⟩; exact ⟨A1, c1, e, h0, h1.mono hk⟩
def state : Kd St where
  sz := 3
  K := fun h x cs => ∃ A1 c1 A2 c2 A3 c3, cs = [.slice A1 x.nodes.length c1, .slice A2 x.pods.length c2, .slice A3 x.budgets.length c3] ∧
    node.S h (.slice A1 x.nodes.length c1) x.nodes ∧ pod.S h (.slice A2 x.pods.length c2) x.pods ∧ budget.S h (.slice A3 x.budgets.length c3) x.budgets
  len := by rintro h x cs ⟨_, _, _, _, _, _, rfl, _⟩; rfl
  mono := by rintro h k x cs hk ⟨A1, c1, A2, c2, A3, c3, e, h1, h2, h3⟩; exact ⟨A1, c1, A2, c2, A3, c3, e, h1.mono hk, h2.mono hk, h3.mono hk⟩
/-- Whatever reads as a list is spelled by its length. -/
theorem S.val {d : Kd α} {h : View} {v : Value} {xs : List α} (s : d.S h v xs) : ∃ A c, v = .slice A xs.length c ∧ d.S h (.slice A xs.length c) xs := by
  obtain ⟨A, c, rfl, _⟩ := id s
  exact ⟨A, c, rfl, s⟩
end Kd
theorem wf_i64 {n : Int} (h : (Lit.int .i64 n).wf = true) : i64 n := by
  simp only [Lit.wf, Bool.and_eq_true, decide_eq_true_eq] at h
  exact h
end Go.Proofs.Ytfbmfjmnpfidoaa

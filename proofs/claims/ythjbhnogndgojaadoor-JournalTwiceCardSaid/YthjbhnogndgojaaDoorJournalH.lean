import Derived.Test.YthjbhnogndgojaaDoorJournalG
import Derived.Test.YthjbhnogndgojaaDoorStruct
import Derived.BigQuiet
namespace Go.Proofs.YthjbhnogndgojaaDoor
open Go.RowKit

namespace Kd
variable {α : Type}
/-- Cells without memory behind them, n of them. -/
def flat (n : Nat) (f : α → List Value) (p : α → Prop) (hn : ∀ x, (f x).length = n) : Kd α where
  sz := n
  K := fun _ x cs => cs = f x ∧ p x
  len := fun h => by rw [h.1]; exact hn _
  mono := fun _ h => h
theorem S.elemN {n : Nat} {f : α → List Value} {p : α → Prop} {hn : ∀ x, (f x).length = n} {w : World} {M : List Nat} {A : Option Addr} {m cap : Nat} {xs : List α} (s : (flat n f p hn).S (vw w M) (.slice A m cap) xs) (j : Nat) (hj : j < xs.length) :
    ∃ b off, A = some ⟨b, off, none⟩ ∧ w.rangeAt b (off + j * n) (f xs[j]) ∧ p xs[j] := by
  obtain ⟨b, off, cs, e, h1, h2⟩ := s.elem j hj
  obtain ⟨rfl, hp⟩ := h1
  exact ⟨b, off, e, range_of_view h2, hp⟩
end Kd
structure JAct where
  op : Int
  n : Int
  s : ByteArray
def JAct.cells (x : JAct) : List Value := [.int .i64 x.op, .int .i64 x.n, .string x.s]
def JAct.Ok (x : JAct) : Prop := (-9223372036854775808 ≤ x.n ∧ x.n ≤ 9223372036854775807) ∧ x.s.size ≤ 140737488351232
def Kd.jact : Kd JAct := Kd.flat 3 JAct.cells JAct.Ok (fun _ => rfl)
theorem wf_i64 {n : Int} (h : (Lit.int .i64 n).wf = true) : -9223372036854775808 ≤ n ∧ n ≤ 9223372036854775807 := by
  simp only [Lit.wf, Bool.and_eq_true, decide_eq_true_eq] at h
  exact h
theorem opens_jact : Kd.jact.Opens Tryd.prog 52 :=
  Kd.Opens.conv (d := Kd.cons (Kd.int .i64) (Kd.cons (Kd.int .i64) (Kd.cons Kd.str Kd.unit))) (Kd.opens_struct (by kernel_rfl) Tryd.underlying52 (Kd.opensFs_cons rfl (Kd.opens_int (by kernel_rfl) Tryd.underlying3) (Kd.opensFs_cons rfl (Kd.opens_int (by kernel_rfl) Tryd.underlying3) (Kd.opensFs_cons rfl (Kd.opens_str (by kernel_rfl) Tryd.underlying9) Kd.opensFs_nil)))) rfl
    (by rintro k ⟨a, b, c, u⟩ cs ⟨_, _, rfl, ⟨rfl, ha⟩, _, _, rfl, ⟨rfl, hb⟩, _, _, rfl, ⟨rfl, hc⟩, rfl⟩; exact ⟨⟨a, b, c⟩, rfl, wf_i64 hb, hc⟩)
/-- Are calls few, and short? -/
def Fews (l : List JAct) : Prop := l.length ≤ 60 ∧ ∀ x ∈ l, x.s.size ≤ 5000
def FewDone (l : List JAct) (w : World) (e : Ending) (w' : World) : Prop := ∃ r, e = .returned (.bool r) ∧ (r = true → Fews l) ∧ w = w'
set_option maxHeartbeats 1000000 in
theorem few_calls (v : Value) (l : List JAct) (w : World) (hs : Kd.jact.S (vw w []) v l) :
    Calls Tryd.prog 20 #[v] w (FewDone l w) := by
  obtain ⟨A, cap, rfl, hcap, hlen, hnil, hcell⟩ := id hs
  clear hcell hnil
  have HS := Lib.hid hs
  clear hs
  go_enter Tryd.func20, Tryd.ntmps20
  by_cases h60 : 60 < l.length
  · go_wp2
    go_ret
    exact ⟨_, rfl, (fun h => by cases h), rfl⟩
  · go_wp2
    go_loop [3] (fun i => ∃ k : Nat, k ≤ l.length ∧ i = .int .i64 k ∧ Hid (∀ j, (h : j < l.length) → j < k → (l[j]).s.size ≤ 5000)) (fun i => l.length - (intOf i).toNat)
    case atStart => exact ⟨0, Nat.zero_le _, rfl, fun _ _ h => by omega⟩
    case round =>
      obtain ⟨k, hk, rfl, HR⟩ := hrel
      by_cases hlt : k < l.length
      · obtain ⟨b, off, rfl, hc, hp⟩ := HS.out.elemN k hlt
        have c2 : w.cell? ⟨b, off + k * 3 + 2, none⟩ = some (.string (l[k]).s) := hc 2 _ rfl
        by_cases h5 : 5000 < (l[k]).s.size
        · go_wp2
          go_ret
          exact ⟨_, rfl, (fun h => by cases h), rfl⟩
        · go_wp2
          go_round
          case rel => exact ⟨k + 1, by omega, by go_num, fun j h hj => by
            by_cases e : j = k
            · subst e; omega
            · exact HR.out j h (by omega)⟩
          case measure => simp [intOf]; omega
      · go_wp2
        go_ret
        exact ⟨_, rfl, fun _ => ⟨by omega, fun x hx => by
          obtain ⟨j, hj, rfl⟩ := List.getElem_of_mem hx
          exact HR.out j hj (by omega)⟩, rfl⟩
end Go.Proofs.YthjbhnogndgojaaDoor

import Derived.Test.YtfbmfjmnpfidoaaKinds
import Derived.Test.YtfbmfjmnpfidoaaCells
import Derived.WalkSmall
namespace Go.Proofs.Ytfbmfjmnpfidoaa
open Go.RowKit

theorem drewN_below (w : World) (n : Nat) : Below w.heap.size w (w.drewN n) := below_drewN (Below.refl _ _) n
theorem alloc_below (w : World) (o : Obj) : Below w.heap.size w (w.alloc o) := (Below.refl _ _).alloc (Nat.le_refl _) o
theorem Below.then {w w1 w2 : World} (h : Below w.heap.size w w1) (k : Below w1.heap.size w1 w2) : Below w.heap.size w w2 := h.trans (k.mono h.size)
theorem Below.thenN {B : Nat} {w w1 w2 : World} (h : Below B w w1) (hB : B ≤ w1.heap.size) (k : Below w1.heap.size w1 w2) : Below B w w2 := h.trans (k.mono hB)
theorem empty_beq (a : ByteArray) : (a.toList.isEmpty) = decide (a = ⟨#[]⟩) := by
  have h1 := Lib.bytes_beq_false_iff a ⟨#[]⟩
  have h0 : (⟨#[]⟩ : ByteArray).toList = [] := by unfold ByteArray.toList ByteArray.toList.loop; rfl
  rw [h0] at h1
  by_cases h : a = ⟨#[]⟩
  · rw [decide_eq_true h, h, h0]; rfl
  · have := h1.2 h
    rw [decide_eq_false h]
    cases he : a.toList with
    | nil => rw [he] at this; cases this
    | cons _ _ => rfl
def getV : List Pair → ByteArray → ByteArray × Bool
  | [], _ => (⟨#[]⟩, false)
  | p :: r, k => if p.key = k then (p.val, true) else getV r k
def zNd : Nd := ⟨⟨#[]⟩, [], [], [], false⟩
def findV : List Nd → ByteArray → Nd × Bool
  | [], _ => (zNd, false)
  | n :: r, k => if n.name = k then (n, true) else findV r k
theorem getV_at {l : List Pair} {j : Nat} (h : j < l.length) (key : ByteArray) : getV (l.drop j) key = if l[j].key = key then (l[j].val, true) else getV (l.drop (j + 1)) key := by
  rw [List.drop_eq_getElem_cons h]; rfl
theorem findV_at {l : List Nd} {j : Nat} (h : j < l.length) (key : ByteArray) : findV (l.drop j) key = if l[j].name = key then (l[j], true) else findV (l.drop (j + 1)) key := by
  rw [List.drop_eq_getElem_cons h]; rfl
theorem blk_all {w : World} {p : Nat} {cs : Array Value} {T : TypeId} (h : w.heap[p]? = some (.cells cs T (0, 0))) : (∀ j, w.cell? ⟨p, j, none⟩ = cs[j]?) ∧ ∀ j, w.frozen? ⟨p, j, none⟩ = false :=
  ⟨fun j => cell_of_row w p j _ _ _ h, fun j => by simp [World.frozen?, h]⟩
theorem blk_set {w : World} {p j : Nat} {cs : Array Value} {T : TypeId} {fr : Nat × Nat} (h : w.heap[p]? = some (.cells cs T fr)) (u : Value) : (w.setCell ⟨p, j, none⟩ u).heap[p]? = some (.cells (cs.setIfInBounds j u) T fr) := by
  simp [World.setCell, Array.getElem?_modify, h]
theorem ret_sb {a : ByteArray} {b : Bool} {r : ByteArray × Bool} (h : (a, b) = r) : Ending.returned (.tuple #[.string a, .bool b]) = .returned (.tuple #[.string r.1, .bool r.2]) := by rw [← h]
def GetDone (l : List Pair) (key : ByteArray) (w : World) (e : Ending) (w' : World) : Prop := e = .returned (.tuple #[.string (getV l key).1, .bool (getV l key).2]) ∧ Below w.heap.size w w'
def FindDone (l : List Nd) (key : ByteArray) (w : World) (e : Ending) (w' : World) : Prop := ∃ cs, e = .returned (.tuple #[.agg cs.toArray, .bool (findV l key).2]) ∧ Kd.node.K (vw w' []) (findV l key).1 cs ∧ Below w.heap.size w w'
set_option maxHeartbeats 1000000 in
theorem Get_calls (v : Value) (l : List Pair) (key : ByteArray) (w : World) (hs : Kd.pair.S (vw w []) v l) :
    Calls Try.prog 51 #[v, .string key] w (GetDone l key w) := by
  obtain ⟨A, cap, rfl, hs⟩ := hs.val
  obtain ⟨_, hcap, hlen⟩ := hs.form
  have HS := Lib.hid hs
  clear hs
  go_enter Try.func51, Try.ntmps51
  go_wp2
  go_loopw [10] (fun i wr => ∃ k : Nat, k ≤ l.length ∧ i = .int .i64 k ∧ Hid (getV (l.drop k) key = getV l key) ∧ Hid (Below w.heap.size w wr)) (fun i _ => l.length - (intOf i).toNat)
  case atStart => exact ⟨0, Nat.zero_le _, rfl, rfl, Below.refl _ _⟩
  case round =>
    obtain ⟨k, hk, rfl, HG, HB⟩ := hrel
    by_cases hlt : k < l.length
    · obtain ⟨b, off, rfl, hc, _⟩ := (HS.out.mono (vw_below HB.out)).elemN k hlt
      have c0 : wr.cell? ⟨b, off + k * 2, none⟩ = some (.string l[k].key) := hc 0 _ rfl
      have c1 : wr.cell? ⟨b, off + k * 2 + 1, none⟩ = some (.string l[k].val) := hc 1 _ rfl
      have hg := HG.out
      rw [getV_at hlt] at hg
      have HG2 := Lib.hid hg
      clear hg hc HG
      by_cases he : l[k].key = key
      · have hb := str_beq he
        have hr := HG2.out
        rw [if_pos he] at hr
        have HR := Lib.hid hr
        clear he hr
        go_wp2
        go_ret2
        exact ⟨ret_sb HR.out, HB.out.alloc HB.out.size _⟩
      · have hb := str_nbeq he
        have hr := HG2.out
        rw [if_neg he] at hr
        have HR := Lib.hid hr
        clear he hr
        go_wp2
        go_roundw
        case rel => exact ⟨k + 1, by omega, by go_num, HR.out, HB.out.alloc HB.out.size _⟩
        case measure => simp [intOf]; omega
    · obtain rfl : k = l.length := by omega
      have hr := HG.out
      rw [List.drop_length] at hr
      have HR := Lib.hid hr
      clear hr
      go_wp2
      go_ret2
      exact ⟨ret_sb HR.out, HB.out⟩
def GetSame (l : List Pair) (key : ByteArray) (w : World) (e : Ending) (w' : World) : Prop := e = .returned (.tuple #[.string (getV l key).1, .bool (getV l key).2]) ∧ w = w'
set_option maxHeartbeats 1000000 in
theorem Label_calls (v : Value) (l : List Pair) (key : ByteArray) (w : World) (hs : Kd.pair.S (vw w []) v l) :
    Calls Try.prog 50 #[v, .string key] w (GetSame l key w) := by
  obtain ⟨A, cap, rfl, hs⟩ := hs.val
  obtain ⟨_, hcap, hlen⟩ := hs.form
  have HS := Lib.hid hs
  clear hs
  go_enter Try.func50, Try.ntmps50
  go_wp2
  go_loop [6] (fun i => ∃ k : Nat, k ≤ l.length ∧ i = .int .i64 k ∧ Hid (getV (l.drop k) key = getV l key)) (fun i => l.length - (intOf i).toNat)
  case atStart => exact ⟨0, Nat.zero_le _, rfl, rfl⟩
  case round =>
    obtain ⟨k, hk, rfl, HG⟩ := hrel
    by_cases hlt : k < l.length
    · obtain ⟨b, off, rfl, hc, _⟩ := HS.out.elemN k hlt
      have c0 : w.cell? ⟨b, off + k * 2, none⟩ = some (.string l[k].key) := hc 0 _ rfl
      have c1 : w.cell? ⟨b, off + k * 2 + 1, none⟩ = some (.string l[k].val) := hc 1 _ rfl
      have hg := HG.out
      rw [getV_at hlt] at hg
      have HG2 := Lib.hid hg
      clear hg hc HG
      by_cases he : l[k].key = key
      · have hb := str_beq he
        have hr := HG2.out
        rw [if_pos he] at hr
        have HR := Lib.hid hr
        clear he hr
        go_wp2
        go_ret2
        exact ⟨ret_sb HR.out, rfl⟩
      · have hb := str_nbeq he
        have hr := HG2.out
        rw [if_neg he] at hr
        have HR := Lib.hid hr
        clear he hr
        go_wp2
        go_round
        case rel => exact ⟨k + 1, by omega, by go_num, HR.out⟩
        case measure => simp [intOf]; omega
    · obtain rfl : k = l.length := by omega
      have hr := HG.out
      rw [List.drop_length] at hr
      have HR := Lib.hid hr
      clear hr
      go_wp2
      go_ret2
      exact ⟨ret_sb HR.out, rfl⟩
theorem K_zNd (h : View) : Kd.node.K h zNd [.string ⟨#[]⟩, .slice none 0 0, .slice none 0 0, .slice none 0 0, .bool false] :=
  ⟨none, 0, none, 0, none, 0, rfl, Nat.zero_le _, Kd.S.nil _ _, Kd.S.nil _ _, Kd.S.nil _ _⟩
set_option maxHeartbeats 1000000 in
set_option maxRecDepth 100000 in
theorem Find_calls (v : Value) (l : List Nd) (key : ByteArray) (w : World) (hs : Kd.node.S (vw w []) v l) :
    Calls Try.prog 70 #[v, .string key] w (FindDone l key w) := by
  obtain ⟨A, cap, rfl, hs⟩ := hs.val
  obtain ⟨_, hcap, hlen⟩ := hs.form
  have HS := Lib.hid hs
  clear hs
  go_enter Try.func70, Try.ntmps70
  go_wp2
  go_loopw [10] (fun i wr => ∃ k : Nat, k ≤ l.length ∧ i = .int .i64 k ∧ Hid (findV (l.drop k) key = findV l key) ∧ Hid (Below w.heap.size w wr) ∧ Hid (wr.heap[w.heap.size]? = some (.cells #[.string ⟨#[]⟩, .slice none 0 0, .slice none 0 0, .slice none 0 0, .bool false] 68 (0, 0)))) (fun i _ => l.length - (intOf i).toNat)
  case atStart => exact ⟨0, Nat.zero_le _, rfl, rfl, alloc_below _ _, blk_last _ _⟩
  case round =>
    obtain ⟨k, hk, rfl, HG, HB, HR0⟩ := hrel
    obtain ⟨z1, z2⟩ := blk_all HR0.out
    have z3 := blk_lt HR0.out
    by_cases hlt : k < l.length
    · obtain ⟨b, off, cs, rfl, hn, hc⟩ := HS.out.both HB.out k hlt
      have HN := Lib.hid hn
      obtain ⟨A1, d1, A2, d2, A3, d3, rfl, -⟩ := hn
      have hg := HG.out
      rw [findV_at hlt] at hg
      have HG2 := Lib.hid hg
      have HC : Hid (wr.rangeAt b (off + k * 5) _) := hc
      clear hg hc HG
      by_cases he : l[k].name = key
      · have hb := str_beq he
        have hr := HG2.out
        rw [if_pos he] at hr
        have HR := Lib.hid hr
        clear he hr
        go_wp2_with (with_reducible refine wpList_load_mid rfl 68 _ rfl b (off + k * 5) rfl _ _ HC.out Try.underlying68 rfl (by kernel_rfl) ?_)
        have hbl := Below.alloc (Below.setCell (Below.setCell (Below.setCell (Below.setCell (Below.setCell HB.out (p := ⟨w.heap.size, 0, none⟩) (Nat.le_refl _) (.string l[k].name)) (p := ⟨w.heap.size, 1, none⟩) (Nat.le_refl _) (.slice A1 l[k].cap.length d1)) (p := ⟨w.heap.size, 2, none⟩) (Nat.le_refl _) (.slice A2 l[k].labels.length d2)) (p := ⟨w.heap.size, 3, none⟩) (Nat.le_refl _) (.slice A3 l[k].taints.length d3)) (p := ⟨w.heap.size, 4, none⟩) (Nat.le_refl _) (.bool l[k].cordon)) (by simp [World.setCell]; omega) (.cells #[.string l[k].name, .slice A1 l[k].cap.length d1, .slice A2 l[k].labels.length d2, .slice A3 l[k].taints.length d3, .bool l[k].cordon] 68)
        have hx := Kd.node.mono (vw_below hbl) HN.out
        refine ret_row2 (cs := [.string l[k].name, .slice A1 l[k].cap.length d1, .slice A2 l[k].labels.length d2, .slice A3 l[k].taints.length d3, .bool l[k].cordon]) rfl rfl
          ((blk_old _ _ (by simpa [World.setCell] using z3)).trans ((blk_set (blk_set (blk_set (blk_set (blk_set HR0.out _) _) _) _) _).trans rfl)) Try.underlying68 rfl (by kernel_rfl) rfl
          ⟨[.string l[k].name, .slice A1 l[k].cap.length d1, .slice A2 l[k].labels.length d2, .slice A3 l[k].taints.length d3, .bool l[k].cordon], ?_, ?_, hbl⟩
        · rw [← HR.out]; rfl
        · rw [← HR.out]; exact hx
      · have hb := str_nbeq he
        have hr := HG2.out
        rw [if_neg he] at hr
        have HR := Lib.hid hr
        clear he hr z1 z2
        go_wp2_with (with_reducible refine wpList_load_mid rfl 68 _ rfl b (off + k * 5) rfl _ _ HC.out Try.underlying68 rfl (by kernel_rfl) ?_)
        go_roundw
        case rel => exact ⟨k + 1, by omega, by go_num, HR.out, HB.out.alloc HB.out.size _, (blk_old _ _ z3).trans HR0.out⟩
        case measure => simp [intOf]; omega
    · obtain rfl : k = l.length := by omega
      have hr := HG.out
      rw [List.drop_length] at hr
      have HR := Lib.hid hr
      clear hr
      go_wp2
      have hbl := Below.setCell (Below.setCell (Below.setCell (Below.setCell (Below.setCell HB.out (p := ⟨w.heap.size, 0, none⟩) (Nat.le_refl _) (.string ⟨#[]⟩)) (p := ⟨w.heap.size, 1, none⟩) (Nat.le_refl _) (.slice none 0 0)) (p := ⟨w.heap.size, 2, none⟩) (Nat.le_refl _) (.slice none 0 0)) (p := ⟨w.heap.size, 3, none⟩) (Nat.le_refl _) (.slice none 0 0)) (p := ⟨w.heap.size, 4, none⟩) (Nat.le_refl _) (.bool false)
      refine ret_row2 (cs := [.string ⟨#[]⟩, .slice none 0 0, .slice none 0 0, .slice none 0 0, .bool false]) rfl rfl
        ((blk_set (blk_set (blk_set (blk_set (blk_set HR0.out _) _) _) _) _).trans rfl) Try.underlying68 rfl (by kernel_rfl) rfl
        ⟨[.string ⟨#[]⟩, .slice none 0 0, .slice none 0 0, .slice none 0 0, .bool false], ?_, ?_, hbl⟩
      · rw [← HR.out]; rfl
      · rw [← HR.out]; exact K_zNd _
end Go.Proofs.Ytfbmfjmnpfidoaa

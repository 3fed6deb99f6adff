import Derived.Test.YtnmhicgbdalniaaGreatDoorMs2
import Derived.Test.YtnmhicgbdalniaaGreatDoorMs41
import Derived.Test.YtnmhicgbdalniaaGreatDoorMs42
import Derived.Test.YtnmhicgbdalniaaGreatDoorMs43
namespace Go.Proofs.YtnmhicgbdalniaaGreatDoor
open Go.RowKit Go.Sort Go.Lib

/-! The nodes, the best ones first: the program's side. -/
def FindDoneM (M : List Nat) (l : List Nd) (key : ByteArray) (w : World) (e : Ending) (w' : World) : Prop := ∃ cs, e = .returned (.tuple #[.agg cs.toArray, .bool (findV l key).2]) ∧ Kd.node.K (vw w' M) (findV l key).1 cs ∧ Below w.heap.size w w'
set_option maxHeartbeats 1000000 in
set_option maxRecDepth 100000 in
theorem FindM_calls (M : List Nat) (v : Value) (l : List Nd) (key : ByteArray) (w : World) (hs : Kd.node.S (vw w M) v l) :
    Calls Tryz.prog 96 #[v, .string key] w (FindDoneM M l key w) := by
  obtain ⟨A, cap, rfl, hs⟩ := hs.val
  obtain ⟨_, hcap, hlen⟩ := hs.form
  have HS := Lib.hid hs
  clear hs
  go_enter Tryz.func96, Tryz.ntmps96
  go_wp2
  go_loopw [10] (fun i wr => ∃ k : Nat, k ≤ l.length ∧ i = .int .i64 k ∧ Hid (findV (l.drop k) key = findV l key) ∧ Hid (Below w.heap.size w wr) ∧ Hid (wr.heap[w.heap.size]? = some (.cells #[.string ⟨#[]⟩, .slice none 0 0, .slice none 0 0, .slice none 0 0, .bool false] 94 (0, 0)))) (fun i _ => l.length - (intOf i).toNat)
  case atStart => exact ⟨0, Nat.zero_le _, rfl, rfl, alloc_below _ _, blk_last _ _⟩
  case round =>
    obtain ⟨k, hk, rfl, HG, HB, HR0⟩ := hrel
    obtain ⟨z1, z2⟩ := blk_all HR0.out
    have z3 := blk_lt HR0.out
    by_cases hlt : k < l.length
    · obtain ⟨b, off, cs, rfl, hn, hc⟩ := HS.out.bothM HB.out k hlt
      have HN := Lib.hid hn
      obtain ⟨A1, d1, A2, d2, A3, d3, rfl, -⟩ := hn
      have hg := HG.out
      rw [findV_at hlt] at hg
      have HG2 := Lib.hid hg
      have HC : Hid (wr.rangeAt b (off + k * 5) _) := hc
      clear hg hc HG
      by_cases he : l[k].name = key
      · have hb := str_beq he
        have hr := HG2.out
        rw [if_pos he] at hr
        have HR := Lib.hid hr
        clear he hr
        go_wp2_with (with_reducible refine wpList_load_mid rfl 94 _ rfl b (off + k * 5) rfl _ _ HC.out Tryz.underlying94 rfl (by kernel_rfl) ?_)
        have hbl := Below.alloc (Below.setCell (Below.setCell (Below.setCell (Below.setCell (Below.setCell HB.out (p := ⟨w.heap.size, 0, none⟩) (Nat.le_refl _) (.string l[k].name)) (p := ⟨w.heap.size, 1, none⟩) (Nat.le_refl _) (.slice A1 l[k].cap.length d1)) (p := ⟨w.heap.size, 2, none⟩) (Nat.le_refl _) (.slice A2 l[k].labels.length d2)) (p := ⟨w.heap.size, 3, none⟩) (Nat.le_refl _) (.slice A3 l[k].taints.length d3)) (p := ⟨w.heap.size, 4, none⟩) (Nat.le_refl _) (.bool l[k].cordon)) (by simp [World.setCell]; omega) (.cells #[.string l[k].name, .slice A1 l[k].cap.length d1, .slice A2 l[k].labels.length d2, .slice A3 l[k].taints.length d3, .bool l[k].cordon] 94)
        have hx := Kd.node.mono (vw_below hbl) HN.out
        refine ret_row2 (cs := [.string l[k].name, .slice A1 l[k].cap.length d1, .slice A2 l[k].labels.length d2, .slice A3 l[k].taints.length d3, .bool l[k].cordon]) rfl rfl
          ((blk_old _ _ (by simpa [World.setCell] using z3)).trans ((blk_set (blk_set (blk_set (blk_set (blk_set HR0.out _) _) _) _) _).trans rfl)) Tryz.underlying94 rfl (by kernel_rfl) rfl
          ⟨[.string l[k].name, .slice A1 l[k].cap.length d1, .slice A2 l[k].labels.length d2, .slice A3 l[k].taints.length d3, .bool l[k].cordon], ?_, ?_, hbl⟩
        · rw [← HR.out]; rfl
        · rw [← HR.out]; exact hx
      · have hb := str_nbeq he
        have hr := HG2.out
        rw [if_neg he] at hr
        have HR := Lib.hid hr
        clear he hr z1 z2
        go_wp2_with (with_reducible refine wpList_load_mid rfl 94 _ rfl b (off + k * 5) rfl _ _ HC.out Tryz.underlying94 rfl (by kernel_rfl) ?_)
        go_roundw
        case rel => exact ⟨k + 1, by omega, by go_num, HR.out, HB.out.alloc HB.out.size _, (blk_old _ _ z3).trans HR0.out⟩
        case measure => simp [intOf]; omega
    · obtain rfl : k = l.length := by omega
      have hr := HG.out
      rw [List.drop_length] at hr
      have HR := Lib.hid hr
      clear hr
      go_wp2
      have hbl := Below.setCell (Below.setCell (Below.setCell (Below.setCell (Below.setCell HB.out (p := ⟨w.heap.size, 0, none⟩) (Nat.le_refl _) (.string ⟨#[]⟩)) (p := ⟨w.heap.size, 1, none⟩) (Nat.le_refl _) (.slice none 0 0)) (p := ⟨w.heap.size, 2, none⟩) (Nat.le_refl _) (.slice none 0 0)) (p := ⟨w.heap.size, 3, none⟩) (Nat.le_refl _) (.slice none 0 0)) (p := ⟨w.heap.size, 4, none⟩) (Nat.le_refl _) (.bool false)
      refine ret_row2 (cs := [.string ⟨#[]⟩, .slice none 0 0, .slice none 0 0, .slice none 0 0, .bool false]) rfl rfl
        ((blk_set (blk_set (blk_set (blk_set (blk_set HR0.out _) _) _) _) _).trans rfl) Tryz.underlying94 rfl (by kernel_rfl) rfl
        ⟨[.string ⟨#[]⟩, .slice none 0 0, .slice none 0 0, .slice none 0 0, .bool false], ?_, ?_, hbl⟩
      · rw [← HR.out]; rfl
      · rw [← HR.out]; exact K_zNd _
theorem find_in : ∀ {l : List Nd} {k : ByteArray}, (findV l k).2 = true → (findV l k).1 ∈ l
  | [], _, h => by cases h
  | x :: r, k, h => by
    unfold findV at h ⊢
    split
    · exact List.mem_cons_self ..
    · rename_i hne
      rw [if_neg hne] at h
      exact List.mem_cons_of_mem _ (find_in h)
theorem find_zero : ∀ {l : List Nd} {k : ByteArray}, (findV l k).2 = false → (findV l k).1 = zNd
  | [], _, _ => rfl
  | x :: r, k, h => by
    unfold findV at h ⊢
    split
    · rename_i he
      rw [if_pos he] at h; cases h
    · rename_i hne
      rw [if_neg hne] at h
      exact find_zero h
/-- What is kept while two maps are written. -/
structure Keep2 (U W : World) (a b : Nat) : Prop where
  os : W.os = U.os
  tape : W.tape = U.tape
  output : W.output = U.output
  size : U.heap.size ≤ W.heap.size
  block : ∀ k, k < U.heap.size → k ≠ a → k ≠ b → W.heap[k]? = U.heap[k]?
namespace Keep2
variable {U W V : World} {a b : Nat}
theorem refl (U : World) (a b : Nat) : Keep2 U U a b := ⟨rfl, rfl, rfl, Nat.le_refl _, fun _ _ _ _ => rfl⟩
theorem trans (h : Keep2 U W a b) (k : Keep2 W V a b) : Keep2 U V a b := ⟨k.os.trans h.os, k.tape.trans h.tape, k.output.trans h.output, Nat.le_trans h.size k.size, fun i hi ha hb => (k.block i (Nat.lt_of_lt_of_le hi h.size) ha hb).trans (h.block i hi ha hb)⟩
theorem of_below (h : Below U.heap.size U W) : Keep2 U W a b := ⟨h.os, h.tape, h.output, h.size, fun k hk _ _ => h.block k hk⟩
theorem of_grown (h : U.grownBy W (some a)) : Keep2 U W a b := ⟨h.os, h.tape, h.output, h.size, fun k hk ha _ => h.block k hk (fun e => ha (by injection e))⟩
theorem of_grown2 (h : U.grownBy W (some b)) : Keep2 U W a b := ⟨h.os, h.tape, h.output, h.size, fun k hk _ hb => h.block k hk (fun e => hb (by injection e))⟩
theorem below (h : Keep2 U W a b) {base : Nat} {w : World} (hb : Below base w U) (hs : base ≤ U.heap.size) (ha : base ≤ a) (hb' : base ≤ b) : Below base w W :=
  hb.trans ⟨h.os, h.tape, h.output, h.size, fun k hk => h.block k (by omega) (by omega) (by omega)⟩
theorem get (h : Keep2 U W a b) {k : Nat} {o : Obj} (hk : U.heap[k]? = some o) (ha : k ≠ a) (hb : k ≠ b) : W.heap[k]? = some o := (h.block k (blk_lt hk) ha hb).trans hk
theorem view (h : Keep2 U W a b) : (vw U [a, b]).le (vw W [a, b]) := fun k o hk => by
  obtain ⟨h1, h2⟩ := vw_eq hk
  have ha : k ≠ a := fun e => h1 (by simp [e])
  have hb : k ≠ b := fun e => h1 (by simp [e])
  exact vw_mk h1 (h.get h2 ha hb)
end Keep2
theorem callFunc_order1 (args : Array Value) (w : World) : (callFunc 135 args).run Tryz.prog w = .ok (.enter 135 args) w := by
  simp [go_sem]
theorem strs_cell {w : World} {base : Nat} {T : TypeId} {A : Option Addr} {c : Nat} {xs : List ByteArray} (h : w.ownsRow base T 1 (.slice A xs.length c) xs.length ((xs.map bs).map encStr)) {k : Nat} (hk : k < xs.length) :
    ∃ g, A = some ⟨g, 0, none⟩ ∧ base ≤ g ∧ g < w.heap.size ∧ w.cell? ⟨g, k, none⟩ = some (.string xs[k]) := by
  rw [enc_strs] at h
  obtain ⟨-, ⟨-, h0⟩ | ⟨g, cap, cur, e, hg, hh, hn, hc, hs, ht⟩⟩ := h
  · omega
  · injection e with e1
    refine ⟨g, e1, hg, blk_lt hh, ?_⟩
    rw [cell_of_row w g k cur T (0, 0) hh]
    have h2 : (cur.toList.take (xs.length * 1))[k]? = some (.string xs[k]) := by rw [ht, List.getElem?_map, List.getElem?_eq_getElem hk]; rfl
    rw [List.getElem?_take, if_pos (by omega)] at h2
    simpa using h2
/-- What the two maps hold. -/
def OrdL (s : St) (p : Pd) (l : List ByteArray) (ls lo : List (ByteArray × Value)) : Prop :=
  ls.map Prod.fst = l ∧ lo.map Prod.fst = l ∧ (∀ x ∈ ls, x.2 = .int .i64 (softN s p x.1)) ∧ ∀ x ∈ lo, ∃ r, x.2 = .float .f64 r ∧ r < 18446744073709551616 ∧ fl r = scoP s p x.1
theorem OrdL.snoc {s : St} {p : Pd} {l : List ByteArray} {ls lo : List (ByteArray × Value)} (h : OrdL s p l ls lo) {x : ByteArray} {r : Nat} (h1 : r < 18446744073709551616) (h2 : fl r = scoP s p x) : OrdL s p (l ++ [x]) (ls ++ [(x, .int .i64 (softN s p x))]) (lo ++ [(x, .float .f64 r)]) := by
  obtain ⟨a, b, c, d⟩ := h
  refine ⟨by rw [List.map_append, a]; rfl, by rw [List.map_append, b]; rfl, fun y hy => ?_, fun y hy => ?_⟩
  · rcases List.mem_append.1 hy with hy | hy
    · exact c y hy
    · obtain rfl : y = _ := by simpa using hy
      rfl
  · rcases List.mem_append.1 hy with hy | hy
    · exact d y hy
    · obtain rfl : y = _ := by simpa using hy
      exact ⟨r, rfl, h1, h2⟩
theorem OrdL.new {s : St} {p : Pd} {l : List ByteArray} {ls lo : List (ByteArray × Value)} (h : OrdL s p l ls lo) {x : ByteArray} (hx : x ∉ l) : (∀ y ∈ ls, y.1 ≠ x) ∧ ∀ y ∈ lo, y.1 ≠ x :=
  ⟨fun y hy e => hx (by rw [← h.1]; exact List.mem_map.2 ⟨y, hy, e⟩), fun y hy e => hx (by rw [← h.2.1]; exact List.mem_map.2 ⟨y, hy, e⟩)⟩
theorem OrdL.at_ {s : St} {p : Pd} {l : List ByteArray} {ls lo : List (ByteArray × Value)} (h : OrdL s p l ls lo) {x : ByteArray} (hx : x ∈ l) : (x, .int .i64 (softN s p x)) ∈ ls ∧ ∃ r, (x, .float .f64 r) ∈ lo ∧ r < 18446744073709551616 ∧ fl r = scoP s p x := by
  constructor
  · rw [← h.1] at hx
    obtain ⟨y, hy, rfl⟩ := List.mem_map.1 hx
    have := h.2.2.1 y hy
    rw [← this]; exact hy
  · rw [← h.2.1] at hx
    obtain ⟨y, hy, rfl⟩ := List.mem_map.1 hx
    obtain ⟨r, h1, h2, h3⟩ := h.2.2.2 y hy
    exact ⟨r, by rw [← h1]; exact hy, h2, h3⟩
theorem sortNodes_calls (cf : ByteArray → ByteArray → Int) (hO : SWO (ltOf cf)) (cb : Array Value) {w : World} {base : Nat} {T : TypeId} {v : Value} {xs : List ByteArray} (ho : w.ownsRow base T 1 v xs.length ((xs.map bs).map encStr)) (hlen : xs.length ≤ 140737488351232) (hs : ∀ x ∈ xs, x.size ≤ 140737488351232)
    (hcmp : ∀ W : World, (∀ k, k < w.heap.size → v.ownBlock ≠ some k → W.heap[k]? = w.heap[k]?) → w.heap.size ≤ W.heap.size → ∀ x ∈ xs, ∀ y ∈ xs, Calls Tryz.prog 135 (#[.string x, .string y] ++ cb) W fun e w' => e = .returned (.int .i64 (cf x y)) ∧ ∃ q os, w' = grow (W.drewN q) os) :
    Calls Tryz.prog 134 #[v, .func (.func 135) #[] cb] w fun e w' => e = .returned (.tuple #[]) ∧ ∃ ys, Sorted cf xs ys ∧ Kd.str.S (nx w' base none) v ys ∧ Below base w w' :=
  sort_strs Tryz.sortStr Tryz.sortStr0 cf hO 135 cb callFunc_order1 ho hlen hs hcmp
theorem own_keep2 {U W : World} {a b base : Nat} {e : TypeId} {size : Nat} {v : Value} {n : Nat} {xs : List Value} (h : U.ownsRow base e size v n xs) (hk : Keep2 U W a b) (hne : ∀ g, v.ownBlock = some g → g ≠ a ∧ g ≠ b) : W.ownsRow base e size v n xs := by
  obtain ⟨h1, h2 | ⟨g, cap, cur, rfl, hg, hh, r⟩⟩ := h
  · exact ⟨h1, .inl h2⟩
  · exact ⟨h1, .inr ⟨g, cap, cur, rfl, hg, hk.get hh (hne g rfl).1 (hne g rfl).2, r⟩⟩
theorem sok_max {x : ByteArray} (h : sok x) : x.size ≤ maxLen := Nat.le_trans h (by decide)
theorem ne_some (n : Nat) : some (n + 1) ≠ some n := fun e => by injection e with e; omega
theorem ne_some2 (n : Nat) : some n ≠ some (n + 1) := fun e => by injection e with e; omega
theorem take_new {α : Type} {l : List α} (h : l.Nodup) {k : Nat} (hk : k < l.length) : l[k] ∉ l.take k := fun hm => by
  obtain ⟨j, hj, e⟩ := List.getElem_of_mem hm
  rw [List.length_take] at hj
  rw [List.getElem_take] at e
  exact (List.pairwise_iff_getElem.1 h) j k (by omega) hk (by omega) e
set_option maxHeartbeats 8000000 in
set_option maxRecDepth 100000 in
theorem Order_sorts (vs vp : Value) (s : St) (p : Pd) (pack : Bool) (w : World) (hs : Kd.state.V (vw w []) vs s) (hp : Kd.pod.V (vw w []) vp p) (hn : s.nodes.length ≤ 1000) (hl : s.pods.length ≤ 900) (hup : UpN Pd.name s.pods) (hc8 : ∀ n ∈ s.nodes, n.cap.length ≤ 1000) (hnm : ∀ n ∈ s.nodes, sok n.name) (hnd : (nodesQ s p).Nodup) :
    Calls Tryz.prog 55 #[vs, vp, .bool pack] w fun e w' => ∃ sv ys, e = .returned sv ∧ Sorted (cmpOf (scoP s p) s p pack) (nodesQ s p) ys ∧ Kd.str.S (nx w' w.heap.size none) sv ys ∧ Below w.heap.size w w' := by
  obtain ⟨cs, rfl, hks⟩ := hs
  obtain ⟨cp, rfl, hkp⟩ := hp
  have HKS := Lib.hid hks
  have HKP := Lib.hid hkp
  obtain ⟨A1, c1, A2, c2, A3, c3, rfl, s1, -⟩ := hks
  obtain ⟨P1, p1, P2, p2, P3, p3, P4, p4, rfl, -, -, -, -, n4⟩ := hkp
  have S1 := Lib.hid s1
  have N4 := Lib.hid n4
  have HUP := Lib.hid hup
  have HC8 : Hid (∀ name, (findV s.nodes name).1.cap.length ≤ 1000) := fun name => by
    cases h : (findV s.nodes name).2 with
    | true =>
      obtain ⟨n, hn, e⟩ := find_has.1 h
      have := find_in h
      exact hc8 _ this
    | false => rw [find_zero h]; exact Nat.zero_le _
  have HNM : Hid (∀ x ∈ nodesQ s p, sok x) := fun x hx => by
    obtain ⟨n, h1, rfl⟩ := List.mem_map.1 hx
    exact hnm n (List.mem_filter.1 h1).1
  obtain ⟨xs, hxs⟩ : ∃ xs, nodesQ s p = xs := ⟨_, rfl⟩
  have hnx : xs.length ≤ 1000 := by
    rw [← hxs]
    unfold nodesQ
    rw [List.length_map]
    exact Nat.le_trans (List.length_filter_le _ _) hn
  have h2 := HNM.out
  rw [hxs] at h2 hnd
  rw [hxs]
  have HND := Lib.hid hnd
  have HNM := Lib.hid h2
  clear s1 n4 hup hc8 hnm hnd h2
  go_enter Tryz.func55, Tryz.ntmps55
  go_upto_region 1 with fail
  obtain ⟨W, hW, hbw, k1, k2, hWs⟩ := al2 w (.cells #[.slice A1 s.nodes.length c1, .slice A2 s.pods.length c2, .slice A3 s.budgets.length c3] 26) (.cells #[.string p.name, .string p.owner, .int .i64 p.prio, .slice P1 p.need.length p1, .slice P2 p.labels.length p2, .slice P3 p.sel.length p3, .slice P4 p.tols.length p4, .string p.key, .int .i64 p.most, .string p.node, .bool p.hold] 35)
  rw [← hW]
  have HVS : Hid (Kd.state.V (vw w []) (.agg #[.slice A1 s.nodes.length c1, .slice A2 s.pods.length c2, .slice A3 s.budgets.length c3]) s) := ⟨_, rfl, HKS.out⟩
  have HVP : Hid (Kd.pod.V (vw w []) (.agg #[.string p.name, .string p.owner, .int .i64 p.prio, .slice P1 p.need.length p1, .slice P2 p.labels.length p2, .slice P3 p.sel.length p3, .slice P4 p.tols.length p4, .string p.key, .int .i64 p.most, .string p.node, .bool p.hold]) p) := ⟨_, rfl, HKP.out⟩
  have HBW := Lib.hid hbw
  have HK := Lib.hid (And.intro k1 k2)
  obtain ⟨z, zf⟩ := blk_all k1
  obtain ⟨y, yf⟩ := blk_all k2
  clear hW hbw k1 k2
  go_wp2_with fail
  refine (Nodes_calls _ _ s p _ (V_below HVS.out HBW.out) (V_below HVP.out HBW.out) hn (by omega)).mono ?_
  rintro e w1 ⟨sv, rfl, ho, hb⟩
  rw [hxs] at ho
  have HO := Lib.hid ho
  have HB1 := Lib.hid hb
  have q1 := (hb.block _ (blk_lt HK.out.1)).trans HK.out.1
  have q2 := (hb.block _ (blk_lt HK.out.2)).trans HK.out.2
  have HK1 := Lib.hid (And.intro q1 q2)
  clear z zf y yf hb ho hxs q1 q2 HK
  obtain ⟨G, gc, rfl⟩ := Kd.row_form0 HO.out
  have hmm := @run_makeMap Tryz.prog
  go_upto_region 3 with fail
  obtain ⟨U, hU, hbu, m1, m2, m3, m4, hUs⟩ := al4 w1 (.map #[] 0) (.map #[] 0) (.cells #[.map (some w1.heap.size)] 203) (.cells #[.map (some (w1.heap.size + 1))] 204)
  rw [← hU]
  have hou := own_below HO.out hbu
  have hms0 := HB1.out.size
  obtain ⟨ms, hms⟩ : ∃ ms, w1.heap.size = ms := ⟨_, rfl⟩
  rw [hms] at m1 m2 m3 m4 hUs hms0 hbu
  rw [hms]
  have HML : Hid (w.heap.size + 1 < ms ∧ U.heap.size = ms + 4) := ⟨by omega, hUs⟩
  have HGR : Hid (∀ b ∈ [ms, ms + 1], b ∈ ([] : List Nat) ∨ w.heap.size ≤ b) := fun b hb => by
    simp at hb
    omega
  have HGM : Hid (∀ g, (Value.slice G xs.length gc).ownBlock = some g → g < ms) := fun g hg => by rw [← hms]; exact (HO.out.lt g hg).2
  have HKU : Hid (U.heap[w.heap.size]? = some (.cells #[.slice A1 s.nodes.length c1, .slice A2 s.pods.length c2, .slice A3 s.budgets.length c3] 26 (0, 0)) ∧ U.heap[w.heap.size + 1]? = some (.cells #[.string p.name, .string p.owner, .int .i64 p.prio, .slice P1 p.need.length p1, .slice P2 p.labels.length p2, .slice P3 p.sel.length p3, .slice P4 p.tols.length p4, .string p.key, .int .i64 p.most, .string p.node, .bool p.hold] 35 (0, 0)) ∧ U.heap[ms + 1 + 1]? = some (.cells #[.map (some ms)] 203 (0, 0)) ∧ U.heap[ms + 1 + 1 + 1]? = some (.cells #[.map (some (ms + 1))] 204 (0, 0))) :=
    ⟨(hbu.block _ (by omega)).trans HK1.out.1, (hbu.block _ (by omega)).trans HK1.out.2, m3, m4⟩
  have HBU : Hid (Below w.heap.size w U) := (HBW.out.trans (HB1.out.mono HBW.out.size)).trans (hbu.mono (by omega))
  have HMU : Hid (MapAt U ms [] ∧ MapAt U (ms + 1) []) := ⟨⟨m1, fun _ h => by cases h⟩, ⟨m2, fun _ h => by cases h⟩⟩
  have HOU := Lib.hid hou
  have HWU : Hid (W.heap.size ≤ ms) := hms0
  clear hU hbu m1 m2 m3 m4 hUs hou hms hms0 hmm HK1 HO HB1
  go_wp2
  go_loopw [22] (fun i wr => ∃ (k : Nat) (ls lo : List (ByteArray × Value)), k ≤ xs.length ∧ i = .int .i64 k ∧ Hid (Keep2 U wr ms (ms + 1)) ∧ Hid (MapAt wr ms ls ∧ MapAt wr (ms + 1) lo) ∧ Hid (OrdL s p (xs.take k) ls lo)) (fun i _ => xs.length - (intOf i).toNat)
  case atStart => exact ⟨0, [], [], Nat.zero_le _, rfl, Keep2.refl _ _ _, HMU.out, rfl, rfl, (fun _ h => by cases h), (fun _ h => by cases h)⟩
  case round =>
    obtain ⟨k, ls, lo, hk, rfl, HB, HM, HL⟩ := hrel
    by_cases hlt : k < xs.length
    · obtain ⟨g, rfl, hg, hgl, c0⟩ := strs_cell HOU.out hlt
      have hgm := HGM.out g rfl
      have c1 : wr.cell? ⟨g, k, none⟩ = some (.string xs[k]) := (World.cell?_of_block (a := ⟨g, k, none⟩) (HB.out.block g hgl (by omega) (by omega))).trans c0
      have hsn : xs.take (k + 1) = xs.take k ++ [xs[k]] := List.take_succ_eq_append_getElem hlt
      have hnew := HL.out.new (take_new HND.out hlt)
      obtain ⟨x, hx⟩ : ∃ x, xs[k] = x := ⟨_, rfl⟩
      have hxm := HNM.out xs[k] (List.getElem_mem hlt)
      rw [hx] at c1 hsn hnew hxm
      have HSN := Lib.hid hsn
      have HNW := Lib.hid hnew
      have HXM := Lib.hid hxm
      have HBB := Lib.hid (HB.out.below HBU.out (by have := HML.out; omega) (by have := HML.out; omega) (by have := HML.out; omega))
      clear c0 hg hgl hgm hsn hnew hx hxm
      go_upto_region 6 with fail
      clear c1
      obtain ⟨z, zf⟩ := blk_all (HB.out.get HKU.out.1 (by have := HML.out; omega) (by have := HML.out; omega))
      go_wp2_with fail
      refine (FindM_calls [ms, ms + 1] _ s.nodes x _ (S1.out.mono (vw_grow HBB.out HGR.out))).mono ?_
      rintro e w2 ⟨cs, rfl, hk2, hb⟩
      obtain ⟨D1, g1, D2, g2, D3, g3, rfl, -, -, -, hd3⟩ := hk2
      obtain ⟨nd, hnd⟩ : ∃ nd, (findV s.nodes x).1 = nd := ⟨_, rfl⟩
      obtain ⟨fk, hfk⟩ : ∃ fk, (findV s.nodes x).2 = fk := ⟨_, rfl⟩
      have HSF : Hid (softN s p x = softV p.tols nd.taints) := by show _ = _; unfold softN; rw [hnd]
      rw [hnd] at hd3
      rw [hnd, hfk]
      have HB2 := Lib.hid (HB.out.trans (Keep2.of_below hb))
      have HM2 : Hid (MapAt w2 ms ls ∧ MapAt w2 (ms + 1) lo) := ⟨HM.out.1.keep (hb.block _ (blk_lt HM.out.1.1)), HM.out.2.keep (hb.block _ (blk_lt HM.out.2.1))⟩
      have HD3 := Lib.hid hd3
      clear z zf hb hd3 hnd hfk HB HM HBB
      have hbv := alloc_below w2 (.cells #[.string nd.name, .slice D1 nd.cap.length g1, .slice D2 nd.labels.length g2, .slice D3 nd.taints.length g3, .bool nd.cordon] 94)
      have hyv := blk_last w2 (.cells #[.string nd.name, .slice D1 nd.cap.length g1, .slice D2 nd.labels.length g2, .slice D3 nd.taints.length g3, .bool nd.cordon] 94)
      have hvs : (w2.alloc (.cells #[.string nd.name, .slice D1 nd.cap.length g1, .slice D2 nd.labels.length g2, .slice D3 nd.taints.length g3, .bool nd.cordon] 94)).heap.size = w2.heap.size + 1 := by simp
      go_upto_region 7 with fail
      generalize w2.alloc (.cells #[.string nd.name, .slice D1 nd.cap.length g1, .slice D2 nd.labels.length g2, .slice D3 nd.taints.length g3, .bool nd.cordon] 94) = V at hbv hyv hvs ⊢
      have HB3 := Lib.hid (HB2.out.trans (Keep2.of_below hbv))
      have HM3 : Hid (MapAt V ms ls ∧ MapAt V (ms + 1) lo) := ⟨HM2.out.1.keep (hbv.block _ (blk_lt HM2.out.1.1)), HM2.out.2.keep (hbv.block _ (blk_lt HM2.out.2.1))⟩
      have HD4 := Lib.hid (HD3.out.mono (vw_below hbv))
      have HYV := Lib.hid hyv
      have hw2 := HB2.out.size
      have HS : Hid (∀ W' : World, Keep2 V W' ms (ms + 1) → (∀ j, W'.cell? ⟨w.heap.size, j, none⟩ = #[.slice A1 s.nodes.length c1, .slice A2 s.pods.length c2, .slice A3 s.budgets.length c3][j]?) ∧ (∀ j, W'.cell? ⟨w.heap.size + 1, j, none⟩ = #[.string p.name, .string p.owner, .int .i64 p.prio, .slice P1 p.need.length p1, .slice P2 p.labels.length p2, .slice P3 p.sel.length p3, .slice P4 p.tols.length p4, .string p.key, .int .i64 p.most, .string p.node, .bool p.hold][j]?) ∧ (∀ j, W'.cell? ⟨ms + 1 + 1, j, none⟩ = #[.map (some ms)][j]?) ∧ (∀ j, W'.cell? ⟨ms + 1 + 1 + 1, j, none⟩ = #[.map (some (ms + 1))][j]?) ∧ ∀ j, W'.cell? ⟨w2.heap.size, j, none⟩ = #[.string nd.name, .slice D1 nd.cap.length g1, .slice D2 nd.labels.length g2, .slice D3 nd.taints.length g3, .bool nd.cordon][j]?) := fun W' hW' => by
        have hml := HML.out
        have hKW := HB3.out.trans hW'
        exact ⟨(blk_all (hKW.get HKU.out.1 (by omega) (by omega))).1, (blk_all (hKW.get HKU.out.2.1 (by omega) (by omega))).1, (blk_all (hKW.get HKU.out.2.2.1 (by omega) (by omega))).1, (blk_all (hKW.get HKU.out.2.2.2 (by omega) (by omega))).1, (blk_all (hW'.get HYV.out (by omega) (by omega))).1⟩
      have HBV : Hid (∀ W' : World, Keep2 V W' ms (ms + 1) → Below w.heap.size w W') := fun W' hW' => (HB3.out.trans hW').below HBU.out (by have := HML.out; omega) (by have := HML.out; omega) (by have := HML.out; omega)
      have HTV : Hid (∀ W' : World, Keep2 V W' ms (ms + 1) → Kd.tnt.S (vw W' []) (.slice D3 nd.taints.length g3) nd.taints) := fun W' hW' => (HD4.out.mono hW'.view).mono (vw_sub (by simp))
      have HW : Hid (Keep2 V V.drew ms (ms + 1)) := Keep2.of_below (drew_below _)
      have HMW : Hid (MapAt V.drew ms ls ∧ MapAt V.drew (ms + 1) lo) := ⟨HM3.out.1.keep rfl, HM3.out.2.keep rfl⟩
      clear hbv hyv hvs HB2 HM2 HD3 HD4 HYV
      go_region_held3 (fun W' => (∀ j, W'.cell? ⟨w.heap.size, j, none⟩ = #[.slice A1 s.nodes.length c1, .slice A2 s.pods.length c2, .slice A3 s.budgets.length c3][j]?) ∧ (∀ j, W'.cell? ⟨w.heap.size + 1, j, none⟩ = #[.string p.name, .string p.owner, .int .i64 p.prio, .slice P1 p.need.length p1, .slice P2 p.labels.length p2, .slice P3 p.sel.length p3, .slice P4 p.tols.length p4, .string p.key, .int .i64 p.most, .string p.node, .bool p.hold][j]?) ∧ (∀ j, W'.cell? ⟨ms + 1 + 1, j, none⟩ = #[.map (some ms)][j]?) ∧ (∀ j, W'.cell? ⟨ms + 1 + 1 + 1, j, none⟩ = #[.map (some (ms + 1))][j]?) ∧ ∀ j, W'.cell? ⟨w2.heap.size, j, none⟩ = #[.string nd.name, .slice D1 nd.cap.length g1, .slice D2 nd.labels.length g2, .slice D3 nd.taints.length g3, .bool nd.cordon][j]?)
        (first | with_reducible exact HS.out _ HW.out | with_reducible exact HS.out _ HW13.out | with_reducible exact HS.out _ HW15.out | with_reducible exact HS.out _ HW16.out | go_keep)
        (first
        | (go_at_call 63; (with_reducible refine (Soft_calls (.slice P4 p.tols.length p4) (.slice D3 nd.taints.length g3) p.tols nd.taints _ (N4.out.mono (vw_below (HBV.out _ HW.out))) (HTV.out _ HW.out)).mono ?_); rintro e w3 ⟨rfl, hb⟩; replace HW := Lib.hid (HW.out.trans (Keep2.of_below hb)); replace HMW := Lib.hid (And.intro (HMW.out.1.keep (hb.block _ (blk_lt HMW.out.1.1))) (HMW.out.2.keep (hb.block _ (blk_lt HMW.out.2.1)))); clear hb)
        | (go_at_call 58; (with_reducible refine (ScoOf_calls (.agg #[.slice A1 s.nodes.length c1, .slice A2 s.pods.length c2, .slice A3 s.budgets.length c3]) (.agg #[.string p.name, .string p.owner, .int .i64 p.prio, .slice P1 p.need.length p1, .slice P2 p.labels.length p2, .slice P3 p.sel.length p3, .slice P4 p.tols.length p4, .string p.key, .int .i64 p.most, .string p.node, .bool p.hold]) s p x _ (V_below HVS.out (HBV.out _ HW.out)) (V_below HVP.out (HBV.out _ HW.out)) HXM.out hl HUP.out (HC8.out x)).mono ?_); rintro e w3 ⟨r, rfl, hr1, hr2, hb⟩; replace HW := Lib.hid (HW.out.trans (Keep2.of_below hb)); replace HMW := Lib.hid (And.intro (HMW.out.1.keep (hb.block _ (blk_lt HMW.out.1.1))) (HMW.out.2.keep (hb.block _ (blk_lt HMW.out.2.1)))); obtain ⟨v1, a1, b1, d1⟩ := map_entry Tryz.underlying203 Tryz.underlying9 HMW.out.1 (sok_max HXM.out) HNW.out.1 (zero_int _); obtain ⟨v2, a2, b2, d2⟩ := map_set (P := Tryz.prog) 203 b1 (.int .i64 (softV p.tols nd.taints)); obtain ⟨v3, a3, b3, d3⟩ := map_put Tryz.underlying204 Tryz.underlying9 ((HMW.out.2.keep (d1.block _ (blk_lt HMW.out.2.1) (ne_some ms))).keep (d2.block _ (Nat.lt_of_lt_of_le (blk_lt HMW.out.2.1) d1.size) (ne_some ms))) (sok_max HXM.out) HNW.out.2 (.float .f64 r); have HW13 := Lib.hid (HW.out.trans (Keep2.of_grown d1)); have HW15 := Lib.hid (HW13.out.trans (Keep2.of_grown d2)); have HW16 := Lib.hid (HW15.out.trans (Keep2.of_grown2 d3)); have HEND := Lib.hid (And.intro (b2.keep (d3.block _ (blk_lt b2.1) (ne_some2 ms))) (And.intro b3 (And.intro hr1 hr2))); clear hb b1 b2 b3 d1 d2 d3 hr1 hr2))
      have HB9 := Lib.hid (HB3.out.trans HW16.out)
      have HL2 : Hid (OrdL s p (xs.take (k + 1)) (ls ++ [(x, .int .i64 (softV p.tols nd.taints))]) (lo ++ [(x, .float .f64 r)])) := by
        show OrdL _ _ _ _ _
        rw [HSN.out, ← HSF.out]
        exact HL.out.snoc HEND.out.2.2.1 HEND.out.2.2.2
      have HE := Lib.hid (And.intro HEND.out.1 HEND.out.2.1)
      clear a1 a2 a3
      go_wp2
      go_roundw
      case rel => exact ⟨k + 1, _, _, by omega, by go_num, HB9.out, HE.out, HL2.out⟩
      case measure => simp [intOf]; omega
    · obtain rfl : k = xs.length := by omega
      have hl2 := HL.out
      rw [List.take_length] at hl2
      have HL2 := Lib.hid hl2
      have HBB := Lib.hid (HB.out.below HBU.out (by have := HML.out; omega) (by have := HML.out; omega) (by have := HML.out; omega))
      have HOW := Lib.hid (own_keep2 HOU.out HB.out (fun g hg => by have := HGM.out g hg; omega))
      have hwr := HB.out.size
      clear hl2 HL
      cases pack with
      | false =>
        have hbv := alloc_below wr (.cells #[.int .i64 (sgF false 1)] 3)
        have hyv := blk_last wr (.cells #[.int .i64 (sgF false 1)] 3)
        go_upto_region 12 with fail
        rw [show wr.alloc (.cells #[.int .i64 1] 3) = wr.alloc (.cells #[.int .i64 (sgF false 1)] 3) from rfl]
        generalize wr.alloc (.cells #[.int .i64 (sgF false 1)] 3) = V at hbv hyv ⊢
        have HYV := Lib.hid hyv
        have HBV := Lib.hid hbv
        have HOV := Lib.hid (own_below HOW.out hbv)
        have HFC : Hid (V.heap[ms + 1 + 1]? = some (.cells #[.map (some ms)] 203 (0, 0)) ∧ V.heap[ms + 1 + 1 + 1]? = some (.cells #[.map (some (ms + 1))] 204 (0, 0)) ∧ MapAt V ms ls ∧ MapAt V (ms + 1) lo) :=
          ⟨(hbv.block _ (by have := HML.out; omega)).trans (HB.out.get HKU.out.2.2.1 (by omega) (by omega)), (hbv.block _ (by have := HML.out; omega)).trans (HB.out.get HKU.out.2.2.2 (by omega) (by omega)), HM.out.1.keep (hbv.block _ (blk_lt HM.out.1.1)), HM.out.2.keep (hbv.block _ (blk_lt HM.out.2.1))⟩
        clear hbv hyv HM HOW
        go_wp2_with fail
        refine (sortNodes_calls (cmpOf (scoP s p) s p false) (cmpOf_swo _ s p false) #[.pointer (some ⟨ms + 1 + 1, 0, none⟩), .pointer (some ⟨wr.heap.size, 0, none⟩), .pointer (some ⟨ms + 1 + 1 + 1, 0, none⟩)] HOV.out (by omega) HNM.out ?_).mono ?_
        · intro W2 h1 h2 x hx y hy
          obtain ⟨x1, fx, x2, x3, x4⟩ := HL2.out.at_ hx
          obtain ⟨y1, fy, y2, y3, y4⟩ := HL2.out.at_ hy
          have hgm := HGM.out
          have hml := HML.out
          have hne : ∀ k, ms ≤ k → (Value.slice G xs.length gc).ownBlock ≠ some k := fun k hk e => by have := hgm k e; omega
          refine (Order1_calls (ms + 1 + 1) wr.heap.size (ms + 1 + 1 + 1) ms (ms + 1) x y _ _ fx fy x3 y3 false ls lo W2 ((h1 _ (blk_lt HFC.out.1) (hne _ (by omega))).trans HFC.out.1) ((h1 _ (blk_lt HYV.out) (hne _ (by omega))).trans HYV.out) ((h1 _ (blk_lt HFC.out.2.1) (hne _ (by omega))).trans HFC.out.2.1)
            (HFC.out.2.2.1.keep (h1 _ (blk_lt HFC.out.2.2.1.1) (hne _ (by omega)))) (HFC.out.2.2.2.keep (h1 _ (blk_lt HFC.out.2.2.2.1) (hne _ (by omega)))) (by rw [HL2.out.1]; exact HND.out) (by rw [HL2.out.2.1]; exact HND.out) x1 y1 x2 y2).mono ?_
          rintro e w9 ⟨rfl, h9⟩
          refine ⟨?_, h9⟩
          rw [x4, y4]; rfl
        rintro e w4 ⟨rfl, ys, hso, hv, hb⟩
        have HSO := Lib.hid hso
        have HS4 := Lib.hid (hv.mono (nx_lo HBW.out.size))
        have HB4 := Lib.hid (HBB.out.trans ((HBV.out.mono HBB.out.size).trans (hb.mono HBW.out.size)))
        clear hso hv hb
        go_wp2
        go_ret
        exact ⟨_, ys, rfl, HSO.out, HS4.out, HB4.out⟩
      | true =>
        have hbv := alloc_below wr (.cells #[.int .i64 (sgF true 1)] 3)
        have hyv := blk_last wr (.cells #[.int .i64 (sgF true 1)] 3)
        go_upto_region 12 with fail
        rw [show wr.alloc (.cells #[.int .i64 (-1)] 3) = wr.alloc (.cells #[.int .i64 (sgF true 1)] 3) from rfl]
        generalize wr.alloc (.cells #[.int .i64 (sgF true 1)] 3) = V at hbv hyv ⊢
        have HYV := Lib.hid hyv
        have HBV := Lib.hid hbv
        have HOV := Lib.hid (own_below HOW.out hbv)
        have HFC : Hid (V.heap[ms + 1 + 1]? = some (.cells #[.map (some ms)] 203 (0, 0)) ∧ V.heap[ms + 1 + 1 + 1]? = some (.cells #[.map (some (ms + 1))] 204 (0, 0)) ∧ MapAt V ms ls ∧ MapAt V (ms + 1) lo) :=
          ⟨(hbv.block _ (by have := HML.out; omega)).trans (HB.out.get HKU.out.2.2.1 (by omega) (by omega)), (hbv.block _ (by have := HML.out; omega)).trans (HB.out.get HKU.out.2.2.2 (by omega) (by omega)), HM.out.1.keep (hbv.block _ (blk_lt HM.out.1.1)), HM.out.2.keep (hbv.block _ (blk_lt HM.out.2.1))⟩
        clear hbv hyv HM HOW
        go_wp2_with fail
        refine (sortNodes_calls (cmpOf (scoP s p) s p true) (cmpOf_swo _ s p true) #[.pointer (some ⟨ms + 1 + 1, 0, none⟩), .pointer (some ⟨wr.heap.size, 0, none⟩), .pointer (some ⟨ms + 1 + 1 + 1, 0, none⟩)] HOV.out (by omega) HNM.out ?_).mono ?_
        · intro W2 h1 h2 x hx y hy
          obtain ⟨x1, fx, x2, x3, x4⟩ := HL2.out.at_ hx
          obtain ⟨y1, fy, y2, y3, y4⟩ := HL2.out.at_ hy
          have hgm := HGM.out
          have hml := HML.out
          have hne : ∀ k, ms ≤ k → (Value.slice G xs.length gc).ownBlock ≠ some k := fun k hk e => by have := hgm k e; omega
          refine (Order1_calls (ms + 1 + 1) wr.heap.size (ms + 1 + 1 + 1) ms (ms + 1) x y _ _ fx fy x3 y3 true ls lo W2 ((h1 _ (blk_lt HFC.out.1) (hne _ (by omega))).trans HFC.out.1) ((h1 _ (blk_lt HYV.out) (hne _ (by omega))).trans HYV.out) ((h1 _ (blk_lt HFC.out.2.1) (hne _ (by omega))).trans HFC.out.2.1)
            (HFC.out.2.2.1.keep (h1 _ (blk_lt HFC.out.2.2.1.1) (hne _ (by omega)))) (HFC.out.2.2.2.keep (h1 _ (blk_lt HFC.out.2.2.2.1) (hne _ (by omega)))) (by rw [HL2.out.1]; exact HND.out) (by rw [HL2.out.2.1]; exact HND.out) x1 y1 x2 y2).mono ?_
          rintro e w9 ⟨rfl, h9⟩
          refine ⟨?_, h9⟩
          rw [x4, y4]; rfl
        rintro e w4 ⟨rfl, ys, hso, hv, hb⟩
        have HSO := Lib.hid hso
        have HS4 := Lib.hid (hv.mono (nx_lo HBW.out.size))
        have HB4 := Lib.hid (HBB.out.trans ((HBV.out.mono HBB.out.size).trans (hb.mono HBW.out.size)))
        clear hso hv hb
        go_wp2
        go_ret
        exact ⟨_, ys, rfl, HSO.out, HS4.out, HB4.out⟩
end Go.Proofs.YtnmhicgbdalniaaGreatDoor

import Derived.Test.YtnmhicgbdalniaaGreatDoorMi29
import Derived.Shelf.Spec.SlicesInsertGrow
namespace Go.Proofs.YtnmhicgbdalniaaGreatDoor
open Go.RowKit Go.Sort Go.Lib

/-! slices.Insert of one pod. -/
def InsDone (base n : Nat) (xs' : List Value) (w : World) (e : Ending) (w' : World) : Prop := ∃ v', e = .returned v' ∧ w'.ownsRow base 35 11 v' (n + 1) xs' ∧ Below base w w'
theorem Blk.drew {w : World} {g n : Nat} {T : TypeId} (h : Blk w g T n) : Blk w.drew g T n := h
theorem below_drew {B : Nat} {a w : World} (h : Below B a w) : Below B a w.drew := h.trans ⟨rfl, rfl, rfl, Nat.le_refl _, fun _ _ => rfl⟩
theorem ins_done {base n G a m N : Nat} {xs cx : List Value} {w U : World} (hb : Below base w U) (hk : Blk U N 35 (G * 11)) (hN : base ≤ N) (h1 : n + 1 ≤ G) (h2 : G ≤ maxLen) (hx : xs.length = n * 11) (hcx : cx.length = 11) (ha : a ≤ xs.length) (hm : m = a + cx.length)
    (hc : ∀ j u, (xs.take a)[j]? = some u → U.cell? ⟨N, j, none⟩ = some u) :
    InsDone base n (xs.take a ++ cx ++ xs.drop a) w (.returned (.slice (some ⟨N, 0, none⟩) (n + 1) G)) ((U.setCells N m (xs.drop a)).setCells N a cx) ∧
    InsDone base n (xs.take a ++ cx ++ xs.drop a) w (.returned (.slice (some ⟨N, 0, none⟩) (n + 1) G)) ((U.setCells N a cx).setCells N m (xs.drop a)) := by
  have hG : (n + 1) * 11 ≤ G * 11 := Nat.mul_le_mul_right 11 h1
  obtain ⟨c1, c2⟩ := ins_cells hk ha (by rw [hx, hcx]; omega) hc hm
  have hl : (xs.take a ++ cx ++ xs.drop a).length = (n + 1) * 11 := by
    rw [List.length_append, List.length_append, List.length_take, List.length_drop, hcx]; omega
  exact ⟨⟨_, rfl, Blk.ownF (Blk.setCells N _ _ (Blk.setCells N _ _ hk)) hl c1 hN h1 h2, Below.setCells (Below.setCells hb hN _ _) hN _ _⟩,
    ⟨_, rfl, Blk.ownF (Blk.setCells N _ _ (Blk.setCells N _ _ hk)) hl c2 hN h1 h2, Below.setCells (Below.setCells hb hN _ _) hN _ _⟩⟩
theorem pod_size : (Tryz.prog.info? 35).map (·.size) = some 11 := by kernel_rfl
theorem overlaps_no (w : World) (vb g o lb cb : Nat) (T : TypeId) (cx : List Value) (G : Nat) (hvb : w.heap[vb]? = some (.cells cx.toArray T (0, 0))) (hne : vb ≠ g) (hg : Blk w g 35 G) (hG : G ≠ 0) :
    (callFunc 202 #[.slice (some ⟨vb, 0, none⟩) 1 1, .slice (some ⟨g, o, none⟩) lb cb]).run Tryz.prog w = .ok (.value (.bool false)) w := by
  obtain ⟨cur, k1, k2⟩ := hg
  rw [run_callFunc_extern Tryz.func202 (by kernel_rfl) (by kernel_rfl) (by kernel_rfl) (e := Extern.SlicesOverlaps.overlaps #[23, 23] #[4]) (by kernel_rfl),
    Lib.run_overlaps_apart w 23 4 35 Tryz.underlying23 11 Tryz.sizeOf35 ⟨vb, 0, none⟩ ⟨g, o, none⟩ 1 1 lb cb hne T 35 cx.toArray.size cur.size (by simp [World.shape?, hvb]) (by simp [World.shape?, k1]) (by omega) (by simp [World.frozen?, hvb]) (by simp [World.frozen?, hvb])]
  rfl
set_option maxHeartbeats 4000000 in
set_option maxRecDepth 100000 in
theorem Insert_shift (base g n c i vb : Nat) (T : TypeId) (xs cx : List Value) (w : World) (hown : w.ownsRow base 35 11 (.slice (some ⟨g, 0, none⟩) n c) n xs) (hi : i < n) (hroom : n + 1 ≤ c) (hcx : cx.length = 11) (h1 : ∀ u ∈ xs, u.oneCell' = true) (h1x : ∀ u ∈ cx, u.oneCell' = true)
    (hvb : w.heap[vb]? = some (.cells cx.toArray T (0, 0))) (hne : vb ≠ g) :
    Calls Tryz.prog 121 #[.slice (some ⟨g, 0, none⟩) n c, .int .i64 i, .slice (some ⟨vb, 0, none⟩) 1 1] w (InsDone base n (xs.take (i * 11) ++ cx ++ xs.drop (i * 11)) w) := by
  obtain ⟨hblk, hbg, hnc, hcm, hxl, hxc⟩ := own_flat hown
  have hcm' := hcm
  unfold maxLen at hcm'
  have hin11 : i * 11 + 11 ≤ n * 11 := by have := Nat.mul_le_mul_right 11 (show i + 1 ≤ n by omega); omega
  have hnc11 : (n + 1) * 11 ≤ c * 11 := Nat.mul_le_mul_right 11 hroom
  have hgl : g < w.heap.size := by obtain ⟨_, k, _⟩ := hblk; exact blk_lt k
  have hov : ∀ lb cb, (callFunc 202 #[.slice (some ⟨vb, 0, none⟩) 1 1, .slice (some ⟨g, (i + 1) * 11, none⟩) lb cb]).run Tryz.prog w = .ok (.value (.bool false)) w := fun lb cb => overlaps_no w vb g _ lb cb T cx _ hvb hne hblk (by omega)
  have hz2 : ¬ ((i : Int) = (n : Int)) := by omega
  have hdl : (xs.drop (i * 11)).length = (n - i) * 11 := by rw [List.length_drop, hxl, Nat.sub_mul]
  have hw1 : IntKind.i64.wrap ((i : Int) + 1) = (i : Int) + 1 := by rw [IntKind.wrap_i64]; omega
  have hb1 : (0 : Int) ≤ (i : Int) + 1 := by omega
  have htn : ((i : Int) + 1).toNat = i + 1 := by omega
  have hb2 : ¬ (c = i + 1) := by omega
  have hb3 : (i : Int) ≤ (n : Int) + 1 := by omega
  have hb4 : ¬ (c = i) := by omega
  have hb5 : ¬ ((c : Int) < (n : Int) + 1) := by omega
  have hin : i ≤ n := by omega
  have hb6 : (i : Int) + 1 ≤ (n : Int) + 1 := by omega
  have mixed : Tryz.prog.follows .mixedOrders = true := by kernel_rfl
  have hcp1 : ∀ ty dc sc, (Builtin.copy_ #[23, 23] ty #[.slice (some ⟨g, (i + 1) * 11, none⟩) (n - i) dc, .slice (some ⟨g, i * 11, none⟩) (n + 1 - i) sc]).run Tryz.prog w.drew = .ok (goInt (Nat.min (n + 1 - i) (n - i))) (w.drew.setCells g ((i + 1) * 11) (xs.drop (i * 11))) := fun ty dc sc =>
    run_copy_wide w.drew _ _ ty 35 11 g ((i + 1) * 11) (n - i) dc ⟨g, i * 11, none⟩ (n + 1 - i) sc (xs.drop (i * 11)) Tryz.underlying23 pod_size (by rw [hdl]; congr 1; simp only [Nat.min_def]; split <;> omega)
      (fun j v hj => by rw [Kd.addr_add]; exact hxc (i * 11 + j) v (by rwa [List.getElem?_drop] at hj))
      (fun j hj => hblk.some (by rw [hdl] at hj; omega)) (fun j hj => hblk.free _) (fun v hv => h1 v (List.mem_of_mem_drop hv))
  obtain ⟨W1, hW1⟩ : ∃ W1, W1 = w.drew.setCells g ((i + 1) * 11) (xs.drop (i * 11)) := ⟨_, rfl⟩
  have hbk1 : Blk W1 g 35 (c * 11) := by rw [hW1]; exact Blk.setCells g _ _ hblk
  have hvb1 : W1.heap[vb]? = some (.cells cx.toArray T (0, 0)) := by rw [hW1]; exact (setCells_far g _ _ _ vb hne).trans hvb
  have hcp2 : ∀ ty dc, (Builtin.copy_ #[23, 23] ty #[.slice (some ⟨g, i * 11, none⟩) (n + 1 - i) dc, .slice (some ⟨vb, 0, none⟩) 1 1]).run Tryz.prog W1 = .ok (goInt (Nat.min 1 (n + 1 - i))) (W1.setCells g (i * 11) cx) := fun ty dc =>
    run_copy_wide W1 _ _ ty 35 11 g (i * 11) (n + 1 - i) dc ⟨vb, 0, none⟩ 1 1 cx Tryz.underlying23 pod_size (by rw [hcx]; simp only [Nat.min_def]; split <;> omega)
      (fun j v hj => by have := World.news_of_block hvb1 j v; exact this (by simpa using hj))
      (fun j hj => hbk1.some (by omega)) (fun j hj => hbk1.free _) h1x
  rw [← hW1] at hcp1
  have HFIN : Hid (InsDone base n (xs.take (i * 11) ++ cx ++ xs.drop (i * 11)) w (.returned (.slice (some ⟨g, 0, none⟩) (n + 1) c)) (W1.setCells g (i * 11) cx)) := by
    rw [hW1]
    exact (ins_done (U := w.drew) (below_drew (Below.refl base w)) hblk.drew hbg hroom hcm hxl hcx (by omega) (by rw [hcx]; omega) (fun j u hj => by
      rw [List.getElem?_take] at hj
      split at hj
      · exact hxc j u hj
      · cases hj)).1
  obtain ⟨xs', hxs⟩ : ∃ xs', xs.take (i * 11) ++ cx ++ xs.drop (i * 11) = xs' := ⟨_, rfl⟩
  rw [hxs] at HFIN ⊢
  clear hW1 hbk1 hvb1 hxs
  go_enter Tryz.func121, Tryz.ntmps121
  go_wp2_with (simp only [hov])
  go_region_law_o (refine step_copy_runI rfl _ _ 23 23 rfl _ _ (by simp [Act.eval, Act.put]) (by simp [Act.eval, Act.put]) (hcp1 _ _ _) ?_)
  go_wp2_with (at_builtin; refine wpList_copy_runI _ rfl _ _ 23 23 rfl _ _ rfl rfl (hcp2 _ _) ?_)
  go_ret
  exact HFIN.out
set_option maxHeartbeats 4000000 in
set_option maxRecDepth 100000 in
theorem Insert_end (base n c vb : Nat) (A : Option Addr) (T : TypeId) (xs cx : List Value) (w : World) (hown : w.ownsRow base 35 11 (.slice A n c) n xs) (hcx : cx.length = 11) (h1x : ∀ u ∈ cx, u.oneCell' = true)
    (hvb : w.heap[vb]? = some (.cells cx.toArray T (0, 0))) (hb : base ≤ w.heap.size) (hn : n ≤ 1000) :
    Calls Tryz.prog 121 #[.slice A n c, .int .i64 n, .slice (some ⟨vb, 0, none⟩) 1 1] w (InsDone base n (xs ++ cx) w) := by
  obtain ⟨i0, hi, hz0, hz1, hz2⟩ := info_parts info_pod
  have mixed : Tryz.prog.follows .mixedOrders = true := by kernel_rfl
  have HOWN := Lib.hid hown
  have HNEWS : Hid (∀ ad, (some ⟨vb, 0, none⟩ : Option Addr) = some ad → ∀ j u, cx[j]? = some u → w.cell? (ad.add j) = some u) := fun ad had j u hu => by
    cases had
    have := World.news_of_block hvb j u
    exact this (by simpa using hu)
  have HONE := Lib.hid h1x
  have HCX := Lib.hid hcx
  clear hvb h1x hcx
  have key : ∀ v' w', w'.ownsRow base 35 11 v' (n + 1) (xs ++ cx) → w.grownBy w' (Value.slice A n c).ownBlock → InsDone base n (xs ++ cx) w (.returned v') w' := fun v' w' h2 h3 =>
    ⟨v', rfl, h2, (Below.refl base w).grown h3 hb (fun q hq => (HOWN.out.lt q hq).1)⟩
  have HKEY := Lib.hid key
  clear key
  rcases hown.2 with ⟨e1, e2⟩ | ⟨g, cap, cur, e1, -, -, hnc, hcm, -, -⟩
  · subst e2
    cases e1
    clear hown
    go_enter Tryz.func121, Tryz.ntmps121
    go_wp2_with (at_builtin; refine wpList_app _ base 23 35 i0 _ 11 184 Tryz.underlying23 hi hz0 hz1 hz2 rfl (by decide) _ _ xs HOWN.out (some ⟨vb, 0, none⟩) 1 1 cx (by rw [HCX.out]) (fun e => by cases e) HNEWS.out HONE.out (by simp only [maxLen]; omega) (by omega) hb _ _ rfl rfl rfl rfl ?_)
    intro v' w' h2 h3 _
    have HF := Lib.hid (HKEY.out v' w' h2 h3)
    clear h2 h3
    go_wp2
    go_ret
    exact HF.out
  · cases e1
    clear hown
    unfold maxLen at hcm
    by_cases hcn : c = n
    · subst hcn
      go_enter Tryz.func121, Tryz.ntmps121
      go_wp2_with (at_builtin; refine wpList_app _ base 23 35 i0 _ 11 184 Tryz.underlying23 hi hz0 hz1 hz2 rfl (by decide) _ _ xs HOWN.out (some ⟨vb, 0, none⟩) 1 1 cx (by rw [HCX.out]) (fun e => by cases e) HNEWS.out HONE.out (by simp only [maxLen]; omega) (by omega) hb _ _ rfl rfl rfl rfl ?_)
      intro v' w' h2 h3 _
      have HF := Lib.hid (HKEY.out v' w' h2 h3)
      clear h2 h3
      go_wp2
      go_ret
      exact HF.out
    · go_enter Tryz.func121, Tryz.ntmps121
      go_wp2_with (at_builtin; refine wpList_app _ base 23 35 i0 _ 11 184 Tryz.underlying23 hi hz0 hz1 hz2 rfl (by decide) _ _ xs HOWN.out (some ⟨vb, 0, none⟩) 1 1 cx (by rw [HCX.out]) (fun e => by cases e) HNEWS.out HONE.out (by simp only [maxLen]; omega) (by omega) hb _ _ rfl rfl rfl rfl ?_)
      intro v' w' h2 h3 _
      have HF := Lib.hid (HKEY.out v' w' h2 h3)
      clear h2 h3
      go_wp2
      go_ret
      exact HF.out
set_option maxHeartbeats 4000000 in
set_option maxRecDepth 100000 in
theorem Insert_grow (base g n c i vb : Nat) (T : TypeId) (xs cx : List Value) (w : World) (hown : w.ownsRow base 35 11 (.slice (some ⟨g, 0, none⟩) n c) n xs) (hi : i < n) (hroom : c < n + 1) (hcx : cx.length = 11) (h1 : ∀ u ∈ xs, u.oneCell' = true) (h1x : ∀ u ∈ cx, u.oneCell' = true)
    (hvb : w.heap[vb]? = some (.cells cx.toArray T (0, 0))) (hb : base ≤ w.heap.size) (hn : n ≤ 1000) :
    Calls Tryz.prog 121 #[.slice (some ⟨g, 0, none⟩) n c, .int .i64 i, .slice (some ⟨vb, 0, none⟩) 1 1] w (InsDone base n (xs.take (i * 11) ++ cx ++ xs.drop (i * 11)) w) := by
  obtain ⟨i0, hi0, hz0, hzs, hzb⟩ := info_parts info_pod
  obtain ⟨hblk, hbg, hnc, hcm, hxl, hxc⟩ := own_flat hown
  obtain rfl : c = n := by omega
  have hin11 : i * 11 + 11 ≤ c * 11 := by have := Nat.mul_le_mul_right 11 (show i + 1 ≤ c by omega); omega
  have hgl : g < w.heap.size := by obtain ⟨_, k, _⟩ := hblk; exact blk_lt k
  have hvw := blk_lt hvb
  have mixed : Tryz.prog.follows .mixedOrders = true := by kernel_rfl
  have hz2 : ¬ ((i : Int) = (c : Int)) := by omega
  have hz3 : (c : Int) < (c : Int) + 1 := by omega
  have hkk : (c : Int) + 1 - (i : Int) = ((c + 1 - i : Nat) : Int) := by omega
  have hik : i + (c + 1 - i) = c + 1 := by omega
  have hold : (Builtin.firstCells i0.size i (.slice (some ⟨g, 0, none⟩) i c)).run Tryz.prog w.drew = .ok (xs.take (i * 11)).toArray w.drew := by
    rw [hzs]
    exact run_firstCells_some w.drew 11 i ⟨g, 0, none⟩ i c (xs.take (i * 11)) (by rw [List.length_take]; omega) (fun j v hj => by
      rw [Kd.addr_add, Nat.zero_add]
      rw [List.getElem?_take] at hj
      split at hj
      · exact hxc j v hj
      · cases hj)
  obtain ⟨zc, hzc⟩ : ∃ zc : Array Value, (Value.agg #[.string ⟨#[]⟩, .string ⟨#[]⟩, .int .i64 0, .slice none 0 0, .slice none 0 0, .slice none 0 0, .slice none 0 0, .string ⟨#[]⟩, .int .i64 0, .string ⟨#[]⟩, .bool false]).cells = zc := ⟨_, rfl⟩
  have hzl : zc.size = 11 := by rw [← hzc]; rfl
  have hrz : ∀ ty, (Builtin.append_ #[23, 3] ty #[.slice (some ⟨g, 0, none⟩) i c, .int .i64 ((c : Int) + 1 - (i : Int))]).run Tryz.prog w =
      .ok (.slice (some ⟨w.heap.size, 0, none⟩) (c + 1) (grownCap w (c + 1) c 35)) (w.drew.alloc (.cells ((xs.take (i * 11)).toArray ++ Builtin.zeroCells zc (c + 1 - i) ++ Builtin.zeroCells zc (grownCap w (c + 1) c 35 - (c + 1))) 35)) := fun ty => by
    have h := Lib.run_append_grow_zeros w 23 3 ty 35 i0 _ .i64 .i64 Tryz.underlying23 Tryz.underlying3 hi0 hz0 (some ⟨g, 0, none⟩) i c (xs.take (i * 11)) hold (c + 1 - i) (by omega) (by omega) (by omega) (by omega) (by rw [hzb]; omega) (by rw [hzb, hik]; exact growslice_fits hroom (by omega))
    rw [hik, hzc] at h
    rw [hkk]
    exact h
  obtain ⟨G, hG⟩ : ∃ G, G = grownCap w (c + 1) c 35 := ⟨_, rfl⟩
  have hGn : c + 1 ≤ G := by rw [hG]; exact grownCap_ge w _ _ _
  have hGm : G ≤ maxLen := by rw [hG]; exact grownCap_le_maxLen w (c + 1) c 35 (by unfold maxLen; omega)
  have hGm' := hGm
  unfold maxLen at hGm'
  obtain ⟨ROW, hROW⟩ : ∃ ROW : Array Value, ROW = (xs.take (i * 11)).toArray ++ Builtin.zeroCells zc (c + 1 - i) ++ Builtin.zeroCells zc (G - (c + 1)) := ⟨_, rfl⟩
  rw [← hG] at hrz
  rw [← hROW] at hrz
  have hRl : ROW.size = G * 11 := by
    rw [hROW]
    simp only [Array.size_append, List.size_toArray, List.length_take, Builtin.zeroCells, Array.size_map, Array.size_range, hzl]
    have e1 : G * 11 = i * 11 + (c + 1 - i) * 11 + (G - (c + 1)) * 11 := by rw [← Nat.add_mul, ← Nat.add_mul]; congr 1; omega
    omega
  obtain ⟨U0, hU0⟩ : ∃ U0, U0 = (w.alloc (.cells ROW 35)).drew := ⟨_, rfl⟩
  have hU1 : w.drew.alloc (.cells ROW 35) = U0 := by rw [hU0]; rfl
  rw [hU1] at hrz
  have hbk : Blk U0 w.heap.size 35 (G * 11) := ⟨ROW, by rw [hU0]; exact blk_last _ _, hRl⟩
  have hUv : U0.heap[vb]? = some (.cells cx.toArray T (0, 0)) := by rw [hU0]; exact (blk_old w _ hvw).trans hvb
  have hUb : Below base w U0 := by rw [hU0]; exact below_drew ((Below.refl base w).alloc hb _)
  have hUx : ∀ j u, xs[j]? = some u → U0.cell? ⟨g, j, none⟩ = some u := fun j u hj => by rw [hU0]; exact Lib.cell?_alloc_some _ (hxc j u hj)
  have hUr : ∀ j u, (xs.take (i * 11))[j]? = some u → U0.cell? ⟨w.heap.size, j, none⟩ = some u := fun j u hj => by
    have hl := (List.getElem?_eq_some_iff.1 hj).1
    have h9 : U0.cell? ⟨w.heap.size, j, none⟩ = ROW[j]? := by rw [hU0]; exact cell_of_row _ _ _ _ _ _ (blk_last w _)
    rw [h9, hROW, Array.getElem?_append_left (by simp only [Array.size_append, List.size_toArray]; omega), Array.getElem?_append_left (by simpa using hl)]
    simpa using hj
  have hcpA : ∀ ty dc, (Builtin.copy_ #[23, 23] ty #[.slice (some ⟨w.heap.size, i * 11, none⟩) (c + 1 - i) dc, .slice (some ⟨vb, 0, none⟩) 1 1]).run Tryz.prog U0 = .ok (goInt (Nat.min 1 (c + 1 - i))) (U0.setCells w.heap.size (i * 11) cx) := fun ty dc =>
    run_copy_wide U0 _ _ ty 35 11 w.heap.size (i * 11) (c + 1 - i) dc ⟨vb, 0, none⟩ 1 1 cx Tryz.underlying23 pod_size (by rw [hcx]; simp only [Nat.min_def]; split <;> omega)
      (fun j v hj => by have := World.news_of_block hUv j v; exact this (by simpa using hj))
      (fun j hj => hbk.some (by omega)) (fun j hj => hbk.free _) h1x
  have hdl : (xs.drop (i * 11)).length = (c - i) * 11 := by rw [List.length_drop, hxl, Nat.sub_mul]
  obtain ⟨U1, hU2⟩ : ∃ U1, U1 = U0.setCells w.heap.size (i * 11) cx := ⟨_, rfl⟩
  have hbk1 : Blk U1 w.heap.size 35 (G * 11) := by rw [hU2]; exact Blk.setCells _ _ _ hbk
  have hU1x : ∀ j u, xs[j]? = some u → U1.cell? ⟨g, j, none⟩ = some u := fun j u hj => by
    rw [hU2, World.cell?_setCells_out _ _ _ _ _ (fun h _ => by simp only at h; omega)]
    exact hUx j u hj
  have hcpB : ∀ ty dc sc, (Builtin.copy_ #[23, 23] ty #[.slice (some ⟨w.heap.size, (i + 1) * 11, none⟩) (c - i) dc, .slice (some ⟨g, i * 11, none⟩) (c - i) sc]).run Tryz.prog U1.drew = .ok (goInt (Nat.min (c - i) (c - i))) (U1.drew.setCells w.heap.size ((i + 1) * 11) (xs.drop (i * 11))) := fun ty dc sc =>
    run_copy_wide U1.drew _ _ ty 35 11 w.heap.size ((i + 1) * 11) (c - i) dc ⟨g, i * 11, none⟩ (c - i) sc (xs.drop (i * 11)) Tryz.underlying23 pod_size (by rw [hdl]; congr 1; simp only [Nat.min_def]; split <;> omega)
      (fun j v hj => by rw [Kd.addr_add]; exact hU1x (i * 11 + j) v (by rwa [List.getElem?_drop] at hj))
      (fun j hj => hbk1.some (by rw [hdl] at hj; have := Nat.mul_le_mul_right 11 hGn; omega)) (fun j hj => hbk1.free _) (fun v hv => h1 v (List.mem_of_mem_drop hv))
  have HFIN : Hid (InsDone base c (xs.take (i * 11) ++ cx ++ xs.drop (i * 11)) w (.returned (.slice (some ⟨w.heap.size, 0, none⟩) (c + 1) G)) (U1.drew.setCells w.heap.size ((i + 1) * 11) (xs.drop (i * 11)))) := by
    rw [hU2, Go.Proofs.drew_setCells]
    exact (ins_done (U := U0.drew) (below_drew hUb) hbk.drew hb hGn hGm hxl hcx (by omega) (by rw [hcx]; omega) hUr).2
  rw [← hU2] at hcpA
  obtain ⟨xs', hxs⟩ : ∃ xs', xs.take (i * 11) ++ cx ++ xs.drop (i * 11) = xs' := ⟨_, rfl⟩
  rw [hxs] at HFIN ⊢
  have hw1 : IntKind.i64.wrap ((i : Int) + 1) = (i : Int) + 1 := by rw [IntKind.wrap_i64]; omega
  have hb1 : (0 : Int) ≤ (i : Int) + 1 := by omega
  have htn : ((i : Int) + 1).toNat = i + 1 := by omega
  have hin : i ≤ c := by omega
  have hGi : ¬ (G = i) := by omega
  have hGim : ¬ (G = i + 1) := by omega
  have hci : ¬ (c = i) := by omega
  have hb6 : (i : Int) + 1 ≤ (c : Int) + 1 := by omega
  clear hkk hik hold hROW hG hRl hxs hU2 hU1 hU0 hbk hbk1 hUv hUb hUx hUr hU1x hown hblk hxc hvb h1 h1x
  go_enter Tryz.func121, Tryz.ntmps121
  go_wp2_with (first
    | (at_builtin; refine Lib.wpList_append_run _ rfl _ _ _ _ rfl _ _ rfl rfl _ _ (hrz _) ?_)
    | (at_builtin; refine wpList_copy_runI _ rfl _ _ 23 23 rfl _ _ rfl rfl (hcpA _ _) ?_))
  go_region_law_o (refine step_copy_runI rfl _ _ 23 23 rfl _ _ (by simp [Act.eval, Act.put]) (by simp [Act.eval, Act.put]) (hcpB _ _ _) ?_)
  go_wp2
  go_ret
  exact HFIN.out
end Go.Proofs.YtnmhicgbdalniaaGreatDoor

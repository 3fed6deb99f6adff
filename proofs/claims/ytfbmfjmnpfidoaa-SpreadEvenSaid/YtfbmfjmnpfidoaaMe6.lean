import Derived.Test.YtfbmfjmnpfidoaaMe3
import Derived.Test.YtfbmfjmnpfidoaaMe4
import Derived.Test.YtfbmfjmnpfidoaaMe5
import Derived.Deep.Light
import Derived.Deep.DeepMust
import Derived.Deep.RegionLaw
namespace Go.Proofs.Ytfbmfjmnpfidoaa
open Go.RowKit Go.Sort

/-! Pods put one by one: the walk. -/
/-- The nodes are being made; the state lies in block sb. -/
structure EvA (w : World) (sb k : Nat) (v : Value) (W : World) : Prop where
  bel : Below w.heap.size w W
  lo : w.heap.size ≤ sb
  q : W.heap[sb]? = some (.cells #[v, .slice none 0 0, .slice none 0 0] 26 (0, 0))
  own : Kd.node.Own W (sb + 1) 68 (sb + 1) v (evN k)
theorem EvA.below {w : World} {sb k : Nat} {v : Value} {W W' : World} (h : EvA w sb k v W) (hb : Below W.heap.size W W') : EvA w sb k v W' :=
  ⟨Below.then h.bel hb, h.lo, (hb.block _ (blk_lt h.q)).trans h.q, h.own.below hb⟩
theorem EvA.alloc {w : World} {sb k : Nat} {v : Value} {W : World} (h : EvA w sb k v W) (o : Obj) : EvA w sb k v (W.alloc o) := h.below (alloc_below _ _)
theorem EvA.grow {w : World} {sb k : Nat} {v v' : Value} {W W' : World} (h : EvA w sb k v W) (ho : Kd.node.Own W' (sb + 1) 68 (sb + 1) v' (evN k ++ [ndZ (nnm k) (znm k)])) (hg : W.grownBy W' v.ownBlock) :
    EvA w sb (k + 1) v' (W'.setCell ⟨sb, 0, none⟩ v') ∧ W'.heap[sb]? = some (.cells #[v, .slice none 0 0, .slice none 0 0] 26 (0, 0)) := by
  obtain ⟨cs, hr⟩ := h.own.row
  have hq : W'.heap[sb]? = some (.cells #[v, .slice none 0 0, .slice none 0 0] 26 (0, 0)) := (hg.block sb (blk_lt h.q) (fun e => by have := (hr.lt sb e.symm).1; omega)).trans h.q
  refine ⟨⟨?_, h.lo, ?_, ?_⟩, hq⟩
  · exact Below.setCell (grown_then h.bel (Below.refl _ _) hg (fun q e => by have := (hr.lt q e).1; have := h.lo; omega)) (p := ⟨sb, 0, none⟩) h.lo v'
  · exact (blk_set hq v').trans rfl
  · rw [evN_snoc]
    exact ho.setCell (p := ⟨sb, 0, none⟩) (Nat.lt_succ_self _) (Nat.lt_succ_self _) v'
/-- The pods are being put; the nodes stay as they were in W1. -/
structure EvB (w W1 : World) (sb k : Nat) (A1 : Option Addr) (c1 : Nat) (L : List Nat) (vp : Value) (W : World) : Prop where
  lo : w.heap.size ≤ sb
  sl : sb < W1.heap.size
  bel : Below w.heap.size w W
  sz : W1.heap.size ≤ W.heap.size
  keep : ∀ b, b < W1.heap.size → b ≠ sb → W.heap[b]? = W1.heap[b]?
  q : W.heap[sb]? = some (.cells #[.slice A1 k c1, vp, .slice none 0 0] 26 (0, 0))
  own : Kd.pod.Own W W1.heap.size 35 W1.heap.size vp (evP L)
  nodes : Kd.node.S (vw W1 [sb]) (.slice A1 k c1) (evN k)
theorem EvB.below {w W1 : World} {sb k : Nat} {A1 : Option Addr} {c1 : Nat} {L : List Nat} {vp : Value} {W W' : World} (h : EvB w W1 sb k A1 c1 L vp W) (hb : Below W.heap.size W W') : EvB w W1 sb k A1 c1 L vp W' :=
  ⟨h.lo, h.sl, Below.then h.bel hb, Nat.le_trans h.sz hb.size, fun b h1 h2 => (hb.block b (Nat.lt_of_lt_of_le h1 h.sz)).trans (h.keep b h1 h2), (hb.block _ (blk_lt h.q)).trans h.q, h.own.below hb, h.nodes⟩
theorem EvB.alloc {w W1 : World} {sb k : Nat} {A1 : Option Addr} {c1 : Nat} {L : List Nat} {vp : Value} {W : World} (h : EvB w W1 sb k A1 c1 L vp W) (o : Obj) : EvB w W1 sb k A1 c1 L vp (W.alloc o) := h.below (alloc_below _ _)
theorem EvB.lt {w W1 : World} {sb k : Nat} {A1 : Option Addr} {c1 : Nat} {L : List Nat} {vp : Value} {W : World} (h : EvB w W1 sb k A1 c1 L vp W) : ∀ q, vp.ownBlock = some q → W1.heap.size ≤ q ∧ q < W.heap.size := by
  obtain ⟨_, hr⟩ := h.own.row
  exact fun q e => hr.lt q e
theorem EvB.view {w W1 : World} {sb k : Nat} {A1 : Option Addr} {c1 : Nat} {L : List Nat} {vp : Value} {W : World} (h : EvB w W1 sb k A1 c1 L vp W) : (vw W1 [sb]).le (vw W []) := fun b o hb => by
  obtain ⟨h1, h2⟩ := vw_eq hb
  exact vw_mk (by simp) ((h.keep b (blk_lt h2) (by simpa using h1)).trans h2)
theorem EvB.V {w W1 : World} {sb k : Nat} {A1 : Option Addr} {c1 : Nat} {L : List Nat} {vp : Value} {W : World} (h : EvB w W1 sb k A1 c1 L vp W) (hl : L.length ≤ 1000) : Kd.state.V (vw W []) (.agg #[.slice A1 k c1, vp, .slice none 0 0]) (evS k L) := by
  obtain ⟨A2, c2, rfl, s2⟩ := (h.own.S (Nat.le_refl _) (by rw [evP_len]; omega)).val
  refine ⟨_, rfl, A1, c1, A2, c2, none, 0, ?_, ?_, s2.mono (nx_vw (by simp)), Kd.S.nil _ _⟩
  · show [Value.slice A1 k c1, _, _] = [Value.slice A1 (evN k).length c1, _, _]
    rw [evN_len]; rfl
  · have := h.nodes.mono h.view
    show Kd.node.S _ (.slice A1 (evN k).length c1) (evN k)
    rw [evN_len]; exact this
theorem EvB.at_ {w W1 : World} {sb k : Nat} {A1 : Option Addr} {c1 : Nat} {L : List Nat} {vp : Value} {W : World} (h : EvB w W1 sb k A1 c1 L vp W) (hk : 0 < k) :
    ∃ b off, A1 = some ⟨b, off, none⟩ ∧ ∀ {L' : List Nat} {vp' : Value} {W' : World}, EvB w W1 sb k A1 c1 L' vp' W' → ∀ q, q < k → W'.cell? ⟨b, off + q * 5, none⟩ = some (.string (nnm q)) := by
  obtain ⟨b, off, _, e, _⟩ := h.nodes.elem 0 (by rw [evN_len]; exact hk)
  refine ⟨b, off, e, fun h' q hq => ?_⟩
  obtain ⟨b', off', cs, e', hK, hc⟩ := (h'.nodes.mono h'.view).elem q (by rw [evN_len]; exact hq)
  rw [e] at e'
  injection e' with e'
  injection e' with e1 e2
  subst e1 e2
  have hql : q < (evN k).length := by rw [evN_len]; exact hq
  obtain ⟨_, _, _, _, _, _, rfl, -⟩ := hK
  have h0 := hc 0 (.string (evN k)[q].name) rfl
  rw [evN_at] at h0
  exact cell_of_vw h0
theorem bestC_lt {c : Nat → Nat} {k : Nat} (h0 : 0 < k) : ∀ q, q ≤ k → bestC c k q < k
  | 0, _ => h0
  | q + 1, h => by
    unfold bestC
    split
    · omega
    · exact bestC_lt h0 q (by omega)
theorem EvB.grow {w W1 : World} {sb k : Nat} {A1 : Option Addr} {c1 : Nat} {vp v' : Value} {W W' : World} {m : Nat} (h : EvB w W1 sb k A1 c1 (evL k m) vp W) (ho : Kd.pod.Own W' W1.heap.size 35 W1.heap.size v' (evP (evL k m) ++ [pdO (pnm m) (nnm (m % k)) 1])) (hg : W.grownBy W' vp.ownBlock) :
    EvB w W1 sb k A1 c1 (evL k (m + 1)) v' (W'.setCell ⟨sb, 1, none⟩ v') ∧ W'.heap[sb]? = some (.cells #[.slice A1 k c1, vp, .slice none 0 0] 26 (0, 0)) := by
  have hlt := h.lt
  have hsl := h.sl
  have hlo := h.lo
  have hsz := h.sz
  have hq : W'.heap[sb]? = some (.cells #[.slice A1 k c1, vp, .slice none 0 0] 26 (0, 0)) := (hg.block sb (blk_lt h.q) (fun e => by have := (hlt sb e.symm).1; omega)).trans h.q
  have hgs := hg.size
  refine ⟨⟨hlo, hsl, ?_, ?_, fun b h1 h2 => ?_, ?_, ?_, h.nodes⟩, hq⟩
  · exact Below.setCell (grown_then h.bel (Below.refl _ _) hg (fun q e => by have := (hlt q e).1; omega)) (p := ⟨sb, 1, none⟩) hlo v'
  · have : (W'.setCell ⟨sb, 1, none⟩ v').heap.size = W'.heap.size := by simp [World.setCell]
    omega
  · exact (Below.heap_setCell W' ⟨sb, 1, none⟩ v' b h2).trans ((hg.block b (by omega) (fun e => by have := (hlt b e.symm).1; omega)).trans (h.keep b h1 h2))
  · exact (blk_set hq v').trans rfl
  · rw [evP_snoc]
    exact ho.setCell (p := ⟨sb, 1, none⟩) hsl hsl v'
theorem info_evn : (Try.prog.info? 68).map (fun i => (i.zero, i.size, i.bytes)) = some (some (.agg #[.string ⟨#[]⟩, .slice none 0 0, .slice none 0 0, .slice none 0 0, .bool false]), 5, 96) := by kernel_rfl
theorem info_evp : (Try.prog.info? 35).map (fun i => (i.zero, i.size, i.bytes)) = some (some (.agg #[.string ⟨#[]⟩, .string ⟨#[]⟩, .int .i64 0, .slice none 0 0, .slice none 0 0, .slice none 0 0, .slice none 0 0, .string ⟨#[]⟩, .int .i64 0, .string ⟨#[]⟩, .bool false]), 11, 184) := by kernel_rfl
theorem nnm_eq (i : Nat) : (⟨#[110]⟩ : ByteArray) ++ tx (Lib.decDigits i) = nnm i := tx_append [110] _
theorem znm_eq (i : Nat) : (⟨#[122]⟩ : ByteArray) ++ tx (Lib.decDigits i) = znm i := tx_append [122] _
theorem dec_small {i : Nat} (h : i < 10) : (Lib.decDigits i).length = 1 := by
  rw [Lib.decDigits, dif_pos h]; rfl
theorem nnm_ok {i : Nat} (h : i < 10) : sok (nnm i) := by
  have : (nnm i).size = (Lib.decDigits i).length + 1 := rfl
  unfold sok; rw [this, dec_small h]; decide
theorem znm_ok {i : Nat} (h : i < 10) : sok (znm i) := by
  have : (znm i).size = (Lib.decDigits i).length + 1 := rfl
  unfold sok; rw [this, dec_small h]; decide
theorem Zoned_ev {i : Nat} (h : i < 10) (W : World) : Calls Try.prog 23 #[.string (⟨#[110]⟩ ++ tx (Lib.decDigits i)), .string (⟨#[122]⟩ ++ tx (Lib.decDigits i))] W (OneDone Kd.node (ndZ (nnm i) (znm i)) W) := by
  rw [nnm_eq, znm_eq]; exact Zoned_calls _ _ _ (nnm_ok h) (znm_ok h)
theorem pnm_eq (i : Nat) : (⟨#[112]⟩ : ByteArray) ++ tx [97 + UInt8.ofNat i] = pnm i := by
  rw [show (⟨#[112]⟩ : ByteArray) = tx [112] from rfl, tx_append]
  unfold pnm
  rw [UInt8.ofNat_add]; rfl
theorem pnm_ok (i : Nat) : sok (pnm i) := by
  have : (pnm i).size = 2 := rfl
  unfold sok; rw [this]; decide
theorem Owned_ev (i : Nat) (W : World) : Calls Try.prog 25 #[.string (⟨#[112]⟩ ++ tx [97 + UInt8.ofNat i]), .string ⟨#[]⟩, .int .i64 1] W (OneDone Kd.pod (pdO (pnm i) ⟨#[]⟩ 1) W) := by
  rw [pnm_eq]; exact Owned_calls _ _ _ _ (pnm_ok i) sok_none ⟨by decide, by decide⟩
theorem ev_end_facts (m j d : Nat) (hm : m < 20) : ∃ D R : Nat, wrap64 ((m : Int) / (j : Int)) = (D : Int) ∧ (m : Int) % (j : Int) = (R : Int) ∧ wrap64 ((D : Int) + 1) = (D : Int) + 1 ∧
    ((R = 0 ∧ evC m j d = D) ∨ ((((R : Int) == 0) = false) ∧ evC m j d = D) ∨ ((((R : Int) == 0) = false) ∧ ((((D + 1 : Nat) : Int) == (D : Int)) = false) ∧ ((((D + 1 : Nat) : Int) == (D : Int) + 1) = true) ∧ evC m j d = D + 1)) := by
  have hdm := Nat.div_le_self m j
  obtain ⟨hc1, hc2⟩ := evC_end m j d
  refine ⟨m / j, m % j, ?_, rfl, ?_, ?_⟩
  · rw [show ((m : Int) / (j : Int)) = ((m / j : Nat) : Int) from rfl]; unfold wrap64; omega
  · unfold wrap64; omega
  · by_cases hR : m % j = 0
    · exact .inl ⟨hR, hc2 hR⟩
    · have t4 : (((m % j : Nat) : Int) == 0) = false := by rw [beq_eq_false_iff_ne]; omega
      rcases hc1 with h | h
      · exact .inr (.inl ⟨t4, h⟩)
      · exact .inr (.inr ⟨t4, by rw [beq_eq_false_iff_ne]; omega, by rw [beq_iff_eq]; omega, h⟩)
theorem pdO_move {h : View} {nm on on' : ByteArray} {most : Int} {B1 B2 B3 B4 : Option Addr} {d1 d2 d3 d4 : Nat} (hk : Kd.pod.K h (pdO nm on most) [.string nm, .string (tx [119, 101, 98]), .int .i64 0, .slice B1 1 d1, .slice B2 0 d2, .slice B3 0 d3, .slice B4 0 d4, .string (tx [122, 111, 110, 101]), .int .i64 most, .string on, .bool false]) (ho : sok on') :
    Kd.pod.K h (pdO nm on' most) [.string nm, .string (tx [119, 101, 98]), .int .i64 0, .slice B1 1 d1, .slice B2 0 d2, .slice B3 0 d3, .slice B4 0 d4, .string (tx [122, 111, 110, 101]), .int .i64 most, .string on', .bool false] := by
  obtain ⟨A1, c1, A2, c2, A3, c3, A4, c4, e, ok, s1, s2, s3, s4⟩ := hk
  simp only [List.cons.injEq, Value.slice.injEq] at e
  obtain ⟨-, -, -, ⟨rfl, -, rfl⟩, ⟨rfl, -, rfl⟩, ⟨rfl, -, rfl⟩, ⟨rfl, -, rfl⟩, -⟩ := e
  exact ⟨_, _, _, _, _, _, _, _, rfl, ⟨ok.1, ok.2.1, ok.2.2.1, ho⟩, s1, s2, s3, s4⟩
theorem Count_ev {vs vp : Value} {k n d : Nat} {w : World} (hk : k < 7) (h0 : 0 < k) (hn : n < 20) (hd : d < k) (hs : Kd.state.V (vw w []) vs (evS k (evL k n))) (hp : Kd.pod.V (vw w []) vp (pdO ⟨#[122, 122]⟩ ⟨#[]⟩ 1)) :
    Calls Try.prog 18 #[vs, vp, .string (⟨#[122]⟩ ++ tx (Lib.decDigits d))] w (CountDone (evC n k d) w) := by
  rw [znm_eq]
  have h := Count_calls vs vp _ _ (znm d) w hs hp
  have e : countV (evS k (evL k n)) (pdO ⟨#[122, 122]⟩ ⟨#[]⟩ 1) (znm d) (evS k (evL k n)).pods = evC n k d := by
    show countV _ _ _ (evP (evL k n)) = _
    rw [ev_count hk _ _ _ rfl rfl hd (evL_lt h0) (fun i hi => by rw [evL_len] at hi; exact zz_table i (by omega)), evL_count k hk h0 n hn d hd]
  rw [e] at h
  exact h
set_option maxHeartbeats 16000000 in
set_option maxRecDepth 100000 in
theorem SpreadEven_calls (zones pods : Int) (w : World) (hz0 : 0 ≤ zones) (hz1 : zones ≤ 255) (hp0 : 0 ≤ pods) (hp1 : pods ≤ 255) :
    Calls Try.prog 4 #[.int .u8 zones, .int .u8 pods] w (BoolDone true w) := by
  obtain ⟨i0, hi, hy0, hy1, hy2⟩ := info_parts info_evn
  obtain ⟨i1, hjj, hx0, hx1, hx2⟩ := info_parts info_evp
  go_enter Try.func4, Try.ntmps4
  go_wp2_with fail
  refine (known_calls _).mono ?_
  rintro e w1 ⟨rfl, hb⟩
  have HB := Lib.hid hb
  clear hb
  obtain ⟨k, hk, hk0, hk1⟩ : ∃ k : Nat, 1 + zones % 6 = (k : Int) ∧ 1 ≤ k ∧ k ≤ 6 := ⟨(1 + zones % 6).toNat, by omega, by omega, by omega⟩
  obtain ⟨n, hn, hn1⟩ : ∃ n : Nat, pods % 20 = (n : Int) ∧ n < 20 := ⟨(pods % 20).toNat, by omega, by omega⟩
  have hls := HB.out.size
  go_upto_region 6 with fail
  obtain ⟨W, hW⟩ : ∃ W : World, W = w1.alloc (.cells #[.slice none 0 0, .slice none 0 0, .slice none 0 0] 26) := ⟨_, rfl⟩
  rw [← hW]
  have HA : Hid (EvA w w1.heap.size 0 (.slice none 0 0) W) := by
    refine ⟨?_, hls, ?_, Kd.Own.nil _ _ _ _ _⟩
    · rw [hW]; exact alloc_then HB.out _
    · rw [hW]; exact blk_last _ _
  clear hW HB
  generalize w1.heap.size = sb at *
  go_wp2
  clear hk hn
  go_loopw [8] (fun i wr => ∃ (j : Nat) (v : Value), j ≤ k ∧ i = .int .i64 j ∧ Hid (EvA w sb j v wr)) (fun i _ => k - (intOf i).toNat)
  case atStart => exact ⟨0, _, Nat.zero_le _, rfl, HA⟩
  case round =>
    obtain ⟨j, v, hj, rfl, HE⟩ := hrel
    by_cases hlt : j < k
    · go_upto_region 9 with fail
      replace HE : Hid (EvA w sb j v wr.drew) := (HE.out.below (drew_below _))
      obtain ⟨y, yf⟩ := blk_all HE.out.q
      have hz := fun W => Zoned_ev (show j < 10 by omega) W
      have HZ := Lib.hid hz
      have hlen := evN_len j
      have hts : (tx (Lib.decDigits j)).size = 1 := dec_small (show j < 10 by omega)
      clear hz
      go_region_law
        (first
        | (go_simp; go_at_call 24; (with_reducible refine (Decimal_calls j _ (by omega)).mono ?_); rintro e wd ⟨rfl, hb⟩; (try dsimp only); replace HE := Lib.hid (HE.out.below hb); clear hb y yf; obtain ⟨y, yf⟩ := blk_all HE.out.q)
        | (go_simp; go_at_call 23; (with_reducible refine (HZ.out _).mono ?_); rintro e wd ⟨cs, rfl, hk, hb⟩; (try dsimp only); obtain ⟨A1, a1, A2, a2, A3, a3, rfl, -⟩ := id hk; have HK := Lib.hid (HE.out.own.fresh (blk_lt HE.out.q) hk); replace HE := Lib.hid (HE.out.below hb); clear hb hk y yf; obtain ⟨y, yf⟩ := blk_all HE.out.q; have ya : ∀ (o : Obj) (j : Nat), (wd.alloc o).cell? ⟨sb, j, none⟩ = #[v, .slice none 0 0, .slice none 0 0][j]? := fun o => (blk_all (HE.out.alloc o).q).1)
        | (refine step_own (d := Kd.node) (x := ndZ (nnm j) (znm j)) _ (sb + 1) (sb + 1) 22 68 i0 _ 96 Try.underlying22 hi hy0 hy1 hy2 rfl (by decide) v (evN j) _ (HE.out.alloc _).own (Kd.node.mono (nx_below (alloc_below _ _)) HK.out) _ 1 68 (blk_last _ _) (by simp [Value.oneCell']) (by simp only [maxLen]; omega) (by omega) (by have := blk_lt HE.out.q; simp; omega) _ _ rfl rfl rfl rfl ?_; intro v2 w2 ho2 hg2; obtain ⟨G, gc, rfl⟩ := ho2.form; have HG := Lib.hid ((HE.out.alloc _).grow ho2 hg2); clear ho2 hg2; obtain ⟨y2, yf2⟩ := blk_all HG.out.2))
      all_goals
        have hl2 : (evN j ++ [ndZ (nnm j) (znm j)]).length = j + 1 := by rw [List.length_append, evN_len]; rfl
        rw [hl2] at HG
        clear HZ ya y yf y2 yf2 hl2
        go_wp2
        go_roundw
        case rel => exact ⟨j + 1, _, hlt, by go_num, Lib.hid HG.out.1⟩
        case measure => simp [intOf]; omega
    · obtain rfl : j = k := by omega
      obtain ⟨A1, c1, hv⟩ := HE.out.own.form
      rw [evN_len] at hv
      subst hv
      have hnd := (HE.out.own.S (Nat.le_refl _) (by rw [evN_len]; omega)).mono (nx_vw (M := [sb]) (fun x hx => .inl (by simp only [List.mem_singleton] at hx; omega)))
      have HF : Hid (EvB w wr sb j A1 c1 (evL j 0) (.slice none 0 0) wr) := ⟨HE.out.lo, blk_lt HE.out.q, HE.out.bel, Nat.le_refl _, fun _ _ _ => rfl, HE.out.q, Kd.Own.nil _ _ _ _ _, hnd⟩
      clear hnd HE HA
      obtain ⟨nb, off, rfl, hcell⟩ := HF.out.at_ hk0
      have hname : ∀ m i, i < m → m < 20 → pnm i ≠ pnm m := fun m i h1 h2 e => by
        have := pnm_table i (by omega) m (by omega) e
        omega
      have HCEL : Hid (∀ {L' : List Nat} {vp' : Value} {W' : World}, EvB w wr sb j (some ⟨nb, off, none⟩) c1 L' vp' W' → ∀ q, q < j → W'.cell? ⟨nb, off + q * 5, none⟩ = some (.string (nnm q))) := hcell
      have HNAME := Lib.hid hname
      clear hcell hname
      generalize wr = W1 at HF HCEL ⊢
      go_wp2
      go_loopw [9] (fun i wr => ∃ (m : Nat) (vp : Value), m ≤ n ∧ i = .int .i64 m ∧ Hid (EvB w W1 sb j (some ⟨nb, off, none⟩) c1 (evL j m) vp wr)) (fun i _ => n - (intOf i).toNat)
      case atStart => exact ⟨0, _, Nat.zero_le _, rfl, HF⟩
      case round =>
        clear HF
        obtain ⟨m, vp, hm, rfl, HE⟩ := hrel
        by_cases hmt : m < n
        · have hln : (evS j (evL j m)).nodes.length ≤ 1000 := by show (evN j).length ≤ 1000; rw [evN_len]; omega
          have hlp : (evS j (evL j m)).pods.length ≤ 1000 := by show (evP _).length ≤ 1000; rw [evP_len, evL_len]; omega
          have hw97 : IntKind.u8.wrap (97 + (m : Int)) = 97 + (m : Int) := by unfold IntKind.wrap IntKind.signed; simp [IntKind.bits]; omega
          have hc0 := conv_one (97 + (m : Int)) (by omega) (by omega)
          have hts : (tx [97 + UInt8.ofNat m]).size = 1 := rfl
          go_wp2_with fail
          refine (Owned_ev m _).mono ?_
          rintro e wd ⟨cs, rfl, hk, hb⟩
          have HED := Lib.hid (HE.out.below (Below.then (alloc_below _ _) hb))
          have HK := Lib.hid ((HE.out.alloc _).own.fresh (by have := HE.out.sz; simp; omega) hk)
          obtain ⟨B1, d1, B2, d2, B3, d3, B4, d4, hcs, -⟩ := hk
          obtain rfl : cs = ([.string (pnm m), .string (tx [119, 101, 98]), .int .i64 0, .slice B1 1 d1, .slice B2 0 d2, .slice B3 0 d3, .slice B4 0 d4, .string (tx [122, 111, 110, 101]), .int .i64 1, .string ⟨#[]⟩, .bool false] : List Value) := hcs
          clear hb HE hts
          go_upto_region 14 with fail
          have HBD : Hid (Below wd.heap.size wd (wd.alloc (.cells #[.string (pnm m), .string (tx [119, 101, 98]), .int .i64 0, .slice B1 1 d1, .slice B2 0 d2, .slice B3 0 d3, .slice B4 0 d4, .string (tx [122, 111, 110, 101]), .int .i64 1, .string ⟨#[]⟩, .bool false] 35))) := alloc_below _ _
          have HQP : Hid ((wd.alloc (.cells #[.string (pnm m), .string (tx [119, 101, 98]), .int .i64 0, .slice B1 1 d1, .slice B2 0 d2, .slice B3 0 d3, .slice B4 0 d4, .string (tx [122, 111, 110, 101]), .int .i64 1, .string ⟨#[]⟩, .bool false] 35)).heap[wd.heap.size]? = some (.cells #[.string (pnm m), .string (tx [119, 101, 98]), .int .i64 0, .slice B1 1 d1, .slice B2 0 d2, .slice B3 0 d3, .slice B4 0 d4, .string (tx [122, 111, 110, 101]), .int .i64 1, .string ⟨#[]⟩, .bool false] 35 (0, 0))) := blk_last _ _
          generalize wd.alloc (.cells #[.string (pnm m), .string (tx [119, 101, 98]), .int .i64 0, .slice B1 1 d1, .slice B2 0 d2, .slice B3 0 d3, .slice B4 0 d4, .string (tx [122, 111, 110, 101]), .int .i64 1, .string ⟨#[]⟩, .bool false] 35) = W3 at HBD HQP ⊢
          go_wp2
          go_loopw [11, 12] (fun x i wr => ∃ (q : Nat), q ≤ j ∧ x = .int .i64 (bestC (evC m j) j q) ∧ i = .int .i64 q ∧ Hid (Below wd.heap.size wd wr) ∧ Hid (wr.heap[wd.heap.size]? = some (.cells #[.string (pnm m), .string (tx [119, 101, 98]), .int .i64 0, .slice B1 1 d1, .slice B2 0 d2, .slice B3 0 d3, .slice B4 0 d4, .string (tx [122, 111, 110, 101]), .int .i64 1, .string ⟨#[]⟩, .bool false] 35 (0, 0)))) (fun _ i _ => j - (intOf i).toNat)
          case atStart => exact ⟨0, Nat.zero_le _, rfl, rfl, HBD, HQP⟩
          case round =>
            clear HBD HQP
            obtain ⟨q, hq, rfl, rfl, HBD, HQP⟩ := hrel
            by_cases hqj : q < j
            · go_upto_region 18 with fail
              have hE := (HED.out.below HBD.out).below (drew_below _)
              have hSt : Kd.state.V (vw wr.drew []) (.agg #[.slice (some ⟨nb, off, none⟩) j c1, vp, .slice none 0 0]) (evS j (evL j m)) := hE.V (by rw [evL_len]; omega)
              have HSt := Lib.hid hSt
              have HPd : Hid (Kd.pod.V (vw wr.drew []) (.agg #[.string (pnm m), .string (tx [119, 101, 98]), .int .i64 0, .slice B1 1 d1, .slice B2 0 d2, .slice B3 0 d3, .slice B4 0 d4, .string (tx [122, 111, 110, 101]), .int .i64 1, .string ⟨#[]⟩, .bool false]) (pdO (pnm m) ⟨#[]⟩ 1)) := ⟨_, rfl, Kd.pod.mono (vw_below (Below.then HBD.out (drew_below _))) (Kd.pod.mono (nx_vw (by simp)) HK.out)⟩
              have HSK : Hid (skewV (evS j (evL j m)) (pdO (pnm m) ⟨#[]⟩ 1) (nnm q) = (skC (evC m j) j q, true)) := ev_next (by omega) hk0 (by omega) rfl rfl (fun i hi => HNAME.out m i hi (by omega)) (by omega)
              obtain ⟨z1, f1⟩ := blk_all hE.q
              obtain ⟨z2, f2⟩ := blk_all HQP.out
              have z3 : wr.cell? ⟨nb, off + q * 5, none⟩ = some (.string (nnm q)) := HCEL.out hE q (by omega)
              have b1 : (0 : Int) ≤ (q : Int) := by omega
              have b2 : (q : Int) < (j : Int) := by omega
              clear hE hSt
              go_region_held3 (fun w' => (∀ t, w'.cell? ⟨sb, t, none⟩ = #[.slice (some ⟨nb, off, none⟩) j c1, vp, .slice none 0 0][t]?) ∧ (∀ t, w'.cell? ⟨wd.heap.size, t, none⟩ = #[.string (pnm m), .string (tx [119, 101, 98]), .int .i64 0, .slice B1 1 d1, .slice B2 0 d2, .slice B3 0 d3, .slice B4 0 d4, .string (tx [122, 111, 110, 101]), .int .i64 1, .string ⟨#[]⟩, .bool false][t]?) ∧ w'.cell? ⟨nb, off + q * 5, none⟩ = some (.string (nnm q)))
                (first | with_reducible exact ⟨z1, z2, z3⟩ | go_keep)
                (first
                | (go_at_call 13; (with_reducible refine (Skew_calls _ _ (evS j (evL j m)) (pdO (pnm m) ⟨#[]⟩ 1) (nnm q) _ HSt.out HPd.out hln hlp).mono ?_); rintro e ws ⟨rfl, hb⟩; rw [HSK.out]; replace HBD := Lib.hid (Below.then (Below.then HBD.out (drew_below _)) hb); replace HQP := Lib.hid ((hb.block _ (blk_lt HQP.out)).trans HQP.out); clear hb HSt HPd HSK z1 f1 z2 f2 z3 b1 b2; have hE := HED.out.below HBD.out; obtain ⟨z1, f1⟩ := blk_all hE.q; obtain ⟨z2, f2⟩ := blk_all HQP.out; have z3 := HCEL.out hE q (by omega); clear hE))
              clear z1 f1 z2 f2 z3
              generalize ws = wr at HBD HQP ⊢
              obtain ⟨be, hbe⟩ : ∃ be, bestC (evC m j) j q = be := ⟨_, rfl⟩
              have hbl : be < j := by rw [← hbe]; exact bestC_lt hk0 q hq
              have HBE := Lib.hid hbe
              rw [hbe]
              clear hbe
              go_upto_region 19 with fail
              have hE := (HED.out.below HBD.out).below (drew_below _)
              have hSt : Kd.state.V (vw wr.drew []) (.agg #[.slice (some ⟨nb, off, none⟩) j c1, vp, .slice none 0 0]) (evS j (evL j m)) := hE.V (by rw [evL_len]; omega)
              have HSt := Lib.hid hSt
              have HPd : Hid (Kd.pod.V (vw wr.drew []) (.agg #[.string (pnm m), .string (tx [119, 101, 98]), .int .i64 0, .slice B1 1 d1, .slice B2 0 d2, .slice B3 0 d3, .slice B4 0 d4, .string (tx [122, 111, 110, 101]), .int .i64 1, .string ⟨#[]⟩, .bool false]) (pdO (pnm m) ⟨#[]⟩ 1)) := ⟨_, rfl, Kd.pod.mono (vw_below (Below.then HBD.out (drew_below _))) (Kd.pod.mono (nx_vw (by simp)) HK.out)⟩
              have HSK : Hid (skewV (evS j (evL j m)) (pdO (pnm m) ⟨#[]⟩ 1) (nnm be) = (skC (evC m j) j be, true)) := ev_next (by omega) hk0 (by omega) rfl rfl (fun i hi => HNAME.out m i hi (by omega)) (by omega)
              obtain ⟨z1, f1⟩ := blk_all hE.q
              obtain ⟨z2, f2⟩ := blk_all HQP.out
              have z3 : wr.cell? ⟨nb, off + be * 5, none⟩ = some (.string (nnm be)) := HCEL.out hE be (by omega)
              have b1 : (0 : Int) ≤ (be : Int) := by omega
              have b2 : (be : Int) < (j : Int) := by omega
              clear hE hSt
              go_region_held3 (fun w' => (∀ t, w'.cell? ⟨sb, t, none⟩ = #[.slice (some ⟨nb, off, none⟩) j c1, vp, .slice none 0 0][t]?) ∧ (∀ t, w'.cell? ⟨wd.heap.size, t, none⟩ = #[.string (pnm m), .string (tx [119, 101, 98]), .int .i64 0, .slice B1 1 d1, .slice B2 0 d2, .slice B3 0 d3, .slice B4 0 d4, .string (tx [122, 111, 110, 101]), .int .i64 1, .string ⟨#[]⟩, .bool false][t]?) ∧ w'.cell? ⟨nb, off + be * 5, none⟩ = some (.string (nnm be)))
                (first | with_reducible exact ⟨z1, z2, z3⟩ | go_keep)
                (first
                | (go_at_call 13; (with_reducible refine (Skew_calls _ _ (evS j (evL j m)) (pdO (pnm m) ⟨#[]⟩ 1) (nnm be) _ HSt.out HPd.out hln hlp).mono ?_); rintro e ws ⟨rfl, hb⟩; rw [HSK.out]; replace HBD := Lib.hid (Below.then (Below.then HBD.out (drew_below _)) hb); replace HQP := Lib.hid ((hb.block _ (blk_lt HQP.out)).trans HQP.out); clear hb HSt HPd HSK z1 f1 z2 f2 z3 b1 b2; have hE := HED.out.below HBD.out; obtain ⟨z1, f1⟩ := blk_all hE.q; obtain ⟨z2, f2⟩ := blk_all HQP.out; have z3 := HCEL.out hE be (by omega); clear hE))
              clear z1 f1 z2 f2 z3
              generalize ws = wr at HBD HQP ⊢
              have hpos := evC_pos j (by omega) hk0 m (by omega) q hqj
              have hb1 : bestC (evC m j) j (q + 1) = if skC (evC m j) j q < skC (evC m j) j be then q else be := by
                show (if _ then _ else _) = _
                rw [HBE.out]
              obtain ⟨sa, hsa⟩ : ∃ a, skC (evC m j) j q = a := ⟨_, rfl⟩
              obtain ⟨sb', hsb⟩ : ∃ a, skC (evC m j) j be = a := ⟨_, rfl⟩
              rw [hsa, hsb] at hb1
              rw [hsa] at hpos ⊢
              rw [hsb]
              clear hsa hsb
              have hn0 : ¬ sa < 0 := by omega
              by_cases hab : sa < sb'
              · rw [if_pos hab] at hb1
                have HB1 := Lib.hid hb1
                clear hb1
                go_wp2
                go_roundw
                case rel => exact ⟨q + 1, by omega, by rw [HB1.out], by go_num, HBD, HQP⟩
                case measure => simp [intOf]; omega
              · rw [if_neg hab] at hb1
                have HB1 := Lib.hid hb1
                clear hb1
                go_wp2
                go_roundw
                case rel => exact ⟨q + 1, by omega, by rw [HB1.out], by go_num, HBD, HQP⟩
                case measure => simp [intOf]; omega
            · obtain rfl : q = j := by omega
              have hbest := evC_best q (by omega) hk0 m (by omega)
              rw [hbest]
              have hml : m % q < q := Nat.mod_lt _ hk0
              have hE := HED.out.below HBD.out
              obtain ⟨z1, f1⟩ := blk_all hE.q
              obtain ⟨z2, f2⟩ := blk_all HQP.out
              have z3 := HCEL.out hE (m % q) hml
              have b1 : (0 : Int) ≤ ((m % q : Nat) : Int) := by omega
              have b2 : ((m % q : Nat) : Int) < (q : Int) := by omega
              clear hE hbest
              go_upto_region 25 with fail
              have HQ2 : Hid ((wr.setCell ⟨wd.heap.size, 9, none⟩ (.string (nnm (m % q)))).heap[wd.heap.size]? = some (.cells #[.string (pnm m), .string (tx [119, 101, 98]), .int .i64 0, .slice B1 1 d1, .slice B2 0 d2, .slice B3 0 d3, .slice B4 0 d4, .string (tx [122, 111, 110, 101]), .int .i64 1, .string (nnm (m % q)), .bool false] 35 (0, 0))) := (blk_set HQP.out _).trans rfl
              have HB2 : Hid (Below wd.heap.size wd (wr.setCell ⟨wd.heap.size, 9, none⟩ (.string (nnm (m % q))))) := Below.setCell HBD.out (p := ⟨wd.heap.size, 9, none⟩) (Nat.le_refl _) _
              generalize wr.setCell ⟨wd.heap.size, 9, none⟩ (.string (nnm (m % q))) = W4 at HQ2 HB2 ⊢
              clear z1 f1 z2 f2 z3 b1 b2
              have HEW := Lib.hid (HED.out.below HB2.out)
              have HKP := Lib.hid (pdO_move (on' := nnm (m % q)) (Kd.pod.mono (nx_below HB2.out) HK.out) (nnm_ok (by omega)))
              have hepl : (evP (evL q m)).length = m := by rw [evP_len, evL_len]
              obtain ⟨z1, f1⟩ := blk_all HEW.out.q
              obtain ⟨z2, f2⟩ := blk_all HQ2.out
              go_wp2_with (at_builtin; go_must (refine wpList_own (d := Kd.pod) (x := pdO (pnm m) (nnm (m % q)) 1) _ W1.heap.size W1.heap.size 23 35 i1 _ 184 Try.underlying23 hjj hx0 hx1 hx2 rfl (by decide) vp (evP (evL q m)) [.string (pnm m), .string (tx [119, 101, 98]), .int .i64 0, .slice B1 1 d1, .slice B2 0 d2, .slice B3 0 d3, .slice B4 0 d4, .string (tx [122, 111, 110, 101]), .int .i64 1, .string (nnm (m % q)), .bool false] (HEW.out.alloc _).own (Kd.pod.mono (nx_below (alloc_below _ _)) HKP.out) _ 1 35 (blk_last _ _) (by simp [Value.oneCell']) (by simp only [maxLen]; omega) (by omega) (by have := HEW.out.sz; simp; omega) _ _ rfl rfl rfl rfl ?_))
              intro v2 w2 ho2 hg2
              obtain ⟨G, gc, rfl⟩ := ho2.form
              have HG := Lib.hid ((HEW.out.alloc _).grow ho2 hg2)
              have hl2 : (evP (evL q m) ++ [pdO (pnm m) (nnm (m % q)) 1]).length = m + 1 := by rw [List.length_append, hepl]; rfl
              rw [hl2] at HG
              clear ho2 hg2 z1 f1 z2 f2 hepl
              obtain ⟨z1, f1⟩ := blk_all HG.out.2
              go_wp2
              go_roundw
              case rel =>
                exact ⟨m + 1, _, hmt, by go_num, Lib.hid HG.out.1⟩
              case measure => simp [intOf]; omega
        · obtain rfl : m = n := by omega
          obtain ⟨A2, c2, hv⟩ := HE.out.own.form
          rw [evP_len, evL_len] at hv
          subst hv
          go_wp2
          go_loopw [17] (fun i wr => ∃ d : Nat, d ≤ j ∧ i = .int .i64 d ∧ Hid (EvB w W1 sb j (some ⟨nb, off, none⟩) c1 (evL j m) (.slice A2 m c2) wr)) (fun i _ => j - (intOf i).toNat)
          case atStart => exact ⟨0, Nat.zero_le _, rfl, HE⟩
          case round =>
            clear HE
            obtain ⟨d, hd, rfl, HE⟩ := hrel
            by_cases hdj : d < j
            · go_upto_region 29 with fail
              have hE := HE.out.below (drew_below _)
              replace HE := Lib.hid hE
              clear hE
              obtain ⟨z1, f1⟩ := blk_all HE.out.q
              have hts : (tx (Lib.decDigits d)).size = 1 := dec_small (show d < 10 by omega)
              have hzz : sok ⟨#[122, 122]⟩ := by unfold sok; decide
              have hone : i64 1 := ⟨by decide, by decide⟩
              have HDI : Hid (d ≤ 9223372036854775807) := by show _ ≤ _; omega
              have hml : (evL j m).length ≤ 1000 := by rw [evL_len]; omega
              go_region_held3 (fun w' => ∀ t, w'.cell? ⟨sb, t, none⟩ = #[.slice (some ⟨nb, off, none⟩) j c1, .slice A2 m c2, .slice none 0 0][t]?)
                (first | with_reducible exact z1 | go_keep)
                (first
                | (go_at_call 25; (with_reducible refine (Owned_calls ⟨#[122, 122]⟩ ⟨#[]⟩ 1 _ hzz sok_none hone).mono ?_); rintro e wo ⟨cs, rfl, hk, hb⟩; have HPV : Hid (Kd.pod.V (vw wo []) (.agg cs.toArray) (pdO ⟨#[122, 122]⟩ ⟨#[]⟩ 1)) := ⟨cs, rfl, Kd.pod.mono (nx_vw (by simp)) hk⟩; clear hk; have hE := HE.out.below hb; replace HE := Lib.hid hE; clear hE hb z1 f1; obtain ⟨z1, f1⟩ := blk_all HE.out.q)
                | (go_at_call 24; (with_reducible refine (Decimal_calls d _ HDI.out).mono ?_); rintro e wp ⟨rfl, hb⟩; (try replace HPV := Lib.hid (Kd.V.mono (vw_below hb) HPV.out)); have hE := HE.out.below hb; replace HE := Lib.hid hE; clear hE hb z1 f1; obtain ⟨z1, f1⟩ := blk_all HE.out.q)
                | (go_at_call 18; (with_reducible refine (Count_ev (by omega) hk0 (by omega) hdj (HE.out.V hml) HPV.out).mono ?_); rintro e wq ⟨rfl, hb⟩; clear HPV; have hE := HE.out.below hb; replace HE := Lib.hid hE; clear hE hb z1 f1; obtain ⟨z1, f1⟩ := blk_all HE.out.q))
              all_goals
                clear hzz hone HDI hml hts
                obtain ⟨D, R, hw1, hw3, hw2, hcase⟩ := ev_end_facts m j d (by omega)
                have hj0 : ¬ (j : Int) = 0 := by omega
                obtain ⟨c, hc⟩ : ∃ c, evC m j d = c := ⟨_, rfl⟩
                rw [hc] at hcase ⊢
                clear hc
                rcases hcase with ⟨rfl, rfl⟩ | ⟨t4, rfl⟩ | ⟨t4, t1, t2, rfl⟩
                · go_wp2
                  go_roundw
                  case rel => exact ⟨d + 1, hdj, by go_num, HE⟩
                  case measure => simp [intOf]; omega
                · go_wp2
                  go_roundw
                  case rel => exact ⟨d + 1, hdj, by go_num, HE⟩
                  case measure => simp [intOf]; omega
                · go_wp2
                  go_roundw
                  case rel => exact ⟨d + 1, hdj, by go_num, HE⟩
                  case measure => simp [intOf]; omega
            · obtain rfl : d = j := by omega
              have hln : (evS d (evL d m)).nodes.length ≤ 1000 := by show (evN d).length ≤ 1000; rw [evN_len]; omega
              have hlp : (evS d (evL d m)).pods.length ≤ 1000 := by show (evP _).length ≤ 1000; rw [evP_len, evL_len]; omega
              have HV := Lib.hid (HE.out.V (by rw [evL_len]; omega))
              have HBD : Hid (badL (evS d (evL d m)) (evS d (evL d m)).pods = []) := ev_bad (by omega) hk0 (by omega)
              obtain ⟨z1, f1⟩ := blk_all HE.out.q
              go_wp2_with fail
              refine (Bad_calls _ (evS d (evL d m)) _ HV.out hln hlp).mono ?_
              rintro e wz ⟨sv, rfl, ho, hb⟩
              rw [HBD.out] at ho
              have HB := Lib.hid (Below.then HE.out.bel hb)
              clear hb z1 f1
              rcases ho.2 with ⟨rfl, -⟩ | ⟨g, cap, cur, rfl, -⟩
              · clear ho
                go_wp2
                go_ret
                exact ⟨rfl, HB.out⟩
              · clear ho
                go_wp2
                go_ret
                exact ⟨rfl, HB.out⟩
end Go.Proofs.Ytfbmfjmnpfidoaa

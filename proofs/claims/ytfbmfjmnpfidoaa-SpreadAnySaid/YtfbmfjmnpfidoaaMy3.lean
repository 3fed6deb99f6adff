import Derived.Test.YtfbmfjmnpfidoaaMy2
import Derived.Deep.QuietTactic
import Derived.BigQuiet
import Derived.Sort.Walk0
import Derived.Deep.RegionHeld3
import Derived.Deep.DeepCutAuto
import Derived.Deep.CutBlock
namespace Go.Proofs.Ytfbmfjmnpfidoaa
open Go.RowKit Go.Sort

theorem pass_next {l : List (List UInt8)} {v : List UInt8} {q : Nat} (hp : ∀ i, (hi : i < l.length) → i < q → l[i] < v) {hq : q < l.length} (h : l[q] < v) : ∀ i, (hi : i < l.length) → i < q + 1 → l[i] < v := fun i hi hiq => by
  rcases Nat.lt_or_ge i q with h1 | h1
  · exact hp i hi h1
  · have e : i = q := by omega
    subst e
    exact h
theorem strs_at {w : World} {g : Nat} {l : List (List UInt8)} (h : ∀ j, (hj : j < l.length) → w.cell? ⟨g, j, none⟩ = some (.string (ba l[j]))) (q : Nat) : ∀ j u, ((l.drop q).map encStr)[j]? = some u → w.cell? ⟨g, q + j, none⟩ = some u := fun j u hu => by
  have hj : q + j < l.length := by have := (List.getElem?_eq_some_iff.1 hu).1; simp at this; omega
  rw [h (q + j) hj]
  simp only [List.getElem?_map, List.getElem?_drop, List.getElem?_eq_getElem hj, Option.map_some, Option.some.injEq] at hu
  rw [← hu]; rfl
theorem strs_take {w : World} {g : Nat} {l : List (List UInt8)} (h : ∀ j, (hj : j < l.length) → w.cell? ⟨g, j, none⟩ = some (.string (ba l[j]))) (q : Nat) : ∀ j u, ((l.take q).map encStr)[j]? = some u → w.cell? ⟨g, j, none⟩ = some u := fun j u hu => by
  have hj : j < l.length ∧ j < q := by have := (List.getElem?_eq_some_iff.1 hu).1; simp at this; omega
  rw [h j hj.1]
  simp only [List.getElem?_map, List.getElem?_take, if_pos hj.2, List.getElem?_eq_getElem hj.1, Option.map_some, Option.some.injEq] at hu
  rw [← hu]; rfl
theorem strs_below {w w' : World} {g : Nat} {l : List (List UInt8)} (h : ∀ j, (hj : j < l.length) → w.cell? ⟨g, j, none⟩ = some (.string (ba l[j]))) (hg : g < w.heap.size) (hb : Below w.heap.size w w') : ∀ j, (hj : j < l.length) → w'.cell? ⟨g, j, none⟩ = some (.string (ba l[j])) := fun j hj =>
  (hb.cell (p := ⟨g, j, none⟩) hg).trans (h j hj)
theorem strs_one (l : List (List UInt8)) : ∀ u ∈ l.map encStr, u.oneCell' = true := fun u hu => by
  obtain ⟨c, _, rfl⟩ := List.mem_map.1 hu
  rfl
set_option maxHeartbeats 4000000 in
set_option maxRecDepth 100000 in
theorem rDomains_calls (vs : Value) (s : St) (key : ByteArray) (w : World) (hs : Kd.state.V (vw w []) vs s) (hn : s.nodes.length ≤ 1000) :
    Calls Try.prog 17 #[vs, .string key] w (DomsDone (domsV s.nodes key) w) := by
  obtain ⟨i0, hi, hz0, hz1, hz2⟩ := info_parts info_str
  obtain ⟨cs, rfl, hks⟩ := hs
  obtain ⟨A1, c1, A2, c2, A3, c3, rfl, s1, -, -⟩ := hks
  have S1 := Lib.hid s1
  clear s1
  go_enter Try.func17, Try.ntmps17
  go_wp2
  obtain ⟨W, hW⟩ : ∃ W : World, W = w.alloc (.cells #[.slice A1 s.nodes.length c1, .slice A2 s.pods.length c2, .slice A3 s.budgets.length c3] 51) := ⟨_, rfl⟩
  rw [← hW]
  have hbw : Below w.heap.size w W := by rw [hW]; exact alloc_below _ _
  have k1 : W.heap[w.heap.size]? = some (.cells #[.slice A1 s.nodes.length c1, .slice A2 s.pods.length c2, .slice A3 s.budgets.length c3] 51 (0, 0)) := by
    rw [hW]; exact blk_last _ _
  have HK0 := Lib.hid k1
  have HBW := Lib.hid hbw
  clear hbw k1 hW
  go_wp2
  go_loopw [5, 6] (fun o i wr => ∃ k : Nat, k ≤ s.nodes.length ∧ i = .int .i64 k ∧ Hid (wr.ownsRow W.heap.size 9 1 o (domsV (s.nodes.take k) key).length ((domsV (s.nodes.take k) key).map encStr)) ∧ Hid (Below W.heap.size W wr)) (fun _ i _ => s.nodes.length - (intOf i).toNat)
  case atStart => exact ⟨0, Nat.zero_le _, rfl, World.ownsRow_nil _ _ _ _, Below.refl _ _⟩
  case round =>
    obtain ⟨k, hk, rfl, HO, HB⟩ := hrel
    have q1 := (HB.out.block _ (blk_lt HK0.out)).trans HK0.out
    obtain ⟨z, zf⟩ := blk_all q1
    clear q1
    by_cases hlt : k < s.nodes.length
    · have hdl : (domsV (s.nodes.take k) key).length ≤ k := by
        have := domsV_len (s.nodes.take k) key
        rw [List.length_take] at this; omega
      have hsn := domsV_snoc s.nodes key hlt
      obtain ⟨b, off, cs, rfl, hn2, hc⟩ := S1.out.both (Below.then HBW.out HB.out) k hlt
      obtain ⟨x, hx⟩ : ∃ x, s.nodes[k] = x := ⟨_, rfl⟩
      rw [hx] at hn2 hsn
      obtain ⟨D1, g1, D2, g2, D3, g3, rfl, -, -, t2, -⟩ := hn2
      have T2 : Hid (Kd.pair.S (vw w []) (.slice D2 x.labels.length g2) x.labels) := t2
      have m2 : wr.cell? ⟨b, off + k * 5 + 2, none⟩ = some (.slice D2 x.labels.length g2) := hc 2 _ rfl
      obtain ⟨d, ok, hd⟩ : ∃ d ok, getV x.labels key = (d, ok) := ⟨_, _, rfl⟩
      rw [hd] at hsn
      have HD := Lib.hid hd
      obtain ⟨l, hl⟩ : ∃ l, domsV (s.nodes.take k) key = l := ⟨_, rfl⟩
      rw [hl] at hsn HO hdl
      have HSN := Lib.hid hsn
      clear hc hsn hx t2 hd hl
      have hsz := HB.out.size
      go_wp2_with fail
      refine (Label_calls _ x.labels key _ (T2.out.mono (vw_below (Below.then HBW.out HB.out)))).mono ?_
      unfold GetSame
      rw [HD.out]
      rintro e w2 ⟨rfl, rfl⟩
      clear m2
      simp only
      cases ok with
      | false =>
        have hs2 : domsV (s.nodes.take (k + 1)) key = l := by rw [HSN.out]; simp
        have HS2 := Lib.hid hs2
        clear hs2
        go_wp2
        go_roundw
        case rel => exact ⟨k + 1, by omega, by go_num, by rw [HS2.out]; exact HO, HB.out⟩
        case measure => simp [intOf]; omega
      | true =>
        have hs2 : domsV (s.nodes.take (k + 1)) key = insB (bs d) l := by rw [HSN.out]; simp
        have HS2 := Lib.hid hs2
        clear hs2
        clear z zf
        rcases own_view HO.out with ⟨rfl, rfl⟩ | ⟨g, c, rfl, hbg, hgl, hncap, hcm, hH⟩
        · have HS3 : Hid (domsV (s.nodes.take (k + 1)) key = [bs d]) := by show _ = _; rw [HS2.out]; rfl
          go_wp2
          go_loop [9] (fun j => j = .int .i64 0) (fun _ => 0)
          case atStart => rfl
          case round =>
            subst hrel
            go_wp2_with (at_builtin; refine wpList_app _ wr.heap.size 57 9 i0 (.string ⟨#[]⟩) 1 16 Try.underlying57 hi hz0 hz1 hz2 rfl (by decide) _ 0 [] (own_empty wr 9) none 0 _ [] rfl (fun _ => rfl) (fun ad h => by cases h) (fun u hu => by simp at hu) (by simp only [maxLen]; omega) (by omega) (by simp) _ _ rfl rfl rfl rfl ?_)
            intro v1 w1 ho1 hg1 hv1
            have HB1 := Lib.hid ((alloc_below wr (.cells #[] 9)).grown hg1 (by simp) (fun q hq => ((own_empty wr 9).lt q hq).1))
            have HO1 := Lib.hid ho1
            clear ho1 hg1 hv1
            have hz1' := HB1.out.size
            have N2 : ∀ ad, some (⟨w1.heap.size, 0, none⟩ : Addr) = some ad → ∀ j u, [Value.string d][j]? = some u → (w1.alloc (.cells #[.string d] 9)).cell? (ad.add j) = some u := fun ad h => by
              cases h
              exact one_new _ _ _
            go_wp2_with (at_builtin; refine wpList_app _ wr.heap.size 57 9 i0 (.string ⟨#[]⟩) 1 16 Try.underlying57 hi hz0 hz1 hz2 rfl (by decide) _ _ _ (HO1.out.alloc _) (some ⟨w1.heap.size, 0, none⟩) 1 1 [.string d] rfl (fun e => by cases e) N2 (by simp [Value.oneCell']) (by simp only [maxLen]; omega) (by omega) (by simp; omega) _ _ rfl rfl rfl rfl ?_)
            intro v2 w2 ho2 hg2 hv2
            have HB2 := Lib.hid ((HB1.out.alloc hz1' (.cells #[.string d] 9)).grown hg2 (by simp; omega) (fun q hq => (HO1.out.lt q hq).1))
            have HO2 := Lib.hid ho2
            clear ho2 hg2 hv2 N2
            have hz2' := HB2.out.size
            go_wp2_with (at_builtin; refine wpList_app _ wr.heap.size 57 9 i0 (.string ⟨#[]⟩) 1 16 Try.underlying57 hi hz0 hz1 hz2 rfl (by decide) _ _ _ HO2.out _ _ _ [] (by simp) (fun _ => rfl) (fun ad _ j u hu => by simp at hu) (fun u hu => by simp at hu) (by simp only [maxLen]; omega) (by omega) hz2' _ _ rfl rfl rfl rfl ?_)
            intro v3 w3 ho3 hg3 hv3
            have HB4 := Lib.hid (Below.then HB.out (HB2.out.grown hg3 hz2' (fun q hq => (HO2.out.lt q hq).1)))
            have HO4 : Hid (w3.ownsRow W.heap.size 9 1 v3 (domsV (s.nodes.take (k + 1)) key).length ((domsV (s.nodes.take (k + 1)) key).map encStr)) := by
              show World.ownsRow _ _ _ _ _ _ _
              rw [HS3.out]
              have ho4 := own_base ho3 hsz
              simpa [encStr, bs, List.map_take, List.map_drop] using ho4
            clear ho3 hg3 hv3
            go_wp2
            go_roundw
            case rel => exact ⟨k + 1, by omega, by go_num, HO4.out, HB4.out⟩
            case measure => simp [intOf]; omega
        · have HH := Lib.hid hH
          have HX := Lib.hid (And.intro hbg (And.intro hncap hcm))
          clear hH hbg hncap hcm
          go_wp2
          obtain ⟨wo, hwo⟩ : ∃ wo : World, wo = wr := ⟨_, rfl⟩
          go_loop [9] (fun j => ∃ q : Nat, q ≤ l.length ∧ j = .int .i64 q ∧ Hid (∀ i, (hi : i < l.length) → i < q → l[i] < bs d)) (fun j => l.length - (intOf j).toNat)
          case atStart => exact ⟨0, Nat.zero_le _, rfl, fun i _ h => absurd h (by omega)⟩
          case round =>
            obtain ⟨q, hq, rfl, HP⟩ := hrel
            by_cases hql : q < l.length
            · have c0 := HH.out q hql
              have hb1 : Op.bytesLess (ba l[q]).toList d.toList = decide (l[q] < bs d) := by
                rw [Proofs.bytesLess_eq, Lib.toList_data, Lib.toList_data]; rfl
              by_cases hlv : l[q] < bs d
              · rw [decide_eq_true hlv] at hb1
                have HLV := Lib.hid hlv
                clear hlv
                go_wp2
                go_round
                case rel => exact ⟨q + 1, by omega, by go_num, pass_next HP.out HLV.out⟩
                case measure => simp [intOf]; omega
              · rw [decide_eq_false hlv] at hb1
                by_cases hev : l[q] = bs d
                · have hb2 : ((ba l[q]).toList == d.toList) = true := by rw [hev]; exact str_beq rfl
                  have hs3 : domsV (s.nodes.take (k + 1)) key = l := by rw [HS2.out]; exact insB_same hql HP.out hev
                  have HS3 := Lib.hid hs3
                  clear hs3 hev hlv
                  go_wp2
                  go_roundw
                  case rel => exact ⟨k + 1, by omega, by go_num, by rw [HS3.out]; exact HO, HB.out⟩
                  case measure => simp [intOf]; omega
                · have hb2 : ((ba l[q]).toList == d.toList) = false := str_nbeq (fun h => hev (by rw [← h]; rfl))
                  have hs3 : domsV (s.nodes.take (k + 1)) key = l.take q ++ bs d :: l.drop q := by rw [HS2.out]; exact insB_here hql HP.out hlv hev
                  have HS3 := Lib.hid hs3
                  clear hs3 hev hlv
                  clear HP
                  have b1 : (0 : Int) ≤ (q : Int) := by omega
                  have b2 : (q : Int) ≤ (c : Int) := by have := HX.out.2.1; omega
                  have b3 : (q : Int) ≤ (l.length : Int) := by omega
                  have b4 : q ≤ c := by have := HX.out.2.1; omega
                  have b5 : l.length ≤ c := HX.out.2.1
                  have b6 : (l.length : Int) ≤ (c : Int) := by omega
                  have N0 : ((l.take q).map encStr).length = q * 1 := by rw [List.length_map, List.length_take]; omega
                  have N2 : ∀ ad, some (⟨g, 0, none⟩ : Addr) = some ad → ∀ j u, ((l.take q).map encStr)[j]? = some u → (wr.alloc (.cells #[] 9)).cell? (ad.add j) = some u := fun ad h j u hu => by
                    cases h
                    have := strs_take (strs_below HH.out hgl (alloc_below wr (.cells #[] 9))) q j u hu
                    by_cases hj : j = 0
                    · subst hj
                      simpa [Addr.add] using this
                    · simpa [Addr.add, hj] using this
                  go_wp2_with (at_builtin; refine wpList_app _ wr.heap.size 57 9 i0 (.string ⟨#[]⟩) 1 16 Try.underlying57 hi hz0 hz1 hz2 rfl (by decide) _ 0 [] (own_empty wr 9) (some ⟨g, 0, none⟩) q _ ((l.take q).map encStr) N0 (fun e => by cases e) N2 (strs_one _) (by simp only [maxLen]; omega) (by omega) (by simp) _ _ rfl rfl rfl rfl ?_)
                  intro v1 w1 ho1 hg1 hv1
                  have HB1 := Lib.hid ((alloc_below wr (.cells #[] 9)).grown hg1 (by simp) (fun q hq => ((own_empty wr 9).lt q hq).1))
                  have HO1 := Lib.hid ho1
                  clear ho1 hg1 hv1 N0 N2
                  have hz1' := HB1.out.size
                  have N2 : ∀ ad, some (⟨w1.heap.size, 0, none⟩ : Addr) = some ad → ∀ j u, [Value.string d][j]? = some u → (w1.alloc (.cells #[.string d] 9)).cell? (ad.add j) = some u := fun ad h => by
                    cases h
                    exact one_new _ _ _
                  go_wp2_with (at_builtin; refine wpList_app _ wr.heap.size 57 9 i0 (.string ⟨#[]⟩) 1 16 Try.underlying57 hi hz0 hz1 hz2 rfl (by decide) _ _ _ (HO1.out.alloc _) (some ⟨w1.heap.size, 0, none⟩) 1 1 [.string d] rfl (fun e => by cases e) N2 (by simp [Value.oneCell']) (by simp only [maxLen]; omega) (by omega) (by simp; omega) _ _ rfl rfl rfl rfl ?_)
                  intro v2 w2 ho2 hg2 hv2
                  have HB2 := Lib.hid ((HB1.out.alloc hz1' (.cells #[.string d] 9)).grown hg2 (by simp; omega) (fun q hq => (HO1.out.lt q hq).1))
                  have HO2 := Lib.hid ho2
                  clear ho2 hg2 hv2 N2
                  have hz2' := HB2.out.size
                  have HH2 := Lib.hid (strs_below HH.out hgl HB2.out)
                  have N0 : ((l.drop q).map encStr).length = (l.length - q) * 1 := by rw [List.length_map, List.length_drop]; omega
                  have N2 : ∀ ad, some (⟨g, q, none⟩ : Addr) = some ad → ∀ j u, ((l.drop q).map encStr)[j]? = some u → w2.cell? (ad.add j) = some u := fun ad h j u hu => by
                    cases h
                    have := strs_at HH2.out q j u hu
                    by_cases hj : j = 0
                    · subst hj
                      simpa [Addr.add] using this
                    · simpa [Addr.add, hj] using this
                  have hqc : ¬ c = q := by have := HX.out.2.1; omega
                  have hqc2 : ¬ q = c := fun h => hqc h.symm
                  have hqc3 : ¬ c - q = 0 := by have := HX.out.2.1; omega
                  go_wp2_with (at_builtin; refine wpList_app _ wr.heap.size 57 9 i0 (.string ⟨#[]⟩) 1 16 Try.underlying57 hi hz0 hz1 hz2 rfl (by decide) _ _ _ HO2.out (some ⟨g, q, none⟩) (l.length - q) _ ((l.drop q).map encStr) N0 (fun e => by cases e) N2 (strs_one _) (by simp only [maxLen]; omega) (by omega) hz2' _ _ rfl rfl rfl rfl ?_)
                  intro v3 w3 ho3 hg3 hv3
                  have HB4 := Lib.hid (Below.then HB.out (HB2.out.grown hg3 hz2' (fun q hq => (HO2.out.lt q hq).1)))
                  have HO4 : Hid (w3.ownsRow W.heap.size 9 1 v3 (domsV (s.nodes.take (k + 1)) key).length ((domsV (s.nodes.take (k + 1)) key).map encStr)) := by
                    show World.ownsRow _ _ _ _ _ _ _
                    rw [HS3.out, show (l.take q ++ bs d :: l.drop q).length = q + 1 + (l.length - q) by simp; omega, show (l.take q ++ bs d :: l.drop q).map encStr = (l.map encStr).take q ++ Value.string d :: (l.map encStr).drop q by simp [encStr, bs, List.map_take, List.map_drop]]
                    exact own_base ho3 hsz
                  clear ho3 hg3 hv3 N0 N2
                  go_wp2
                  go_roundw
                  case rel => exact ⟨k + 1, by omega, by go_num, HO4.out, HB4.out⟩
                  case measure => simp [intOf]; omega
            · obtain rfl : q = l.length := by omega
              have hs3 : domsV (s.nodes.take (k + 1)) key = l ++ [bs d] := by rw [HS2.out]; exact insB_all HP.out
              have HS3 := Lib.hid hs3
              clear hs3 HP
              have b1 : (0 : Int) ≤ (l.length : Int) := by omega
              have b2 : (l.length : Int) ≤ (c : Int) := by have := HX.out.2.1; omega
              have b5 : l.length ≤ c := HX.out.2.1
              have N0 : (l.map encStr).length = l.length * 1 := by rw [List.length_map]; omega
              have N2 : ∀ ad, some (⟨g, 0, none⟩ : Addr) = some ad → ∀ j u, (l.map encStr)[j]? = some u → (wr.alloc (.cells #[] 9)).cell? (ad.add j) = some u := fun ad h j u hu => by
                cases h
                have := strs_at (strs_below HH.out hgl (alloc_below wr (.cells #[] 9))) 0 j u (by simpa using hu)
                rw [Nat.zero_add] at this
                by_cases hj : j = 0
                · subst hj
                  simpa [Addr.add] using this
                · simpa [Addr.add, hj] using this
              by_cases hcl : c = l.length
              · subst hcl
                go_wp2_with (at_builtin; refine wpList_app _ wr.heap.size 57 9 i0 (.string ⟨#[]⟩) 1 16 Try.underlying57 hi hz0 hz1 hz2 rfl (by decide) _ 0 [] (own_empty wr 9) (some ⟨g, 0, none⟩) l.length _ (l.map encStr) N0 (fun e => by cases e) N2 (strs_one _) (by simp only [maxLen]; omega) (by omega) (by simp) _ _ rfl rfl rfl rfl ?_)
                intro v1 w1 ho1 hg1 hv1
                clear N0 N2
                have HB1 := Lib.hid ((alloc_below wr (.cells #[] 9)).grown hg1 (by simp) (fun q hq => ((own_empty wr 9).lt q hq).1))
                have HO1 := Lib.hid ho1
                clear ho1 hg1 hv1
                have hz1' := HB1.out.size
                have N2 : ∀ ad, some (⟨w1.heap.size, 0, none⟩ : Addr) = some ad → ∀ j u, [Value.string d][j]? = some u → (w1.alloc (.cells #[.string d] 9)).cell? (ad.add j) = some u := fun ad h => by
                  cases h
                  exact one_new _ _ _
                go_wp2_with (at_builtin; refine wpList_app _ wr.heap.size 57 9 i0 (.string ⟨#[]⟩) 1 16 Try.underlying57 hi hz0 hz1 hz2 rfl (by decide) _ _ _ (HO1.out.alloc _) (some ⟨w1.heap.size, 0, none⟩) 1 1 [.string d] rfl (fun e => by cases e) N2 (by simp [Value.oneCell']) (by simp only [maxLen]; omega) (by omega) (by simp; omega) _ _ rfl rfl rfl rfl ?_)
                intro v2 w2 ho2 hg2 hv2
                have HB2 := Lib.hid ((HB1.out.alloc hz1' (.cells #[.string d] 9)).grown hg2 (by simp; omega) (fun q hq => (HO1.out.lt q hq).1))
                have HO2 := Lib.hid ho2
                clear ho2 hg2 hv2 N2
                have hz2' := HB2.out.size
                go_wp2_with (at_builtin; refine wpList_app _ wr.heap.size 57 9 i0 (.string ⟨#[]⟩) 1 16 Try.underlying57 hi hz0 hz1 hz2 rfl (by decide) _ _ _ HO2.out _ _ _ [] (by simp) (fun e => by cases e) (fun ad _ j u hu => by simp at hu) (fun u hu => by simp at hu) (by simp only [maxLen]; omega) (by omega) hz2' _ _ rfl rfl rfl rfl ?_)
                intro v3 w3 ho3 hg3 hv3
                have HB4 := Lib.hid (Below.then HB.out (HB2.out.grown hg3 hz2' (fun q hq => (HO2.out.lt q hq).1)))
                have HO4 : Hid (w3.ownsRow W.heap.size 9 1 v3 (domsV (s.nodes.take (k + 1)) key).length ((domsV (s.nodes.take (k + 1)) key).map encStr)) := by
                  show World.ownsRow _ _ _ _ _ _ _
                  rw [HS3.out]
                  have ho4 := own_base ho3 hsz
                  simpa [encStr, bs, List.map_take, List.map_drop] using ho4
                clear ho3 hg3 hv3
                go_wp2
                go_roundw
                case rel => exact ⟨k + 1, by omega, by go_num, HO4.out, HB4.out⟩
                case measure => simp [intOf]; omega
              · have hcl2 : ¬ l.length = c := fun h => hcl h.symm
                have hcl3 : ¬ c - l.length = 0 := by omega
                go_wp2_with (at_builtin; refine wpList_app _ wr.heap.size 57 9 i0 (.string ⟨#[]⟩) 1 16 Try.underlying57 hi hz0 hz1 hz2 rfl (by decide) _ 0 [] (own_empty wr 9) (some ⟨g, 0, none⟩) l.length _ (l.map encStr) N0 (fun e => by cases e) N2 (strs_one _) (by simp only [maxLen]; omega) (by omega) (by simp) _ _ rfl rfl rfl rfl ?_)
                intro v1 w1 ho1 hg1 hv1
                clear N0 N2
                have HB1 := Lib.hid ((alloc_below wr (.cells #[] 9)).grown hg1 (by simp) (fun q hq => ((own_empty wr 9).lt q hq).1))
                have HO1 := Lib.hid ho1
                clear ho1 hg1 hv1
                have hz1' := HB1.out.size
                have N2 : ∀ ad, some (⟨w1.heap.size, 0, none⟩ : Addr) = some ad → ∀ j u, [Value.string d][j]? = some u → (w1.alloc (.cells #[.string d] 9)).cell? (ad.add j) = some u := fun ad h => by
                  cases h
                  exact one_new _ _ _
                go_wp2_with (at_builtin; refine wpList_app _ wr.heap.size 57 9 i0 (.string ⟨#[]⟩) 1 16 Try.underlying57 hi hz0 hz1 hz2 rfl (by decide) _ _ _ (HO1.out.alloc _) (some ⟨w1.heap.size, 0, none⟩) 1 1 [.string d] rfl (fun e => by cases e) N2 (by simp [Value.oneCell']) (by simp only [maxLen]; omega) (by omega) (by simp; omega) _ _ rfl rfl rfl rfl ?_)
                intro v2 w2 ho2 hg2 hv2
                have HB2 := Lib.hid ((HB1.out.alloc hz1' (.cells #[.string d] 9)).grown hg2 (by simp; omega) (fun q hq => (HO1.out.lt q hq).1))
                have HO2 := Lib.hid ho2
                clear ho2 hg2 hv2 N2
                have hz2' := HB2.out.size
                go_wp2_with (at_builtin; refine wpList_app _ wr.heap.size 57 9 i0 (.string ⟨#[]⟩) 1 16 Try.underlying57 hi hz0 hz1 hz2 rfl (by decide) _ _ _ HO2.out _ _ _ [] (by simp) (fun e => by cases e) (fun ad _ j u hu => by simp at hu) (fun u hu => by simp at hu) (by simp only [maxLen]; omega) (by omega) hz2' _ _ rfl rfl rfl rfl ?_)
                intro v3 w3 ho3 hg3 hv3
                have HB4 := Lib.hid (Below.then HB.out (HB2.out.grown hg3 hz2' (fun q hq => (HO2.out.lt q hq).1)))
                have HO4 : Hid (w3.ownsRow W.heap.size 9 1 v3 (domsV (s.nodes.take (k + 1)) key).length ((domsV (s.nodes.take (k + 1)) key).map encStr)) := by
                  show World.ownsRow _ _ _ _ _ _ _
                  rw [HS3.out]
                  have ho4 := own_base ho3 hsz
                  simpa [encStr, bs, List.map_take, List.map_drop] using ho4
                clear ho3 hg3 hv3
                go_wp2
                go_roundw
                case rel => exact ⟨k + 1, by omega, by go_num, HO4.out, HB4.out⟩
                case measure => simp [intOf]; omega
    · obtain rfl : k = s.nodes.length := by omega
      have ho := HO.out
      rw [List.take_length] at ho
      have HO3 := Lib.hid (own_base ho HBW.out.size)
      have HB3 := Lib.hid (Below.then HBW.out HB.out)
      clear ho HO
      go_wp2
      go_ret
      exact ⟨_, rfl, HO3.out, HB3.out⟩
end Go.Proofs.Ytfbmfjmnpfidoaa
namespace Go.Proofs.Ytfbmfjmnpfidoaa
open Go.RowKit

theorem countV_none (s : St) (p : Pd) (dom : ByteArray) (l : List Pd) (h : p.owner = ⟨#[]⟩) : countV s p dom l = 0 := by
  unfold countV
  rw [List.countP_eq_zero]
  intro x _
  simp [other, h]
set_option maxHeartbeats 4000000 in
set_option maxRecDepth 100000 in
theorem rCount_calls (vs vp : Value) (s : St) (p : Pd) (dom : ByteArray) (w : World) (hs : Kd.state.V (vw w []) vs s) (hp : Kd.pod.V (vw w []) vp p) :
    Calls Try.prog 19 #[vs, vp, .string dom] w (CountDone (countV s p dom s.pods) w) := by
  obtain ⟨cs, rfl, hks⟩ := hs
  obtain ⟨cp, rfl, hkp⟩ := hp
  obtain ⟨A1, c1, A2, c2, A3, c3, rfl, s1, s2, -⟩ := hks
  obtain ⟨P1, p1, P2, p2, P3, p3, P4, p4, rfl, -⟩ := hkp
  obtain ⟨-, f2, f2'⟩ := s2.form
  have S1 := Lib.hid s1
  have S2 := Lib.hid s2
  clear s2 s1
  go_enter Try.func19, Try.ntmps19
  go_wp2
  obtain ⟨W, hW⟩ : ∃ W : World, W = ((w.alloc (.cells #[.slice A1 s.nodes.length c1, .slice A2 s.pods.length c2, .slice A3 s.budgets.length c3] 51)).alloc (.cells #[.string p.name, .string p.owner, .int .i64 p.prio, .slice P1 p.need.length p1, .slice P2 p.labels.length p2, .slice P3 p.sel.length p3, .slice P4 p.tols.length p4, .string p.key, .int .i64 p.most, .string p.node, .bool p.hold] 45)) := ⟨_, rfl⟩
  rw [← hW]
  have hbw : Below w.heap.size w W := by rw [hW]; exact Below.then (alloc_below _ _) (alloc_below _ _)
  have k1 : W.heap[w.heap.size]? = some (.cells #[.slice A1 s.nodes.length c1, .slice A2 s.pods.length c2, .slice A3 s.budgets.length c3] 51 (0, 0)) := by
    rw [hW]; exact (blk_old _ _ (by simp)).trans (blk_last _ _)
  have k2 : W.heap[w.heap.size + 1]? = some (.cells #[.string p.name, .string p.owner, .int .i64 p.prio, .slice P1 p.need.length p1, .slice P2 p.labels.length p2, .slice P3 p.sel.length p3, .slice P4 p.tols.length p4, .string p.key, .int .i64 p.most, .string p.node, .bool p.hold] 45 (0, 0)) := by
    rw [hW]
    have := blk_last (w.alloc (.cells #[.slice A1 s.nodes.length c1, .slice A2 s.pods.length c2, .slice A3 s.budgets.length c3] 51)) (.cells #[.string p.name, .string p.owner, .int .i64 p.prio, .slice P1 p.need.length p1, .slice P2 p.labels.length p2, .slice P3 p.sel.length p3, .slice P4 p.tols.length p4, .string p.key, .int .i64 p.most, .string p.node, .bool p.hold] 45)
    simpa using this
  have HK0 := Lib.hid (And.intro k1 k2)
  have HBW := Lib.hid hbw
  clear hbw k1 k2 hW
  have e1 := empty_beq p.owner
  by_cases ha : p.owner = ⟨#[]⟩
  · have hz := countV_none s p dom s.pods ha
    rw [decide_eq_true ha] at e1
    have HZ := Lib.hid hz
    clear hz ha
    go_wp2
    go_loopw [7, 8] (fun n i wr => i = .int .i64 0 ∧ n = .int .i64 0 ∧ Hid (wr = W)) (fun _ _ _ => 0)
    case atStart => exact ⟨rfl, rfl, rfl⟩
    case round =>
      obtain ⟨rfl, rfl, HE⟩ := hrel
      have he := HE.out
      subst he
      obtain ⟨z, zf⟩ := blk_all HK0.out.1
      obtain ⟨y, yf⟩ := blk_all HK0.out.2
      by_cases hl : 0 < s.pods.length
      · go_wp2
        go_ret
        exact ⟨by rw [HZ.out]; rfl, HBW.out⟩
      · go_wp2
        go_ret
        exact ⟨by rw [HZ.out]; rfl, HBW.out⟩
  rw [decide_eq_false ha] at e1
  have HA := Lib.hid ha
  clear ha
  go_wp2
  go_loopw [7, 8] (fun n i wr => ∃ k : Nat, k ≤ s.pods.length ∧ i = .int .i64 k ∧ n = .int .i64 (countV s p dom (s.pods.take k) : Nat) ∧ Hid (Below W.heap.size W wr)) (fun _ i _ => s.pods.length - (intOf i).toNat)
  case atStart => exact ⟨0, Nat.zero_le _, rfl, rfl, Below.refl _ _⟩
  case round =>
    obtain ⟨k, hk, rfl, rfl, HB⟩ := hrel
    have q1 := (HB.out.block _ (blk_lt HK0.out.1)).trans HK0.out.1
    have q2 := (HB.out.block _ (blk_lt HK0.out.2)).trans HK0.out.2
    obtain ⟨z, zf⟩ := blk_all q1
    obtain ⟨y, yf⟩ := blk_all q2
    have l1 := blk_lt q1
    have l2 := blk_lt q2
    have HQ := Lib.hid (And.intro q1 q2)
    clear q1 q2
    by_cases hlt : k < s.pods.length
    · have hcl := countV_le s p dom (s.pods.take k)
      rw [List.length_take] at hcl
      have hsn := countV_snoc s p dom hlt
      obtain ⟨b, off, cs, rfl, hn, hc⟩ := S2.out.both (Below.then HBW.out HB.out) k hlt
      obtain ⟨x, hx⟩ : ∃ x, s.pods[k] = x := ⟨_, rfl⟩
      rw [hx] at hn hsn
      obtain ⟨B1, d1, B2, d2, B3, d3, B4, d4, rfl, -⟩ := hn
      have HC : Hid (wr.rangeAt b (off + k * 11) _) := hc
      have HSN := Lib.hid hsn
      clear hc hsn hx
      have e2 := empty_beq x.node
      have e3 : (!x.owner.toList == p.owner.toList) = !decide (x.owner = p.owner) := by
        by_cases h : x.owner = p.owner
        · rw [str_beq h, decide_eq_true h]
        · rw [str_nbeq h, decide_eq_false h]
      have e4 : (x.name.toList == p.name.toList) = decide (x.name = p.name) := by
        by_cases h : x.name = p.name
        · rw [str_beq h, decide_eq_true h]
        · rw [str_nbeq h, decide_eq_false h]
      have hother : other p x = (!decide (p.owner = ⟨#[]⟩) && (decide (x.owner = p.owner) && (!x.hold && (!decide (x.name = p.name) && !decide (x.node = ⟨#[]⟩))))) := rfl
      rw [decide_eq_false HA.out] at hother
      obtain ⟨o, ho⟩ : ∃ o, decide (x.owner = p.owner) = o := ⟨_, rfl⟩
      obtain ⟨c, hc⟩ : ∃ c, x.hold = c := ⟨_, rfl⟩
      obtain ⟨d, hd⟩ : ∃ d, decide (x.name = p.name) = d := ⟨_, rfl⟩
      obtain ⟨f, hf⟩ : ∃ f, decide (x.node = ⟨#[]⟩) = f := ⟨_, rfl⟩
      rw [ho] at e3 hother
      rw [hc] at HC hother
      rw [hd] at e4 hother
      rw [hf] at e2 hother
      have HO := Lib.hid hother
      clear hother ho hc hd hf
      have Z0 : other p x = false → Hid (countV s p dom (s.pods.take (k + 1)) = countV s p dom (s.pods.take k)) := fun h => by
        show _ = _
        rw [HSN.out, h]; simp
      have HB2 : Hid (Below W.heap.size W (wr.alloc (.cells #[.string x.name, .string x.owner, .int .i64 x.prio, .slice B1 x.need.length d1, .slice B2 x.labels.length d2, .slice B3 x.sel.length d3, .slice B4 x.tols.length d4, .string x.key, .int .i64 x.most, .string x.node, .bool c] 45))) := Below.then HB.out (alloc_below _ _)
      go_upto_region 6 with (with_reducible refine wpList_load_mid rfl 45 _ rfl b (off + k * 11) rfl _ _ HC.out Try.underlying45 rfl (by kernel_rfl) ?_)
      cases o with
      | false =>
        go_wp2
        go_roundw
        case rel => exact ⟨k + 1, by omega, by go_num, by rw [(Z0 (by rw [HO.out]; rfl)).out], HB2.out⟩
        case measure => simp [intOf]; omega
      | true =>
        cases c with
        | true =>
          go_wp2
          go_roundw
          case rel => exact ⟨k + 1, by omega, by go_num, by rw [(Z0 (by rw [HO.out]; rfl)).out], HB2.out⟩
          case measure => simp [intOf]; omega
        | false =>
          cases d with
          | true =>
            go_wp2
            go_roundw
            case rel => exact ⟨k + 1, by omega, by go_num, by rw [(Z0 (by rw [HO.out]; rfl)).out], HB2.out⟩
            case measure => simp [intOf]; omega
          | false =>
            cases f with
            | true =>
              go_wp2
              go_roundw
              case rel => exact ⟨k + 1, by omega, by go_num, by rw [(Z0 (by rw [HO.out]; rfl)).out], HB2.out⟩
              case measure => simp [intOf]; omega
            | false =>
              have HS1 : Hid (Kd.node.S (vw (wr.alloc (.cells #[.string x.name, .string x.owner, .int .i64 x.prio, .slice B1 x.need.length d1, .slice B2 x.labels.length d2, .slice B3 x.sel.length d3, .slice B4 x.tols.length d4, .string x.key, .int .i64 x.most, .string x.node, .bool false] 45)) []) (.slice A1 s.nodes.length c1) s.nodes) := S1.out.mono (vw_below (Below.then HBW.out HB2.out))
              have hg0 : (domV s x.node p.key) = domV s x.node p.key := rfl
              obtain ⟨dd, ok, hd⟩ : ∃ dd ok, domV s x.node p.key = (dd, ok) := ⟨_, _, rfl⟩
              have hcn : countV s p dom (s.pods.take (k + 1)) = countV s p dom (s.pods.take k) + if (ok && decide (dd = dom)) = true then 1 else 0 := by
                rw [HSN.out, HO.out]
                unfold inDom
                rw [hd]; simp
              have HD := Lib.hid hd
              have HCN := Lib.hid hcn
              clear hg0 hd hcn
              generalize hU : wr.alloc (.cells #[.string x.name, .string x.owner, .int .i64 x.prio, .slice B1 x.need.length d1, .slice B2 x.labels.length d2, .slice B3 x.sel.length d3, .slice B4 x.tols.length d4, .string x.key, .int .i64 x.most, .string x.node, .bool false] 45) = U at HB2 HS1 ⊢
              have hus : U.heap.size = wr.heap.size + 1 := by rw [← hU]; simp
              have hub : U.heap[wr.heap.size]? = some (.cells #[.string x.name, .string x.owner, .int .i64 x.prio, .slice B1 x.need.length d1, .slice B2 x.labels.length d2, .slice B3 x.sel.length d3, .slice B4 x.tols.length d4, .string x.key, .int .i64 x.most, .string x.node, .bool false] 45 (0, 0)) := by rw [← hU]; exact blk_last _ _
              have hue : Below wr.heap.size wr U := by rw [← hU]; exact alloc_below _ _
              have u1 := (hue.block _ l1).trans HQ.out.1
              have u2 := (hue.block _ l2).trans HQ.out.2
              obtain ⟨z', zf'⟩ := blk_all u1
              obtain ⟨y', yf'⟩ := blk_all u2
              obtain ⟨v', vf'⟩ := blk_all hub
              have HU := Lib.hid (And.intro u1 (And.intro u2 hub))
              clear hU z zf y yf hue u1 u2 hub
              go_wp2_with fail
              refine (FindNode_calls _ s.nodes x.node _ HS1.out).mono ?_
              rintro e w1 ⟨cs, rfl, hk1, hb⟩
              obtain ⟨D1, g1, D2, g2, D3, g3, rfl, -, -, t2, -⟩ := hk1
              have T2 := Lib.hid t2
              have HB3 := Lib.hid (Below.then HB2.out hb)
              have u2 := (hb.block _ (blk_lt HU.out.2.1)).trans HU.out.2.1
              obtain ⟨y, yf⟩ := blk_all u2
              have l2' := blk_lt u2
              clear hb t2 z' zf' y' yf' v' vf' u2
              go_wp2_with fail
              refine (Label_calls _ (findV s.nodes x.node).1.labels p.key _ (T2.out.mono (vw_alloc _))).mono ?_
              unfold GetSame
              rw [show getV (findV s.nodes x.node).1.labels p.key = (dd, ok) from HD.out]
              rintro e w2 ⟨rfl, rfl⟩
              have HB4 := Lib.hid (Below.then HB3.out (alloc_below w1 (.cells #[.string (findV s.nodes x.node).1.name, .slice D1 (findV s.nodes x.node).1.cap.length g1, .slice D2 (findV s.nodes x.node).1.labels.length g2, .slice D3 (findV s.nodes x.node).1.taints.length g3, .bool (findV s.nodes x.node).1.cordon] 99)))
              simp only
              have hokk : (findV s.nodes x.node).2 = false → ok = false := fun h => by
                have h1 : (findV s.nodes x.node).1 = zNd := find_none h
                have h2 : getV (findV s.nodes x.node).1.labels p.key = (dd, ok) := HD.out
                rw [h1] at h2
                have h3 : getV zNd.labels p.key = (⟨#[]⟩, false) := rfl
                rw [h3] at h2
                injection h2 with _ h2
                exact h2.symm
              obtain ⟨fk, hfk⟩ : ∃ fk, (findV s.nodes x.node).2 = fk := ⟨_, rfl⟩
              rw [hfk] at hokk ⊢
              clear hfk
              have e5 : (dd.toList == dom.toList) = decide (dd = dom) := by
                by_cases h : dd = dom
                · rw [str_beq h, decide_eq_true h]
                · rw [str_nbeq h, decide_eq_false h]
              obtain ⟨q, hq⟩ : ∃ q, decide (dd = dom) = q := ⟨_, rfl⟩
              rw [hq] at e5 HCN
              clear hq y yf
              have fin0 : (ok && q) = false → Hid (countV s p dom (s.pods.take (k + 1)) = countV s p dom (s.pods.take k)) := fun h => by
                show _ = _
                rw [HCN.out, h]; simp
              cases ok with
              | false =>
                cases fk with
                | false =>
                  clear hokk
                  go_wp2
                  go_roundw
                  case rel => exact ⟨k + 1, by omega, by go_num, by rw [(fin0 rfl).out], HB4.out⟩
                  case measure => simp [intOf]; omega
                | true =>
                  clear hokk
                  go_wp2
                  go_roundw
                  case rel => exact ⟨k + 1, by omega, by go_num, by rw [(fin0 rfl).out], HB4.out⟩
                  case measure => simp [intOf]; omega
              | true =>
                cases fk with
                | false => exact absurd (hokk rfl) (by simp)
                | true =>
                  clear hokk
                  cases q with
                  | false =>
                    go_wp2
                    go_roundw
                    case rel => exact ⟨k + 1, by omega, by go_num, by rw [(fin0 rfl).out], HB4.out⟩
                    case measure => simp [intOf]; omega
                  | true =>
                    have hr : countV s p dom (s.pods.take (k + 1)) = countV s p dom (s.pods.take k) + 1 := HCN.out
                    have HR := Lib.hid hr
                    clear hr
                    go_wp2
                    go_roundw
                    case rel => exact ⟨k + 1, by omega, by go_num, by rw [HR.out, Int.natCast_add]; rfl, HB4.out⟩
                    case measure => simp [intOf]; omega
    · obtain rfl : k = s.pods.length := by omega
      have HX : Hid (s.pods.take s.pods.length = s.pods) := List.take_length
      have HB3 := Lib.hid (Below.then HBW.out HB.out)
      go_wp2
      go_ret
      rw [HX.out]
      exact ⟨rfl, HB3.out⟩
end Go.Proofs.Ytfbmfjmnpfidoaa
namespace Go.Proofs.Ytfbmfjmnpfidoaa
open Go.RowKit

/-! How much closer a pod would stand than it might. -/
def leastV (s : St) (p : Pd) (own : ByteArray) (here : Nat) (l : List (List UInt8)) : Nat := l.foldl (fun a d => if ba d = own then a else min a (countV s p (ba d) s.pods)) here
theorem leastV_snoc (s : St) (p : Pd) (own : ByteArray) (here : Nat) {l : List (List UInt8)} {k : Nat} (h : k < l.length) :
    leastV s p own here (l.take (k + 1)) = if ba l[k] = own then leastV s p own here (l.take k) else min (leastV s p own here (l.take k)) (countV s p (ba l[k]) s.pods) := by
  unfold leastV
  rw [List.take_succ_eq_append_getElem h, List.foldl_append]; rfl
theorem leastV_le (s : St) (p : Pd) (own : ByteArray) (here : Nat) : ∀ l : List (List UInt8), leastV s p own here l ≤ here := fun l => by
  have key : ∀ (l : List (List UInt8)) (a : Nat), l.foldl (fun a d => if ba d = own then a else min a (countV s p (ba d) s.pods)) a ≤ a := by
    intro l
    induction l with
    | nil => exact fun a => Nat.le_refl _
    | cons d r ih =>
      intro a
      rw [List.foldl_cons]
      refine Nat.le_trans (ih _) ?_
      split
      · exact Nat.le_refl _
      · exact Nat.min_le_left _ _
  exact key l here
def hereV (s : St) (p : Pd) (own : ByteArray) : Nat := countV s p own s.pods + 1
def skewV (s : St) (p : Pd) (name : ByteArray) : Int × Bool :=
  if p.key = ⟨#[]⟩ then (0, true)
  else if (domV s name p.key).2 then ((hereV s p (domV s name p.key).1 : Int) - leastV s p (domV s name p.key).1 (hereV s p (domV s name p.key).1) (domsV s.nodes p.key), true)
  else (0, false)
def SkewDone (s : St) (p : Pd) (name : ByteArray) (w : World) (e : Ending) (w' : World) : Prop := e = .returned (.tuple #[.int .i64 (skewV s p name).1, .bool (skewV s p name).2]) ∧ Below w.heap.size w w'
end Go.Proofs.Ytfbmfjmnpfidoaa
namespace Go.Proofs.Ytfbmfjmnpfidoaa
open Go.RowKit

/-! What Check tells, in plain words; the sums over domains. -/
theorem orV_zero {a b : Int} (h : orV a b = 0) : a = 0 ∧ b = 0 := by
  unfold orV at h
  by_cases k : a ≠ 0
  · rw [if_pos k] at h; exact absurd h k
  · rw [if_neg k] at h; exact ⟨Decidable.not_not.1 k, h⟩
theorem manyV_zero {α : Type} {lim : Nat} {l : List α} {n : Int} (h : manyV lim l n = 0) : l.length ≤ lim ∧ n = 0 := by
  unfold manyV at h
  split at h
  · cases h
  · exact ⟨by omega, h⟩
theorem ltS_trans {a b c : ByteArray} (h : ltS a b = true) (k : ltS b c = true) : ltS a c = true := by
  unfold ltS at *
  simp only [decide_eq_true_eq] at *
  exact Std.lt_of_lt_of_le h (Std.le_of_lt k)
theorem ltS_ne {a b : ByteArray} (h : ltS a b = true) : a ≠ b := by
  rintro rfl
  unfold ltS at h
  simp only [decide_eq_true_eq] at h
  exact Std.lt_irrefl h
theorem rowsV_zero {α : Type} {f : α → Int} {nm : α → ByteArray} : ∀ {l : List α} {p : Option ByteArray}, rowsV f nm p l = 0 →
    (∀ x ∈ l, f x = 0) ∧ l.Pairwise (fun a b => ltS (nm a) (nm b) = true) ∧ ∀ q, p = some q → ∀ x ∈ l, ltS q (nm x) = true
  | [], _, _ => ⟨fun _ h => (by cases h), List.Pairwise.nil, fun _ _ _ h => (by cases h)⟩
  | x :: r, p, h => by
    unfold rowsV at h
    obtain ⟨h1, h2⟩ := orV_zero h
    split at h2
    · cases h2
    · rename_i hl
      obtain ⟨i1, i2, i3⟩ := rowsV_zero h2
      have hx := i3 (nm x) rfl
      refine ⟨fun y hy => ?_, List.pairwise_cons.2 ⟨hx, i2⟩, fun q hq y hy => ?_⟩
      · rcases List.mem_cons.1 hy with rfl | hy
        · exact h1
        · exact i1 y hy
      · subst hq
        have h3 : ltS q (nm x) = true := by
          cases hc : ltS q (nm x) with
          | true => rfl
          | false => exact absurd (show (!ltS q (nm x)) = true by rw [hc]; rfl) hl
        rcases List.mem_cons.1 hy with rfl | hy
        · exact h3
        · exact ltS_trans h3 (hx y hy)
theorem check_parts {s : St} (h : checkSt s = 0) : checkNodes s.nodes = 0 ∧ checkPods s.pods = 0 := by
  unfold checkSt at h
  obtain ⟨h1, h⟩ := orV_zero h
  exact ⟨h1, (orV_zero h).1⟩
theorem check_labels {s : St} (h : checkSt s = 0) : ∀ n ∈ s.nodes, ∀ x ∈ n.labels, isName x.val = true := by
  intro n hn x hx
  have h1 := (manyV_zero (check_parts h).1).2
  have h2 := (rowsV_zero h1).1 n hn
  unfold checkNode at h2
  obtain ⟨-, h2⟩ := orV_zero h2
  obtain ⟨-, h2⟩ := orV_zero h2
  obtain ⟨h2, -⟩ := orV_zero h2
  have h3 := (rowsV_zero (manyV_zero h2).2).1 x hx
  unfold pairV at h3
  cases hv : isName x.val with
  | true => rfl
  | false => rw [hv] at h3; split at h3 <;> cases h3
theorem pods_names {s : St} (h : checkSt s = 0) : s.pods.Pairwise (fun a b => ltS a.name b.name = true) := (rowsV_zero (manyV_zero (check_parts h).2).2).2.1
theorem findV_mem : ∀ {l : List Nd} {k : ByteArray}, (findV l k).2 = true → (findV l k).1 ∈ l
  | n :: r, k, h => by
    unfold findV at *
    by_cases e : n.name = k
    · rw [if_pos e]; exact List.mem_cons_self ..
    · rw [if_neg e] at h ⊢; exact List.mem_cons_of_mem _ (findV_mem h)
theorem getV_mem : ∀ {l : List Pair} {k : ByteArray}, (getV l k).2 = true → ∃ x ∈ l, (getV l k).1 = x.val
  | p :: r, k, h => by
    unfold getV at *
    by_cases e : p.key = k
    · rw [if_pos e]; exact ⟨p, List.mem_cons_self .., rfl⟩
    · rw [if_neg e] at h ⊢
      obtain ⟨x, hx, e⟩ := getV_mem h
      exact ⟨x, List.mem_cons_of_mem _ hx, e⟩
theorem dom_found {s : St} {name key : ByteArray} (h : (domV s name key).2 = true) : (findV s.nodes name).2 = true := by
  cases hf : (findV s.nodes name).2 with
  | true => rfl
  | false =>
    unfold domV at h
    rw [find_none hf] at h
    cases h
theorem dom_mem {s : St} {name key : ByteArray} (h : (domV s name key).2 = true) : bs (domV s name key).1 ∈ domsV s.nodes key := by
  unfold domsV
  rw [insAll_mem]
  refine List.mem_map.2 ⟨(domV s name key).1, ?_, rfl⟩
  unfold domsL
  refine List.mem_filterMap.2 ⟨(findV s.nodes name).1, findV_mem (dom_found h), ?_⟩
  show (if (domV s name key).2 = true then some (domV s name key).1 else none) = _
  rw [if_pos h]
def blank : ByteArray := ⟨#[110, 111, 32, 119, 104, 101, 114, 101]⟩
theorem no_where {s : St} (h : checkSt s = 0) (p : Pd) (l : List Pd) : countV s p blank l = 0 := by
  unfold countV
  rw [List.countP_eq_zero]
  intro x _ hx
  simp only [Bool.and_eq_true] at hx
  obtain ⟨-, hd⟩ := hx
  unfold inDom at hd
  simp only [Bool.and_eq_true, decide_eq_true_eq] at hd
  obtain ⟨h1, h2⟩ := hd
  obtain ⟨y, hy, e⟩ := getV_mem (show (getV (findV s.nodes x.node).1.labels p.key).2 = true from h1)
  have hn := check_labels h _ (findV_mem (dom_found h1)) y hy
  rw [← e, show (getV (findV s.nodes x.node).1.labels p.key).1 = blank from h2] at hn
  revert hn
  decide
def sumC (s : St) (p : Pd) (l : List (List UInt8)) : Nat := (l.map fun d => countV s p (ba d) s.pods).sum
def wantV (s : St) (p : Pd) (l : List Pd) : Nat := l.countP fun x => other p x && (domV s x.node p.key).2
theorem sum_add {α : Type} (f g : α → Nat) : ∀ l : List α, (l.map fun d => f d + g d).sum = (l.map f).sum + (l.map g).sum
  | [] => rfl
  | a :: r => by simp only [List.map_cons, List.sum_cons, sum_add f g r]; omega
theorem sum_none {α : Type} (f : α → Nat) : ∀ l : List α, (∀ x ∈ l, f x = 0) → (l.map f).sum = 0
  | [], _ => rfl
  | a :: r, h => by rw [List.map_cons, List.sum_cons, h a (List.mem_cons_self ..), sum_none f r (fun x hx => h x (List.mem_cons_of_mem _ hx))]
theorem sum_one {v : List UInt8} : ∀ l : List (List UInt8), l.Nodup → v ∈ l → (l.map fun d => if d = v then 1 else 0).sum = 1
  | a :: r, hn, hv => by
    obtain ⟨h1, h2⟩ := List.nodup_cons.1 hn
    rw [List.map_cons, List.sum_cons]
    by_cases e : a = v
    · subst e
      rw [if_pos rfl, sum_none _ r (fun x hx => if_neg (fun k : x = a => h1 (k ▸ hx)))]
    · rw [if_neg e, sum_one r h2 ((List.mem_cons.1 hv).resolve_left (fun k => e k.symm))]
theorem rises_nodup {l : List (List UInt8)} (h : Rises l) : l.Nodup := List.Pairwise.imp (fun k e => by subst e; exact Std.lt_irrefl k) h
theorem one_dom (s : St) (p : Pd) (x : Pd) : ((domsV s.nodes p.key).map fun d => if (other p x && inDom s x.node p.key (ba d)) = true then 1 else 0).sum = if (other p x && (domV s x.node p.key).2) = true then 1 else 0 := by
  cases ho : other p x with
  | false => simp only [Bool.false_and]; exact (sum_none _ _ (fun _ _ => rfl)).trans rfl
  | true =>
    simp only [Bool.true_and]
    cases hd : (domV s x.node p.key).2 with
    | false =>
      rw [sum_none _ _ (fun d _ => by unfold inDom; rw [hd]; rfl)]
      rfl
    | true =>
      have he : ∀ d, (if inDom s x.node p.key (ba d) = true then 1 else 0) = if d = bs (domV s x.node p.key).1 then 1 else 0 := fun d => by
        have : inDom s x.node p.key (ba d) = decide (d = bs (domV s x.node p.key).1) := by
          unfold inDom
          rw [hd, Bool.true_and]
          by_cases e : d = bs (domV s x.node p.key).1
          · rw [decide_eq_true e, decide_eq_true (by rw [e]; rfl)]
          · rw [decide_eq_false e, decide_eq_false (fun k => e (by rw [k]; rfl))]
        rw [this]; simp
      simp only [he]
      rw [sum_one _ (rises_nodup (domsV_rises _ _)) (dom_mem hd)]
      rfl
theorem sums_at (s : St) (p : Pd) : ∀ l : List Pd, ((domsV s.nodes p.key).map fun d => countV s p (ba d) l).sum = wantV s p l
  | [] => sum_none _ _ (fun _ _ => rfl)
  | x :: r => by
    have h1 : ∀ d, countV s p (ba d) (x :: r) = countV s p (ba d) r + if (other p x && inDom s x.node p.key (ba d)) = true then 1 else 0 := fun d => List.countP_cons
    simp only [h1]
    rw [sum_add, sums_at s p r, one_dom]
    exact List.countP_cons.symm
theorem sums_eq (s : St) (p : Pd) : sumC s p (domsV s.nodes p.key) = wantV s p s.pods := sums_at s p s.pods
theorem sumC_snoc (s : St) (p : Pd) {l : List (List UInt8)} {k : Nat} (h : k < l.length) : sumC s p (l.take (k + 1)) = sumC s p (l.take k) + countV s p (ba l[k]) s.pods := by
  unfold sumC
  rw [List.take_succ_eq_append_getElem h, List.map_append, List.sum_append]
  simp
theorem sumC_le (s : St) (p : Pd) : ∀ l : List (List UInt8), sumC s p l ≤ l.length * s.pods.length
  | [] => by simp [sumC]
  | a :: r => by
    have h1 := sumC_le s p r
    have h2 := countV_le s p (ba a) s.pods
    unfold sumC at h1 ⊢
    rw [List.map_cons, List.sum_cons, List.length_cons, Nat.add_mul]
    omega
theorem wantV_snoc (s : St) (p : Pd) {l : List Pd} {k : Nat} (h : k < l.length) : wantV s p (l.take (k + 1)) = wantV s p (l.take k) + if (other p l[k] && (domV s l[k].node p.key).2) = true then 1 else 0 := by
  unfold wantV
  rw [List.take_succ_eq_append_getElem h, List.countP_append, List.countP_singleton]
theorem wantV_le (s : St) (p : Pd) (l : List Pd) : wantV s p l ≤ l.length := List.countP_le_length
end Go.Proofs.Ytfbmfjmnpfidoaa
namespace Go.Proofs.Ytfbmfjmnpfidoaa
open Go.RowKit

def SameDone (v : Value) (w : World) (e : Ending) (w' : World) : Prop := e = .returned v ∧ w = w'
theorem name_at {s : ByteArray} {k : Nat} (h : k < s.size) : (s.data.toList.drop k).all nameB = (nameB s[k] && (s.data.toList.drop (k + 1)).all nameB) := by
  rw [List.drop_eq_getElem_cons (by simpa using h)]; rfl
set_option maxHeartbeats 1000000 in
theorem IsName_calls (s : ByteArray) (w : World) (hs : s.size ≤ 140737488351232) :
    Calls Try.prog 35 #[.string s] w (SameDone (.bool (isName s)) w) := by
  by_cases h1 : s.size < 1
  · have HZ : Hid (isName s = false) := by show _ = _; unfold isName; rw [decide_eq_false (by omega)]; rfl
    go_enter Try.func35, Try.ntmps35
    go_wp2
    go_ret
    exact ⟨ret_bool HZ.out.symm, rfl⟩
  by_cases h2 : 12 < s.size
  · have HZ : Hid (isName s = false) := by show _ = _; unfold isName; rw [decide_eq_false (by omega : ¬ s.size ≤ 12)]; simp
    go_enter Try.func35, Try.ntmps35
    go_wp2
    go_ret
    exact ⟨ret_bool HZ.out.symm, rfl⟩
  have HZ : Hid (isName s = s.data.toList.all nameB) := by show _ = _; unfold isName; rw [decide_eq_true (by omega), decide_eq_true (by omega)]; rfl
  go_enter Try.func35, Try.ntmps35
  go_wp2
  go_loop [3] (fun i => ∃ k : Nat, k ≤ s.size ∧ i = .int .i64 k ∧ Hid ((s.data.toList.drop k).all nameB = s.data.toList.all nameB)) (fun i => s.size - (intOf i).toNat)
  case atStart => exact ⟨0, Nat.zero_le _, rfl, rfl⟩
  case round =>
    obtain ⟨k, hk, rfl, HR⟩ := hrel
    by_cases hlt : k < s.size
    · obtain ⟨x, hx⟩ : ∃ x : Nat, s[k].toNat = x := ⟨_, rfl⟩
      have hr := HR.out
      rw [name_at hlt] at hr
      have hn : nameB s[k] = (decide (97 ≤ x) && decide (x ≤ 122) || decide (48 ≤ x) && decide (x ≤ 57)) := by rw [← hx]; rfl
      have HX := Lib.hid hr
      have HN := Lib.hid hn
      clear hr hn
      by_cases hc : (97 ≤ x ∧ x ≤ 122) ∨ (48 ≤ x ∧ x ≤ 57)
      · have hy := HX.out
        rw [HN.out, show (decide (97 ≤ x) && decide (x ≤ 122) || decide (48 ≤ x) && decide (x ≤ 57)) = true by simp; omega, Bool.true_and] at hy
        have HY := Lib.hid hy
        clear hy
        go_wp2
        all_goals
          go_round
          case rel => exact ⟨k + 1, by omega, by go_num, HY.out⟩
          case measure => simp [intOf]; omega
      · have hy := HX.out
        rw [HN.out, show (decide (97 ≤ x) && decide (x ≤ 122) || decide (48 ≤ x) && decide (x ≤ 57)) = false by simp; omega, Bool.false_and] at hy
        have HY := Lib.hid (HZ.out.trans hy.symm)
        clear hy
        go_wp2
        all_goals
          go_ret
          exact ⟨ret_bool HY.out.symm, rfl⟩
    · obtain rfl : k = s.size := by omega
      have hr := HR.out
      rw [List.drop_of_length_le (by simp)] at hr
      have HY : Hid (isName s = true) := by show _ = _; rw [HZ.out, ← hr]; rfl
      clear hr
      go_wp2
      go_ret
      exact ⟨ret_bool HY.out.symm, rfl⟩
end Go.Proofs.Ytfbmfjmnpfidoaa
namespace Go.Proofs.Ytfbmfjmnpfidoaa
open Go.RowKit

theorem less_ltS (a b : ByteArray) : Op.bytesLess a.toList b.toList = ltS a b := by
  rw [Proofs.bytesLess_eq, Lib.toList_data, Lib.toList_data]; rfl
theorem le_ltS (a b : ByteArray) : (Op.bytesLess a.toList b.toList || (a.toList == b.toList)) = !ltS b a := by
  rw [less_ltS]
  unfold ltS
  rw [Bool.eq_iff_iff]
  simp only [Bool.or_eq_true, decide_eq_true_eq, Bool.not_eq_true', decide_eq_false_iff_not, beq_iff_eq, Lib.toList_data]
  constructor
  · rintro (h | h) k
    · exact Std.lt_irrefl (Std.lt_of_lt_of_le h (Std.le_of_lt k))
    · rw [h] at k; exact Std.lt_irrefl k
  · intro h
    by_cases e : a.data.toList = b.data.toList
    · exact .inr e
    · exact .inl (Std.lt_of_le_of_ne (Std.not_lt.1 h) e)
theorem ret_i {k : IntKind} {a b : Int} (h : a = b) : Ending.returned (.int k a) = .returned (.int k b) := by rw [h]
theorem manyV_big {α : Type} {lim : Nat} {l : List α} (h : lim < l.length) (n : Int) : manyV lim l n = 4 := if_pos h
theorem manyV_few {α : Type} {lim : Nat} {l : List α} (h : ¬ lim < l.length) (n : Int) : manyV lim l n = n := if_neg h
def NumDone (n : Int) (w : World) (e : Ending) (w' : World) : Prop := e = .returned (.int .i64 n) ∧ Below w.heap.size w w'
theorem drewN_then {w wr : World} (h : Below w.heap.size w wr) (n : Nat) : Below w.heap.size w (wr.drewN n) := below_drewN h n
set_option maxHeartbeats 2000000 in
theorem CheckVec_calls (v : Value) (l : List Amt) (w : World) (hs : Kd.amt.S (vw w []) v l) :
    Calls Try.prog 36 #[v] w (NumDone (checkVec l) w) := by
  obtain ⟨A, cap, rfl, hs⟩ := hs.val
  obtain ⟨-, hcap, hlen⟩ := hs.form
  have HS := Lib.hid hs
  clear hs
  go_enter Try.func36, Try.ntmps36
  by_cases h8 : 8 < l.length
  · have HZ : Hid (checkVec l = 4) := manyV_big h8 _
    go_wp2
    go_ret
    exact ⟨ret_i HZ.out.symm, Below.refl _ _⟩
  have HZ : Hid (checkVec l = rowsV amtV Amt.name none l) := manyV_few h8 _
  go_wp2
  go_loopw [3] (fun i wr => ∃ k : Nat, k ≤ l.length ∧ i = .int .i64 k ∧ Hid (rowsV amtV Amt.name (prevN Amt.name l k) (l.drop k) = checkVec l) ∧ Hid (Below w.heap.size w wr)) (fun i _ => l.length - (intOf i).toNat)
  case atStart => exact ⟨0, Nat.zero_le _, rfl, HZ.out.symm, Below.refl _ _⟩
  case round =>
    clear HZ
    obtain ⟨k, hk, rfl, HR, HB⟩ := hrel
    by_cases hlt : k < l.length
    · obtain ⟨b, off, rfl, hc, hp, hi1, hi2⟩ := (HS.out.mono (vw_below HB.out)).elemN k hlt
      have c0 : wr.cell? ⟨b, off + k * 2, none⟩ = some (.string l[k].name) := hc 0 _ rfl
      have c1 : wr.cell? ⟨b, off + k * 2 + 1, none⟩ = some (.int .i64 l[k].n) := hc 1 _ rfl
      have hr := HR.out
      rw [rowsV_at _ _ hlt] at hr
      have hav : amtV l[k] = if isName l[k].name = false then 3 else if l[k].n ≤ 0 then 1 else 0 := rfl
      obtain ⟨n1, hn1⟩ : ∃ n1, isName l[k].name = n1 := ⟨_, rfl⟩
      rw [hn1] at hav
      rw [hav] at hr
      have HX := Lib.hid hr
      have HN := Lib.hid hn1
      have HP := Lib.hid hp
      clear hr hc hav hn1 hp
      go_wp2_with fail
      refine (IsName_calls _ _ HP.out).mono ?_
      rintro e w' ⟨rfl, rfl⟩
      rw [HN.out]
      cases n1 with
      | false =>
        have HY : Hid (3 = checkVec l) := HX.out
        go_wp2
        go_ret
        exact ⟨ret_i HY.out, HB.out⟩
      | true =>
        by_cases hn0 : l[k].n ≤ 0
        · have hy := HX.out
          rw [if_neg (by decide), if_pos hn0] at hy
          have HY : Hid (1 = checkVec l) := hy
          clear hy
          go_wp2
          go_ret
          exact ⟨ret_i HY.out, HB.out⟩
        have hy := HX.out
        rw [if_neg (by decide), if_neg hn0, orV_r rfl] at hy
        by_cases hk0 : k = 0
        · subst hk0
          rw [tooLow_first, if_neg (by decide)] at hy
          have HY := Lib.hid hy
          clear hy
          go_wp2_with fail
          go_quiet (fail)
          go_wp2
          go_roundw
          case rel => exact ⟨0 + 1, by omega, by go_num, HY.out, drewN_then HB.out _⟩
          case measure => simp [intOf]; omega
        · rw [tooLow_next _ hlt (by omega), ← le_ltS] at hy
          obtain ⟨b', off', hA, hc', -⟩ := (HS.out.mono (vw_below HB.out)).elemN (k - 1) (by omega)
          injection hA with hA
          injection hA with e1 e2
          subst e1 e2
          have c2 : wr.cell? ⟨b, off + (k - 1) * 2, none⟩ = some (.string l[k - 1].name) := hc' 0 _ rfl
          obtain ⟨q, hq⟩ : ∃ q, (Op.bytesLess l[k].name.toList l[k - 1].name.toList || (l[k].name.toList == l[k - 1].name.toList)) = q := ⟨_, rfl⟩
          rw [hq] at hy
          clear hc'
          have hk1 : 0 < k := by omega
          have hk2 : ((k : Int) - 1).toNat = k - 1 := by omega
          cases q with
          | true =>
            have HY : Hid (13 = checkVec l) := hy
            clear hy
            go_wp2_with fail
            go_quiet (fail)
            go_wp2
            go_ret
            exact ⟨ret_i HY.out, drewN_then HB.out _⟩
          | false =>
            have HY : Hid (rowsV amtV Amt.name (prevN Amt.name l (k + 1)) (l.drop (k + 1)) = checkVec l) := hy
            clear hy
            go_wp2_with fail
            go_quiet (fail)
            go_wp2
            go_roundw
            case rel => exact ⟨k + 1, by omega, by go_num, HY.out, drewN_then HB.out _⟩
            case measure => simp [intOf]; omega
    · obtain rfl : k = l.length := by omega
      have hr := HR.out
      rw [List.drop_length] at hr
      have HY : Hid (0 = checkVec l) := hr
      clear hr
      go_wp2
      go_ret
      exact ⟨ret_i HY.out, HB.out⟩
end Go.Proofs.Ytfbmfjmnpfidoaa
namespace Go.Proofs.Ytfbmfjmnpfidoaa
open Go.RowKit

theorem alloc_then {w wr : World} (h : Below w.heap.size w wr) (o : Obj) : Below w.heap.size w (wr.alloc o) := Below.then h (alloc_below _ _)
set_option maxHeartbeats 2000000 in
theorem CheckSet_calls (v : Value) (l : List Pair) (w : World) (hs : Kd.pair.S (vw w []) v l) :
    Calls Try.prog 37 #[v] w (NumDone (checkSet l) w) := by
  obtain ⟨A, cap, rfl, hs⟩ := hs.val
  obtain ⟨-, hcap, hlen⟩ := hs.form
  have HS := Lib.hid hs
  clear hs
  go_enter Try.func37, Try.ntmps37
  by_cases h8 : 8 < l.length
  · have HZ : Hid (checkSet l = 4) := manyV_big h8 _
    go_wp2
    go_ret
    exact ⟨ret_i HZ.out.symm, Below.refl _ _⟩
  have HZ : Hid (checkSet l = rowsV pairV Pair.key none l) := manyV_few h8 _
  go_wp2
  go_loopw [3] (fun i wr => ∃ k : Nat, k ≤ l.length ∧ i = .int .i64 k ∧ Hid (rowsV pairV Pair.key (prevN Pair.key l k) (l.drop k) = checkSet l) ∧ Hid (Below w.heap.size w wr)) (fun i _ => l.length - (intOf i).toNat)
  case atStart => exact ⟨0, Nat.zero_le _, rfl, HZ.out.symm, Below.refl _ _⟩
  case round =>
    clear HZ
    obtain ⟨k, hk, rfl, HR, HB⟩ := hrel
    by_cases hlt : k < l.length
    · obtain ⟨b, off, rfl, hc, hp1, hp2⟩ := (HS.out.mono (vw_below HB.out)).elemN k hlt
      have c0 : wr.cell? ⟨b, off + k * 2, none⟩ = some (.string l[k].key) := hc 0 _ rfl
      have c1 : wr.cell? ⟨b, off + k * 2 + 1, none⟩ = some (.string l[k].val) := hc 1 _ rfl
      have hr := HR.out
      rw [rowsV_at _ _ hlt] at hr
      have hav : pairV l[k] = if isName l[k].key = false then 3 else if isName l[k].val = false then 3 else 0 := rfl
      obtain ⟨n1, hn1⟩ : ∃ n1, isName l[k].key = n1 := ⟨_, rfl⟩
      obtain ⟨n2, hn2⟩ : ∃ n2, isName l[k].val = n2 := ⟨_, rfl⟩
      rw [hn1, hn2] at hav
      rw [hav] at hr
      have HX := Lib.hid hr
      have HN1 := Lib.hid hn1
      have HN2 := Lib.hid hn2
      have HP1 := Lib.hid hp1
      have HP2 := Lib.hid hp2
      clear hr hc hav hn1 hn2 hp1 hp2
      go_wp2_with fail
      refine (IsName_calls _ _ HP1.out).mono ?_
      rintro e w' ⟨rfl, rfl⟩
      rw [HN1.out]
      cases n1 with
      | false =>
        have HY : Hid (3 = checkSet l) := HX.out
        go_wp2
        go_ret
        exact ⟨ret_i HY.out, HB.out⟩
      | true =>
        go_wp2_with fail
        refine (IsName_calls _ _ HP2.out).mono ?_
        rintro e w' ⟨rfl, rfl⟩
        rw [HN2.out]
        cases n2 with
        | false =>
          have HY : Hid (3 = checkSet l) := HX.out
          go_wp2
          go_ret
          exact ⟨ret_i HY.out, HB.out⟩
        | true =>
        have hy := HX.out
        rw [if_neg (by decide), if_neg (by decide), orV_r rfl] at hy
        by_cases hk0 : k = 0
        · subst hk0
          rw [tooLow_first, if_neg (by decide)] at hy
          have HY := Lib.hid hy
          clear hy
          go_wp2_with fail
          go_quiet (fail)
          go_wp2
          go_roundw
          case rel => exact ⟨0 + 1, by omega, by go_num, HY.out, drewN_then HB.out _⟩
          case measure => simp [intOf]; omega
        · rw [tooLow_next _ hlt (by omega), ← le_ltS] at hy
          obtain ⟨b', off', hA, hc', -⟩ := (HS.out.mono (vw_below HB.out)).elemN (k - 1) (by omega)
          injection hA with hA
          injection hA with e1 e2
          subst e1 e2
          have c2 : wr.cell? ⟨b, off + (k - 1) * 2, none⟩ = some (.string l[k - 1].key) := hc' 0 _ rfl
          obtain ⟨q, hq⟩ : ∃ q, (Op.bytesLess l[k].key.toList l[k - 1].key.toList || (l[k].key.toList == l[k - 1].key.toList)) = q := ⟨_, rfl⟩
          rw [hq] at hy
          clear hc'
          have hk1 : 0 < k := by omega
          have hk2 : ((k : Int) - 1).toNat = k - 1 := by omega
          cases q with
          | true =>
            have HY : Hid (13 = checkSet l) := hy
            clear hy
            go_wp2_with fail
            go_quiet (fail)
            go_wp2
            go_ret
            exact ⟨ret_i HY.out, drewN_then HB.out _⟩
          | false =>
            have HY : Hid (rowsV pairV Pair.key (prevN Pair.key l (k + 1)) (l.drop (k + 1)) = checkSet l) := hy
            clear hy
            go_wp2_with fail
            go_quiet (fail)
            go_wp2
            go_roundw
            case rel => exact ⟨k + 1, by omega, by go_num, HY.out, drewN_then HB.out _⟩
            case measure => simp [intOf]; omega
    · obtain rfl : k = l.length := by omega
      have hr := HR.out
      rw [List.drop_length] at hr
      have HY : Hid (0 = checkSet l) := hr
      clear hr
      go_wp2
      go_ret
      exact ⟨ret_i HY.out, HB.out⟩
set_option maxHeartbeats 2000000 in
theorem CheckSel_calls (v : Value) (l : List Term) (w : World) (hs : Kd.term.S (vw w []) v l) :
    Calls Try.prog 38 #[v] w (NumDone (checkSel l) w) := by
  obtain ⟨A, cap, rfl, hs⟩ := hs.val
  obtain ⟨-, hcap, hlen⟩ := hs.form
  have HS := Lib.hid hs
  clear hs
  go_enter Try.func38, Try.ntmps38
  by_cases h8 : 8 < l.length
  · have HZ : Hid (checkSel l = 4) := manyV_big h8 _
    go_wp2
    go_ret
    exact ⟨ret_i HZ.out.symm, Below.refl _ _⟩
  have HZ : Hid (checkSel l = firstV termV l) := manyV_few h8 _
  go_wp2
  go_loopw [3] (fun i wr => ∃ k : Nat, k ≤ l.length ∧ i = .int .i64 k ∧ Hid (firstV termV (l.drop k) = checkSel l) ∧ Hid (Below w.heap.size w wr)) (fun i _ => l.length - (intOf i).toNat)
  case atStart => exact ⟨0, Nat.zero_le _, rfl, HZ.out.symm, Below.refl _ _⟩
  case round =>
    clear HZ
    obtain ⟨k, hk, rfl, HR, HB⟩ := hrel
    by_cases hlt : k < l.length
    · obtain ⟨b, off, rfl, hc, hi, hp1, hp2⟩ := (HS.out.mono (vw_below HB.out)).elemN k hlt
      have hr := HR.out
      rw [firstV_at _ hlt] at hr
      obtain ⟨x, hx⟩ : ∃ x, l[k] = x := ⟨_, rfl⟩
      rw [hx] at hr hc hi hp1 hp2
      have HC : Hid (wr.rangeAt b (off + k * 3) _) := hc
      have hav : termV x = if x.op < 1 then 1 else if 4 < x.op then 1 else if isName x.key = false then 3 else if x.op ≤ 2 then (if isName x.val = false then 3 else 0) else if emptyB x.val = false then 3 else 0 := rfl
      obtain ⟨n1, hn1⟩ : ∃ n1, isName x.key = n1 := ⟨_, rfl⟩
      obtain ⟨n2, hn2⟩ : ∃ n2, isName x.val = n2 := ⟨_, rfl⟩
      have e1 := empty_beq x.val
      have hem : emptyB x.val = decide (x.val = ⟨#[]⟩) := rfl
      obtain ⟨n3, hn3⟩ : ∃ n3, decide (x.val = ⟨#[]⟩) = n3 := ⟨_, rfl⟩
      rw [hn1, hn2, hem, hn3] at hav
      rw [hn3] at e1
      rw [hav] at hr
      have HX := Lib.hid hr
      have HN1 := Lib.hid hn1
      have HN2 := Lib.hid hn2
      have HP1 := Lib.hid hp1
      have HP2 := Lib.hid hp2
      clear hr hc hav hn1 hn2 hp1 hp2 hx hem hn3
      obtain ⟨hi1, hi2⟩ := hi
      go_upto_region 7 with (with_reducible refine wpList_load_mid rfl 129 _ rfl b (off + k * 3) rfl _ _ HC.out Try.underlying129 rfl (by kernel_rfl) ?_)
      have HB2 : Hid (Below w.heap.size w (wr.alloc (.cells #[.int .i64 x.op, .string x.key, .string x.val] 129))) := alloc_then HB.out _
      have hub : (wr.alloc (.cells #[.int .i64 x.op, .string x.key, .string x.val] 129)).heap[wr.heap.size]? = some (.cells #[.int .i64 x.op, .string x.key, .string x.val] 129 (0, 0)) := blk_last _ _
      generalize hU : wr.alloc (.cells #[.int .i64 x.op, .string x.key, .string x.val] 129) = U at HB2 hub ⊢
      obtain ⟨z, zf⟩ := blk_all hub
      clear hU hub
      by_cases o1 : x.op < 1
      · have hy := HX.out
        rw [if_pos o1] at hy
        have HY : Hid (1 = checkSel l) := hy
        clear hy
        go_wp2
        go_ret
        exact ⟨ret_i HY.out, HB2.out⟩
      by_cases o2 : 4 < x.op
      · have hy := HX.out
        rw [if_neg o1, if_pos o2] at hy
        have HY : Hid (1 = checkSel l) := hy
        clear hy
        go_wp2
        go_ret
        exact ⟨ret_i HY.out, HB2.out⟩
      have hy := HX.out
      rw [if_neg o1, if_neg o2] at hy
      clear HX
      have HX := Lib.hid hy
      clear hy
      by_cases o3 : x.op ≤ 2
      · have hy := HX.out
        rw [if_pos o3] at hy
        clear HX
        have HX := Lib.hid hy
        clear hy
        go_wp2_with fail
        refine (IsName_calls _ _ HP1.out).mono ?_
        rintro e w' ⟨rfl, rfl⟩
        rw [HN1.out]
        cases n1 with
        | false =>
          have HY : Hid (3 = checkSel l) := HX.out
          go_wp2
          go_ret
          exact ⟨ret_i HY.out, HB2.out⟩
        | true =>
          go_wp2_with fail
          refine (IsName_calls _ _ HP2.out).mono ?_
          rintro e w' ⟨rfl, rfl⟩
          rw [HN2.out]
          cases n2 with
          | false =>
            have HY : Hid (3 = checkSel l) := HX.out
            go_wp2
            go_ret
            exact ⟨ret_i HY.out, HB2.out⟩
          | true =>
            have HY : Hid (firstV termV (l.drop (k + 1)) = checkSel l) := HX.out
            go_wp2
            go_roundw
            case rel => exact ⟨k + 1, by omega, by go_num, HY.out, HB2.out⟩
            case measure => simp [intOf]; omega
      · have hy := HX.out
        rw [if_neg o3] at hy
        clear HX
        have HX := Lib.hid hy
        clear hy
        go_wp2_with fail
        refine (IsName_calls _ _ HP1.out).mono ?_
        rintro e w' ⟨rfl, rfl⟩
        rw [HN1.out]
        cases n1 with
        | false =>
          have HY : Hid (3 = checkSel l) := HX.out
          go_wp2
          go_ret
          exact ⟨ret_i HY.out, HB2.out⟩
        | true =>
          cases n3 with
          | false =>
            have HY : Hid (3 = checkSel l) := HX.out
            go_wp2
            go_ret
            exact ⟨ret_i HY.out, HB2.out⟩
          | true =>
            have HY : Hid (firstV termV (l.drop (k + 1)) = checkSel l) := HX.out
            go_wp2
            go_roundw
            case rel => exact ⟨k + 1, by omega, by go_num, HY.out, HB2.out⟩
            case measure => simp [intOf]; omega
    · obtain rfl : k = l.length := by omega
      have hr := HR.out
      rw [List.drop_length] at hr
      have HY : Hid (0 = checkSel l) := hr
      clear hr
      go_wp2
      go_ret
      exact ⟨ret_i HY.out, HB.out⟩
set_option maxHeartbeats 2000000 in
theorem CheckTols_calls (v : Value) (l : List Tnt) (w : World) (hs : Kd.tnt.S (vw w []) v l) :
    Calls Try.prog 39 #[v] w (NumDone (checkTols l) w) := by
  obtain ⟨A, cap, rfl, hs⟩ := hs.val
  obtain ⟨-, hcap, hlen⟩ := hs.form
  have HS := Lib.hid hs
  clear hs
  go_enter Try.func39, Try.ntmps39
  by_cases h8 : 8 < l.length
  · have HZ : Hid (checkTols l = 4) := manyV_big h8 _
    go_wp2
    go_ret
    exact ⟨ret_i HZ.out.symm, Below.refl _ _⟩
  have HZ : Hid (checkTols l = firstV tolV l) := manyV_few h8 _
  go_wp2
  go_loopw [3] (fun i wr => ∃ k : Nat, k ≤ l.length ∧ i = .int .i64 k ∧ Hid (firstV tolV (l.drop k) = checkTols l) ∧ Hid (Below w.heap.size w wr)) (fun i _ => l.length - (intOf i).toNat)
  case atStart => exact ⟨0, Nat.zero_le _, rfl, HZ.out.symm, Below.refl _ _⟩
  case round =>
    clear HZ
    obtain ⟨k, hk, rfl, HR, HB⟩ := hrel
    by_cases hlt : k < l.length
    · obtain ⟨b, off, rfl, hc, hp1, hp2⟩ := (HS.out.mono (vw_below HB.out)).elemN k hlt
      have hr := HR.out
      rw [firstV_at _ hlt] at hr
      obtain ⟨x, hx⟩ : ∃ x, l[k] = x := ⟨_, rfl⟩
      rw [hx] at hr hc hp1 hp2
      have hav : tolV x = if emptyB x.key = false ∧ isName x.key = false then 3 else if x.b = true then (if emptyB x.val = false then 3 else 0) else if isName x.val = false then 3 else 0 := rfl
      obtain ⟨n1, hn1⟩ : ∃ n1, isName x.key = n1 := ⟨_, rfl⟩
      obtain ⟨n2, hn2⟩ : ∃ n2, isName x.val = n2 := ⟨_, rfl⟩
      have e1 := empty_beq x.val
      have e2 := empty_beq x.key
      have hem : emptyB x.val = decide (x.val = ⟨#[]⟩) := rfl
      have hem2 : emptyB x.key = decide (x.key = ⟨#[]⟩) := rfl
      obtain ⟨n3, hn3⟩ : ∃ n3, decide (x.val = ⟨#[]⟩) = n3 := ⟨_, rfl⟩
      obtain ⟨n4, hn4⟩ : ∃ n4, decide (x.key = ⟨#[]⟩) = n4 := ⟨_, rfl⟩
      obtain ⟨n5, hn5⟩ : ∃ n5, x.b = n5 := ⟨_, rfl⟩
      rw [hn1, hn2, hem, hn3, hem2, hn4, hn5] at hav
      rw [hn3] at e1
      rw [hn4] at e2
      rw [hn5] at hc
      rw [hav] at hr
      have HC : Hid (wr.rangeAt b (off + k * 3) _) := hc
      have HX := Lib.hid hr
      have HN1 := Lib.hid hn1
      have HN2 := Lib.hid hn2
      have HP1 := Lib.hid hp1
      have HP2 := Lib.hid hp2
      clear hr hc hav hn1 hn2 hp1 hp2 hx hem hn3 hem2 hn4 hn5
      go_upto_region 7 with (with_reducible refine wpList_load_mid rfl 130 _ rfl b (off + k * 3) rfl _ _ HC.out Try.underlying130 rfl (by kernel_rfl) ?_)
      have HB2 : Hid (Below w.heap.size w (wr.alloc (.cells #[.string x.key, .string x.val, .bool n5] 130))) := alloc_then HB.out _
      have hub : (wr.alloc (.cells #[.string x.key, .string x.val, .bool n5] 130)).heap[wr.heap.size]? = some (.cells #[.string x.key, .string x.val, .bool n5] 130 (0, 0)) := blk_last _ _
      generalize hU : wr.alloc (.cells #[.string x.key, .string x.val, .bool n5] 130) = U at HB2 hub ⊢
      obtain ⟨z, zf⟩ := blk_all hub
      clear hU hub
      cases n4 with
      | true =>
        cases n5 with
        | true =>
          cases n3 with
          | false =>
            have HY : Hid (3 = checkTols l) := HX.out
            go_wp2
            go_ret
            exact ⟨ret_i HY.out, HB2.out⟩
          | true =>
            have HY : Hid (firstV tolV (l.drop (k + 1)) = checkTols l) := HX.out
            go_wp2
            go_roundw
            case rel => exact ⟨k + 1, by omega, by go_num, HY.out, HB2.out⟩
            case measure => simp [intOf]; omega
        | false =>
          go_wp2_with fail
          refine (IsName_calls _ _ HP2.out).mono ?_
          rintro e w' ⟨rfl, rfl⟩
          rw [HN2.out]
          cases n2 with
          | false =>
            have HY : Hid (3 = checkTols l) := HX.out
            go_wp2
            go_ret
            exact ⟨ret_i HY.out, HB2.out⟩
          | true =>
            have HY : Hid (firstV tolV (l.drop (k + 1)) = checkTols l) := HX.out
            go_wp2
            go_roundw
            case rel => exact ⟨k + 1, by omega, by go_num, HY.out, HB2.out⟩
            case measure => simp [intOf]; omega
      | false =>
        go_wp2_with fail
        refine (IsName_calls _ _ HP1.out).mono ?_
        rintro e w' ⟨rfl, rfl⟩
        rw [HN1.out]
        cases n1 with
        | false =>
          have HY : Hid (3 = checkTols l) := HX.out
          go_wp2
          go_ret
          exact ⟨ret_i HY.out, HB2.out⟩
        | true =>
          cases n5 with
          | true =>
            cases n3 with
            | false =>
              have HY : Hid (3 = checkTols l) := HX.out
              go_wp2
              go_ret
              exact ⟨ret_i HY.out, HB2.out⟩
            | true =>
              have HY : Hid (firstV tolV (l.drop (k + 1)) = checkTols l) := HX.out
              go_wp2
              go_roundw
              case rel => exact ⟨k + 1, by omega, by go_num, HY.out, HB2.out⟩
              case measure => simp [intOf]; omega
          | false =>
            go_wp2_with fail
            refine (IsName_calls _ _ HP2.out).mono ?_
            rintro e w' ⟨rfl, rfl⟩
            rw [HN2.out]
            cases n2 with
            | false =>
              have HY : Hid (3 = checkTols l) := HX.out
              go_wp2
              go_ret
              exact ⟨ret_i HY.out, HB2.out⟩
            | true =>
              have HY : Hid (firstV tolV (l.drop (k + 1)) = checkTols l) := HX.out
              go_wp2
              go_roundw
              case rel => exact ⟨k + 1, by omega, by go_num, HY.out, HB2.out⟩
              case measure => simp [intOf]; omega
    · obtain rfl : k = l.length := by omega
      have hr := HR.out
      rw [List.drop_length] at hr
      have HY : Hid (0 = checkTols l) := hr
      clear hr
      go_wp2
      go_ret
      exact ⟨ret_i HY.out, HB.out⟩
end Go.Proofs.Ytfbmfjmnpfidoaa
namespace Go.Proofs.Ytfbmfjmnpfidoaa
open Go.RowKit

theorem any_none {l : List Tnt} {k : Nat} (hk : k < l.length) {x : Tnt} (h : ∀ j, (hj : j < l.length) → j < k → sameT l[j] x = false) : (l.take k).any (fun y => sameT y x) = false := by
  rw [Bool.eq_false_iff]
  intro h2
  obtain ⟨y, hy, hs⟩ := List.any_eq_true.1 h2
  obtain ⟨j, hj, rfl⟩ := List.getElem_of_mem hy
  rw [List.length_take] at hj
  rw [List.getElem_take] at hs
  rw [h j (by omega) (by omega)] at hs
  cases hs
theorem any_some {l : List Tnt} {k j : Nat} (hk : k < l.length) (hj : j < k) {x : Tnt} (h : sameT (l[j]'(by omega)) x = true) : (l.take k).any (fun y => sameT y x) = true := by
  refine List.any_eq_true.2 ⟨l[j], ?_, h⟩
  exact List.mem_take_iff_getElem.2 ⟨j, by omega, rfl⟩
theorem eq_beq (a b : ByteArray) : (a.toList == b.toList) = decide (a = b) := by
  by_cases h : a = b
  · rw [str_beq h, decide_eq_true h]
  · rw [str_nbeq h, decide_eq_false h]
set_option maxHeartbeats 2000000 in
theorem CheckTaints_calls (v : Value) (l : List Tnt) (w : World) (hs : Kd.tnt.S (vw w []) v l) :
    Calls Try.prog 91 #[v] w (NumDone (checkTaints l) w) := by
  obtain ⟨A, cap, rfl, hs⟩ := hs.val
  obtain ⟨-, hcap, hlen⟩ := hs.form
  have HS := Lib.hid hs
  clear hs
  go_enter Try.func91, Try.ntmps91
  by_cases h8 : 8 < l.length
  · have HZ : Hid (checkTaints l = 4) := manyV_big h8 _
    go_wp2
    go_ret
    exact ⟨ret_i HZ.out.symm, Below.refl _ _⟩
  have HZ : Hid (checkTaints l = taintsV [] l) := manyV_few h8 _
  go_wp2
  go_loopw [3] (fun i wr => ∃ k : Nat, k ≤ l.length ∧ i = .int .i64 k ∧ Hid (taintsV (l.take k) (l.drop k) = checkTaints l) ∧ Hid (Below w.heap.size w wr)) (fun i _ => l.length - (intOf i).toNat)
  case atStart => exact ⟨0, Nat.zero_le _, rfl, HZ.out.symm, Below.refl _ _⟩
  case round =>
    clear HZ
    obtain ⟨k, hk, rfl, HR, HB⟩ := hrel
    by_cases hlt : k < l.length
    · obtain ⟨b, off, rfl, hc, hp1, hp2⟩ := (HS.out.mono (vw_below HB.out)).elemN k hlt
      have c0 : wr.cell? ⟨b, off + k * 3, none⟩ = some (.string l[k].key) := hc 0 _ rfl
      have c1 : wr.cell? ⟨b, off + k * 3 + 1, none⟩ = some (.string l[k].val) := hc 1 _ rfl
      have hr := HR.out
      rw [taintsV_at hlt] at hr
      obtain ⟨n1, hn1⟩ : ∃ n1, isName l[k].key = n1 := ⟨_, rfl⟩
      obtain ⟨n2, hn2⟩ : ∃ n2, isName l[k].val = n2 := ⟨_, rfl⟩
      rw [hn1, hn2] at hr
      have HX := Lib.hid hr
      have HN1 := Lib.hid hn1
      have HN2 := Lib.hid hn2
      have HP1 := Lib.hid hp1
      have HP2 := Lib.hid hp2
      clear hr hc hn1 hn2 hp1 hp2
      go_wp2_with fail
      refine (IsName_calls _ _ HP1.out).mono ?_
      rintro e w' ⟨rfl, rfl⟩
      rw [HN1.out]
      cases n1 with
      | false =>
        have HY : Hid (3 = checkTaints l) := HX.out
        go_wp2
        go_ret
        exact ⟨ret_i HY.out, HB.out⟩
      | true =>
      go_wp2_with fail
      refine (IsName_calls _ _ HP2.out).mono ?_
      rintro e w' ⟨rfl, rfl⟩
      rw [HN2.out]
      cases n2 with
      | false =>
        have HY : Hid (3 = checkTaints l) := HX.out
        go_wp2
        go_ret
        exact ⟨ret_i HY.out, HB.out⟩
      | true =>
      have hy := HX.out
      rw [if_neg (by decide), if_neg (by decide)] at hy
      have HY := Lib.hid hy
      clear hy HX c0 c1
      go_wp2_with fail
      go_loopw [4] (fun j wi => ∃ q : Nat, q ≤ k ∧ j = .int .i64 q ∧ Hid (∀ j, (hj : j < l.length) → j < q → sameT l[j] l[k] = false) ∧ Hid (Below w.heap.size w wi)) (fun j _ => k - (intOf j).toNat)
      case atStart => exact ⟨0, Nat.zero_le _, rfl, fun _ _ h => by omega, HB.out⟩
      case round =>
        clear HB
        obtain ⟨q, hq, rfl, HP, HB⟩ := hrel
        by_cases hqk : q < k
        · obtain ⟨b', off', hA, hc, -⟩ := (HS.out.mono (vw_below HB.out)).elemN k hlt
          injection hA with hA
          injection hA with e1 e2
          subst e1 e2
          obtain ⟨b', off', hA, hc', -⟩ := (HS.out.mono (vw_below HB.out)).elemN q (by omega)
          injection hA with hA
          injection hA with e1 e2
          subst e1 e2
          have c0 : wr.cell? ⟨b, off + k * 3, none⟩ = some (.string l[k].key) := hc 0 _ rfl
          have c1 : wr.cell? ⟨b, off + k * 3 + 1, none⟩ = some (.string l[k].val) := hc 1 _ rfl
          have c2 : wr.cell? ⟨b, off + q * 3, none⟩ = some (.string l[q].key) := hc' 0 _ rfl
          have c3 : wr.cell? ⟨b, off + q * 3 + 1, none⟩ = some (.string l[q].val) := hc' 1 _ rfl
          have b1 := eq_beq l[q].key l[k].key
          have b2 := eq_beq l[q].val l[k].val
          have hst : sameT l[q] l[k] = (decide (l[q].key = l[k].key) && decide (l[q].val = l[k].val)) := rfl
          obtain ⟨m1, hm1⟩ : ∃ m, decide (l[q].key = l[k].key) = m := ⟨_, rfl⟩
          obtain ⟨m2, hm2⟩ : ∃ m, decide (l[q].val = l[k].val) = m := ⟨_, rfl⟩
          rw [hm1] at b1 hst
          rw [hm2] at b2 hst
          have HT := Lib.hid hst
          clear hm1 hm2 hst hc hc'
          have NEXT : sameT l[q] l[k] = false → Hid (∀ j, (hj : j < l.length) → j < q + 1 → sameT l[j] l[k] = false) := fun h j hj hjq => by
            by_cases e : j = q
            · subst e; exact h
            · exact HP.out j hj (by omega)
          cases m1 with
          | false =>
            have HN := NEXT HT.out
            clear NEXT
            go_wp2_with fail
            go_quiet (fail)
            go_wp2
            go_roundw
            case rel => exact ⟨q + 1, by omega, by go_num, HN.out, drewN_then HB.out _⟩
            case measure => simp [intOf]; omega
          | true =>
            cases m2 with
            | false =>
              have HN := NEXT HT.out
              clear NEXT
              go_wp2_with fail
              go_quiet (fail)
              go_wp2
              go_roundw
              case rel => exact ⟨q + 1, by omega, by go_num, HN.out, drewN_then HB.out _⟩
              case measure => simp [intOf]; omega
            | true =>
              clear NEXT
              have hy := HY.out
              rw [if_pos (any_some hlt hqk HT.out)] at hy
              have HZ := Lib.hid hy
              clear hy
              go_wp2_with fail
              go_quiet (fail)
              go_wp2
              go_ret
              exact ⟨ret_i HZ.out, drewN_then HB.out _⟩
        · obtain rfl : q = k := by omega
          have hy := HY.out
          rw [if_neg (by rw [any_none hlt HP.out]; decide)] at hy
          have HZ := Lib.hid hy
          clear hy
          go_wp2
          go_roundw
          case rel => exact ⟨q + 1, by omega, by go_num, HZ.out, HB.out⟩
          case measure => simp [intOf]; omega
    · obtain rfl : k = l.length := by omega
      have hr := HR.out
      rw [List.drop_length] at hr
      have HY : Hid (0 = checkTaints l) := hr
      clear hr
      go_wp2
      go_ret
      exact ⟨ret_i HY.out, HB.out⟩
end Go.Proofs.Ytfbmfjmnpfidoaa
namespace Go.Proofs.Ytfbmfjmnpfidoaa
open Go.RowKit

set_option maxHeartbeats 4000000 in
theorem CheckNode_calls (v : Value) (x : Nd) (w : World) (hs : Kd.node.V (vw w []) v x) :
    Calls Try.prog 75 #[v] w (NumDone (checkNode x) w) := by
  obtain ⟨cs, rfl, B1, d1, B2, d2, B3, d3, rfl, s0, s1, s2, s3⟩ := hs
  have S0 := Lib.hid s0
  have S1 := Lib.hid s1
  have S2 := Lib.hid s2
  have S3 := Lib.hid s3
  clear s0 s1 s2 s3
  have HX : Hid (orV (if isName x.name = false then 3 else 0) (orV (checkVec x.cap) (orV (checkSet x.labels) (checkTaints x.taints))) = checkNode x) := rfl
  go_enter Try.func75, Try.ntmps75
  have HB : Hid (Below w.heap.size w (w.alloc (.cells #[.string x.name, .slice B1 x.cap.length d1, .slice B2 x.labels.length d2, .slice B3 x.taints.length d3, .bool x.cordon] 99))) := alloc_below _ _
  have HQ : Hid ((w.alloc (.cells #[.string x.name, .slice B1 x.cap.length d1, .slice B2 x.labels.length d2, .slice B3 x.taints.length d3, .bool x.cordon] 99)).heap[w.heap.size]? = some (.cells #[.string x.name, .slice B1 x.cap.length d1, .slice B2 x.labels.length d2, .slice B3 x.taints.length d3, .bool x.cordon] 99 (0, 0))) := blk_last _ _
  go_upto_region 1 with fail
  generalize w.alloc (.cells #[.string x.name, .slice B1 x.cap.length d1, .slice B2 x.labels.length d2, .slice B3 x.taints.length d3, .bool x.cordon] 99) = W at HB HQ ⊢
  obtain ⟨z, zf⟩ := blk_all HQ.out
  go_wp2_with fail
  refine (IsName_calls _ _ S0.out).mono ?_
  rintro e w' ⟨rfl, rfl⟩
  obtain ⟨n1, hn1⟩ : ∃ n1, isName x.name = n1 := ⟨_, rfl⟩
  rw [hn1]
  have hx := HX.out
  rw [hn1] at hx
  clear HX hn1
  cases n1 with
  | false =>
    have HX : Hid (3 = checkNode x) := hx
    clear hx
    go_wp2
    go_ret
    exact ⟨ret_i HX.out, HB.out⟩
  | true =>
  rw [if_neg (by decide), orV_r rfl] at hx
  have HX := Lib.hid hx
  clear hx
  go_wp2_with fail
  refine (CheckVec_calls _ x.cap _ (S1.out.mono (vw_below HB.out))).mono ?_
  rintro e w1 ⟨rfl, hb⟩
  obtain ⟨n1, hn1⟩ : ∃ n1, checkVec x.cap = n1 := ⟨_, rfl⟩
  rw [hn1]
  have hx := HX.out
  rw [hn1] at hx
  have HB1 := Lib.hid (Below.then HB.out hb)
  have q := (hb.block _ (blk_lt HQ.out)).trans HQ.out
  clear z zf HX HB HQ hb hn1
  have HB := HB1
  have HQ := Lib.hid q
  clear HB1
  obtain ⟨z, zf⟩ := blk_all q
  clear q
  by_cases h0 : n1 ≠ 0
  · rw [orV_l h0] at hx
    have HX := Lib.hid hx
    clear hx
    have t1 : (n1 == 0) = false := by simp [h0]
    go_wp2
    go_ret
    exact ⟨ret_i HX.out, HB.out⟩
  obtain rfl : n1 = 0 := Decidable.not_not.1 h0
  rw [orV_r rfl] at hx
  have HX := Lib.hid hx
  clear hx h0
  go_wp2_with fail
  refine (CheckSet_calls _ x.labels _ (S2.out.mono (vw_below HB.out))).mono ?_
  rintro e w1 ⟨rfl, hb⟩
  obtain ⟨n1, hn1⟩ : ∃ n1, checkSet x.labels = n1 := ⟨_, rfl⟩
  rw [hn1]
  have hx := HX.out
  rw [hn1] at hx
  have HB1 := Lib.hid (Below.then HB.out hb)
  have q := (hb.block _ (blk_lt HQ.out)).trans HQ.out
  clear z zf HX HB HQ hb hn1
  have HB := HB1
  have HQ := Lib.hid q
  clear HB1
  obtain ⟨z, zf⟩ := blk_all q
  clear q
  by_cases h0 : n1 ≠ 0
  · rw [orV_l h0] at hx
    have HX := Lib.hid hx
    clear hx
    have t1 : (n1 == 0) = false := by simp [h0]
    go_wp2
    go_ret
    exact ⟨ret_i HX.out, HB.out⟩
  obtain rfl : n1 = 0 := Decidable.not_not.1 h0
  rw [orV_r rfl] at hx
  have HX := Lib.hid hx
  clear hx h0
  go_wp2_with fail
  refine (CheckTaints_calls _ x.taints _ (S3.out.mono (vw_below HB.out))).mono ?_
  rintro e w1 ⟨rfl, hb⟩
  have HB1 := Lib.hid (Below.then HB.out hb)
  clear hb
  go_wp2
  go_ret
  exact ⟨ret_i HX.out, HB1.out⟩
set_option maxHeartbeats 4000000 in
theorem CheckBudget_calls (v : Value) (x : Bd) (w : World) (hs : Kd.budget.V (vw w []) v x) :
    Calls Try.prog 76 #[v] w (NumDone (checkBudget x) w) := by
  obtain ⟨cs, rfl, B1, d1, rfl, ⟨s0, hf1, hf2⟩, s1⟩ := hs
  have S0 := Lib.hid s0
  have S1 := Lib.hid s1
  clear s0 s1
  have HX : Hid (orV (if isName x.name = false then 3 else 0) (orV (checkSel x.sel) (if x.floor < 0 then 1 else if 128 < x.floor then 1 else 0)) = checkBudget x) := rfl
  go_enter Try.func76, Try.ntmps76
  have HB : Hid (Below w.heap.size w (w.alloc (.cells #[.string x.name, .slice B1 x.sel.length d1, .int .i64 x.floor] 133))) := alloc_below _ _
  have HQ : Hid ((w.alloc (.cells #[.string x.name, .slice B1 x.sel.length d1, .int .i64 x.floor] 133)).heap[w.heap.size]? = some (.cells #[.string x.name, .slice B1 x.sel.length d1, .int .i64 x.floor] 133 (0, 0))) := blk_last _ _
  go_upto_region 1 with fail
  generalize w.alloc (.cells #[.string x.name, .slice B1 x.sel.length d1, .int .i64 x.floor] 133) = W at HB HQ ⊢
  obtain ⟨z, zf⟩ := blk_all HQ.out
  go_wp2_with fail
  refine (IsName_calls _ _ S0.out).mono ?_
  rintro e w' ⟨rfl, rfl⟩
  obtain ⟨n1, hn1⟩ : ∃ n1, isName x.name = n1 := ⟨_, rfl⟩
  rw [hn1]
  have hx := HX.out
  rw [hn1] at hx
  clear HX hn1
  cases n1 with
  | false =>
    have HX : Hid (3 = checkBudget x) := hx
    clear hx
    go_wp2
    go_ret
    exact ⟨ret_i HX.out, HB.out⟩
  | true =>
  rw [if_neg (by decide), orV_r rfl] at hx
  have HX := Lib.hid hx
  clear hx
  go_wp2_with fail
  refine (CheckSel_calls _ x.sel _ (S1.out.mono (vw_below HB.out))).mono ?_
  rintro e w1 ⟨rfl, hb⟩
  obtain ⟨n1, hn1⟩ : ∃ n1, checkSel x.sel = n1 := ⟨_, rfl⟩
  rw [hn1]
  have hx := HX.out
  rw [hn1] at hx
  have HB1 := Lib.hid (Below.then HB.out hb)
  have q := (hb.block _ (blk_lt HQ.out)).trans HQ.out
  clear z zf HX HB HQ hb hn1
  have HB := HB1
  have HQ := Lib.hid q
  clear HB1
  obtain ⟨z, zf⟩ := blk_all q
  clear q
  by_cases h0 : n1 ≠ 0
  · rw [orV_l h0] at hx
    have HX := Lib.hid hx
    clear hx
    have t1 : (n1 == 0) = false := by simp [h0]
    go_wp2
    go_ret
    exact ⟨ret_i HX.out, HB.out⟩
  obtain rfl : n1 = 0 := Decidable.not_not.1 h0
  rw [orV_r rfl] at hx
  have HX := Lib.hid hx
  clear hx h0
  by_cases hc : x.floor < 0
  · have hx := HX.out
    rw [if_pos hc] at hx
    have HX : Hid (1 = checkBudget x) := hx
    clear hx
    go_wp2
    go_ret
    exact ⟨ret_i HX.out, HB.out⟩
  have hx := HX.out
  rw [if_neg hc] at hx
  clear HX
  have HX := Lib.hid hx
  clear hx
  by_cases hc : 128 < x.floor
  · have hx := HX.out
    rw [if_pos hc] at hx
    have HX : Hid (1 = checkBudget x) := hx
    clear hx
    go_wp2
    go_ret
    exact ⟨ret_i HX.out, HB.out⟩
  have hx := HX.out
  rw [if_neg hc] at hx
  clear HX
  have HX := Lib.hid hx
  clear hx
  go_wp2
  go_ret
  exact ⟨ret_i HX.out, HB.out⟩
end Go.Proofs.Ytfbmfjmnpfidoaa
namespace Go.Proofs.Ytfbmfjmnpfidoaa
open Go.RowKit

set_option maxHeartbeats 8000000 in
theorem CheckPod_calls (v : Value) (x : Pd) (w : World) (hs : Kd.pod.V (vw w []) v x) :
    Calls Try.prog 10 #[v] w (NumDone (checkPod x) w) := by
  obtain ⟨cs, rfl, B1, d1, B2, d2, B3, d3, B4, d4, rfl, ⟨⟨s0, s1, hp1, hp2⟩, s7, ⟨hm1, hm2⟩, s9⟩, s3, s4, s5, s6⟩ := hs
  have S0 := Lib.hid s0
  have S1 := Lib.hid s1
  have S3 := Lib.hid s3
  have S4 := Lib.hid s4
  have S5 := Lib.hid s5
  have S6 := Lib.hid s6
  have S7 := Lib.hid s7
  have S9 := Lib.hid s9
  clear s0 s1 s3 s4 s5 s6 s7 s9
  have HX : Hid (orV (if isName x.name = false then 3 else 0) (orV (maybeV x.owner) (orV (prioV x) (orV (checkVec x.need) (orV (checkSet x.labels) (orV (checkSel x.sel) (orV (checkTols x.tols) (orV (maybeV x.key) (orV (mostV x) (maybeV x.node))))))))) = checkPod x) := rfl
  go_enter Try.func10, Try.ntmps10
  have HB : Hid (Below w.heap.size w (w.alloc (.cells #[.string x.name, .string x.owner, .int .i64 x.prio, .slice B1 x.need.length d1, .slice B2 x.labels.length d2, .slice B3 x.sel.length d3, .slice B4 x.tols.length d4, .string x.key, .int .i64 x.most, .string x.node, .bool x.hold] 45))) := alloc_below _ _
  have HQ : Hid ((w.alloc (.cells #[.string x.name, .string x.owner, .int .i64 x.prio, .slice B1 x.need.length d1, .slice B2 x.labels.length d2, .slice B3 x.sel.length d3, .slice B4 x.tols.length d4, .string x.key, .int .i64 x.most, .string x.node, .bool x.hold] 45)).heap[w.heap.size]? = some (.cells #[.string x.name, .string x.owner, .int .i64 x.prio, .slice B1 x.need.length d1, .slice B2 x.labels.length d2, .slice B3 x.sel.length d3, .slice B4 x.tols.length d4, .string x.key, .int .i64 x.most, .string x.node, .bool x.hold] 45 (0, 0))) := blk_last _ _
  go_upto_region 1 with fail
  generalize w.alloc (.cells #[.string x.name, .string x.owner, .int .i64 x.prio, .slice B1 x.need.length d1, .slice B2 x.labels.length d2, .slice B3 x.sel.length d3, .slice B4 x.tols.length d4, .string x.key, .int .i64 x.most, .string x.node, .bool x.hold] 45) = W at HB HQ ⊢
  obtain ⟨z, zf⟩ := blk_all HQ.out
  go_wp2_with fail
  refine (IsName_calls _ _ S0.out).mono ?_
  rintro e w' ⟨rfl, rfl⟩
  obtain ⟨n1, hn1⟩ : ∃ n1, isName x.name = n1 := ⟨_, rfl⟩
  rw [hn1]
  have hx := HX.out
  rw [hn1] at hx
  clear HX hn1
  cases n1 with
  | false =>
    have HX : Hid (3 = checkPod x) := hx
    clear hx
    go_wp2
    go_ret
    exact ⟨ret_i HX.out, HB.out⟩
  | true =>
  rw [if_neg (by decide), orV_r rfl] at hx
  have HX := Lib.hid hx
  clear hx
  obtain ⟨n2, hn2⟩ : ∃ n, isName x.owner = n := ⟨_, rfl⟩
  obtain ⟨n3, hn3⟩ : ∃ n, decide (x.owner = ⟨#[]⟩) = n := ⟨_, rfl⟩
  have e3 := empty_beq x.owner
  rw [hn3] at e3
  have hm : maybeV x.owner = if n3 = false ∧ n2 = false then 3 else 0 := by rw [← hn2, ← hn3]; rfl
  have HN2 := Lib.hid hn2
  have hx := HX.out
  rw [hm] at hx
  clear HX hn2 hn3 hm
  have hor : (n3 = false ∧ n2 = false) ∨ n3 = true ∨ (n3 = false ∧ n2 = true) := by cases n2 <;> cases n3 <;> simp
  rcases hor with ⟨rfl, rfl⟩ | rfl | ⟨rfl, rfl⟩
  · have HX : Hid (3 = checkPod x) := hx
    clear hx
    go_wp2_with fail
    refine (IsName_calls _ _ S1.out).mono ?_
    rintro e w' ⟨rfl, rfl⟩
    rw [HN2.out]
    go_wp2
    go_ret
    exact ⟨ret_i HX.out, HB.out⟩
  case' inr.inr =>
    go_wp2_with fail
    refine (IsName_calls _ _ S1.out).mono ?_
    rintro e w' ⟨rfl, rfl⟩
    rw [HN2.out]
  all_goals
    rw [if_neg (by simp), orV_r rfl] at hx
    have HX := Lib.hid hx
    clear hx HN2
    go_upto_region 3 with fail
    clear e3
    have hpv : prioV x = if x.prio < -1 then 1 else if 1000000 < x.prio then 1 else if x.hold = decide (x.prio = -1) then 0 else 1 := rfl
    have hx := HX.out
    rw [hpv] at hx
    clear HX hpv
    have HX := Lib.hid hx
    clear hx
    by_cases hc1 : x.prio < -1
    · have hx := HX.out
      rw [if_pos hc1] at hx
      have HX : Hid (1 = checkPod x) := hx
      clear hx
      go_wp2
      go_ret
      exact ⟨ret_i HX.out, HB.out⟩
    have hx := HX.out
    rw [if_neg hc1] at hx
    clear HX
    have HX := Lib.hid hx
    clear hx
    by_cases hc2 : 1000000 < x.prio
    · have hx := HX.out
      rw [if_pos hc2] at hx
      have HX : Hid (1 = checkPod x) := hx
      clear hx
      go_wp2
      go_ret
      exact ⟨ret_i HX.out, HB.out⟩
    have hx := HX.out
    rw [if_neg hc2] at hx
    clear HX
    have HX := Lib.hid hx
    clear hx
    obtain ⟨d, hd⟩ : ∃ d, decide (x.prio = -1) = d := ⟨_, rfl⟩
    obtain ⟨g, hg⟩ : ∃ g, x.hold = g := ⟨_, rfl⟩
    have hx := HX.out
    rw [hg, hd] at hx
    have t1 : (x.prio == -1) = d := hd
    clear HX hd
    by_cases hgd : g = d
    case neg =>
      rw [if_neg hgd] at hx
      have HX : Hid (1 = checkPod x) := hx
      clear hx
      have hor : (g = false ∧ d = true) ∨ (g = true ∧ d = false) := by cases g <;> cases d <;> simp_all
      rcases hor with ⟨rfl, rfl⟩ | ⟨rfl, rfl⟩
      all_goals
        go_wp2
        go_ret
        exact ⟨ret_i HX.out, HB.out⟩
    subst hgd
    rw [if_pos rfl, orV_r rfl] at hx
    have HX := Lib.hid hx
    clear hx
    go_upto_region 5 with fail
    clear t1 hg hc1 hc2
    go_wp2_with fail
    refine (CheckVec_calls _ x.need _ (S3.out.mono (vw_below HB.out))).mono ?_
    rintro e w1 ⟨rfl, hb⟩
    obtain ⟨n1, hn1⟩ : ∃ n1, checkVec x.need = n1 := ⟨_, rfl⟩
    rw [hn1]
    have hx := HX.out
    rw [hn1] at hx
    have HB1 := Lib.hid (Below.then HB.out hb)
    have q := (hb.block _ (blk_lt HQ.out)).trans HQ.out
    clear z zf HX HB HQ hb hn1
    have HB := HB1
    have HQ := Lib.hid q
    clear HB1
    obtain ⟨z, zf⟩ := blk_all q
    clear q
    by_cases h0 : n1 ≠ 0
    · rw [orV_l h0] at hx
      have HX := Lib.hid hx
      clear hx
      have t1 : (n1 == 0) = false := by simp [h0]
      go_wp2
      go_ret
      exact ⟨ret_i HX.out, HB.out⟩
    obtain rfl : n1 = 0 := Decidable.not_not.1 h0
    rw [orV_r rfl] at hx
    have HX := Lib.hid hx
    clear hx h0
    go_wp2_with fail
    refine (CheckSet_calls _ x.labels _ (S4.out.mono (vw_below HB.out))).mono ?_
    rintro e w1 ⟨rfl, hb⟩
    obtain ⟨n1, hn1⟩ : ∃ n1, checkSet x.labels = n1 := ⟨_, rfl⟩
    rw [hn1]
    have hx := HX.out
    rw [hn1] at hx
    have HB1 := Lib.hid (Below.then HB.out hb)
    have q := (hb.block _ (blk_lt HQ.out)).trans HQ.out
    clear z zf HX HB HQ hb hn1
    have HB := HB1
    have HQ := Lib.hid q
    clear HB1
    obtain ⟨z, zf⟩ := blk_all q
    clear q
    by_cases h0 : n1 ≠ 0
    · rw [orV_l h0] at hx
      have HX := Lib.hid hx
      clear hx
      have t1 : (n1 == 0) = false := by simp [h0]
      go_wp2
      go_ret
      exact ⟨ret_i HX.out, HB.out⟩
    obtain rfl : n1 = 0 := Decidable.not_not.1 h0
    rw [orV_r rfl] at hx
    have HX := Lib.hid hx
    clear hx h0
    go_wp2_with fail
    refine (CheckSel_calls _ x.sel _ (S5.out.mono (vw_below HB.out))).mono ?_
    rintro e w1 ⟨rfl, hb⟩
    obtain ⟨n1, hn1⟩ : ∃ n1, checkSel x.sel = n1 := ⟨_, rfl⟩
    rw [hn1]
    have hx := HX.out
    rw [hn1] at hx
    have HB1 := Lib.hid (Below.then HB.out hb)
    have q := (hb.block _ (blk_lt HQ.out)).trans HQ.out
    clear z zf HX HB HQ hb hn1
    have HB := HB1
    have HQ := Lib.hid q
    clear HB1
    obtain ⟨z, zf⟩ := blk_all q
    clear q
    by_cases h0 : n1 ≠ 0
    · rw [orV_l h0] at hx
      have HX := Lib.hid hx
      clear hx
      have t1 : (n1 == 0) = false := by simp [h0]
      go_wp2
      go_ret
      exact ⟨ret_i HX.out, HB.out⟩
    obtain rfl : n1 = 0 := Decidable.not_not.1 h0
    rw [orV_r rfl] at hx
    have HX := Lib.hid hx
    clear hx h0
    go_wp2_with fail
    refine (CheckTols_calls _ x.tols _ (S6.out.mono (vw_below HB.out))).mono ?_
    rintro e w1 ⟨rfl, hb⟩
    obtain ⟨n1, hn1⟩ : ∃ n1, checkTols x.tols = n1 := ⟨_, rfl⟩
    rw [hn1]
    have hx := HX.out
    rw [hn1] at hx
    have HB1 := Lib.hid (Below.then HB.out hb)
    have q := (hb.block _ (blk_lt HQ.out)).trans HQ.out
    clear z zf HX HB HQ hb hn1
    have HB := HB1
    have HQ := Lib.hid q
    clear HB1
    obtain ⟨z, zf⟩ := blk_all q
    clear q
    by_cases h0 : n1 ≠ 0
    · rw [orV_l h0] at hx
      have HX := Lib.hid hx
      clear hx
      have t1 : (n1 == 0) = false := by simp [h0]
      go_wp2
      go_ret
      exact ⟨ret_i HX.out, HB.out⟩
    obtain rfl : n1 = 0 := Decidable.not_not.1 h0
    rw [orV_r rfl] at hx
    have HX := Lib.hid hx
    clear hx h0
    obtain ⟨n2, hn2⟩ : ∃ n, isName x.key = n := ⟨_, rfl⟩
    obtain ⟨n3, hn3⟩ : ∃ n, decide (x.key = ⟨#[]⟩) = n := ⟨_, rfl⟩
    have e3 := empty_beq x.key
    rw [hn3] at e3
    have hm : maybeV x.key = if n3 = false ∧ n2 = false then 3 else 0 := by rw [← hn2, ← hn3]; rfl
    have HN2 := Lib.hid hn2
    have hmo : mostV x = if n3 = true then (if x.most ≠ 0 then 1 else 0) else if x.most < 1 ∨ 128 < x.most then 1 else 0 := by rw [← hn3]; rfl
    have hx := HX.out
    rw [hm] at hx
    clear HX hn2 hn3 hm
    have hor : (n3 = false ∧ n2 = false) ∨ n3 = true ∨ (n3 = false ∧ n2 = true) := by cases n2 <;> cases n3 <;> simp
    rcases hor with ⟨rfl, rfl⟩ | rfl | ⟨rfl, rfl⟩
    · have HX : Hid (3 = checkPod x) := hx
      clear hx
      go_wp2_with fail
      refine (IsName_calls _ _ S7.out).mono ?_
      rintro e w' ⟨rfl, rfl⟩
      rw [HN2.out]
      go_wp2
      go_ret
      exact ⟨ret_i HX.out, HB.out⟩
    · rw [if_neg (by simp), orV_r rfl, hmo, if_pos rfl] at hx
      clear hmo HN2
      by_cases hc : x.most ≠ 0
      · rw [if_pos hc] at hx
        have HX : Hid (1 = checkPod x) := hx
        clear hx
        have t1 : (x.most == 0) = false := by simp [hc]
        go_wp2
        go_ret
        exact ⟨ret_i HX.out, HB.out⟩
      rw [if_neg hc, orV_r rfl] at hx
      have HX := Lib.hid hx
      have t1 : (x.most == 0) = true := by simpa using hc
      clear hx hc
      go_upto_region 21 with fail
      clear e3 t1
      obtain ⟨n2, hn2⟩ : ∃ n, isName x.node = n := ⟨_, rfl⟩
      obtain ⟨n3, hn3⟩ : ∃ n, decide (x.node = ⟨#[]⟩) = n := ⟨_, rfl⟩
      have e3 := empty_beq x.node
      rw [hn3] at e3
      have hm : maybeV x.node = if n3 = false ∧ n2 = false then 3 else 0 := by rw [← hn2, ← hn3]; rfl
      have HN2 := Lib.hid hn2
      have hx := HX.out
      rw [hm] at hx
      clear HX hn2 hn3 hm
      have hor : (n3 = false ∧ n2 = false) ∨ n3 = true ∨ (n3 = false ∧ n2 = true) := by cases n2 <;> cases n3 <;> simp
      rcases hor with ⟨rfl, rfl⟩ | rfl | ⟨rfl, rfl⟩
      · have HX : Hid (3 = checkPod x) := hx
        clear hx
        go_wp2_with fail
        refine (IsName_calls _ _ S9.out).mono ?_
        rintro e w' ⟨rfl, rfl⟩
        rw [HN2.out]
        go_wp2
        go_ret
        exact ⟨ret_i HX.out, HB.out⟩
      case' inr.inr =>
        go_wp2_with fail
        refine (IsName_calls _ _ S9.out).mono ?_
        rintro e w' ⟨rfl, rfl⟩
        rw [HN2.out]
      all_goals
        rw [if_neg (by simp)] at hx
        have HX := Lib.hid hx
        clear hx HN2
        go_wp2
        go_ret
        exact ⟨ret_i HX.out, HB.out⟩
    · rw [if_neg (by simp), orV_r rfl, hmo, if_neg (by simp)] at hx
      go_wp2_with fail
      refine (IsName_calls _ _ S7.out).mono ?_
      rintro e w' ⟨rfl, rfl⟩
      rw [HN2.out]
      clear hmo HN2
      by_cases hc : x.most < 1 ∨ 128 < x.most
      · rw [if_pos hc] at hx
        have HX : Hid (1 = checkPod x) := hx
        clear hx
        rcases hc with hc | hc
        · go_wp2
          go_ret
          exact ⟨ret_i HX.out, HB.out⟩
        · have hc2 : ¬ x.most < 1 := by omega
          go_wp2
          go_ret
          exact ⟨ret_i HX.out, HB.out⟩
      rw [if_neg hc, orV_r rfl] at hx
      have HX := Lib.hid hx
      have t1 : ¬ x.most < 1 := fun h => hc (.inl h)
      have t2 : ¬ 128 < x.most := fun h => hc (.inr h)
      clear hx hc
      go_upto_region 21 with fail
      clear e3 t1 t2
      obtain ⟨n2, hn2⟩ : ∃ n, isName x.node = n := ⟨_, rfl⟩
      obtain ⟨n3, hn3⟩ : ∃ n, decide (x.node = ⟨#[]⟩) = n := ⟨_, rfl⟩
      have e3 := empty_beq x.node
      rw [hn3] at e3
      have hm : maybeV x.node = if n3 = false ∧ n2 = false then 3 else 0 := by rw [← hn2, ← hn3]; rfl
      have HN2 := Lib.hid hn2
      have hx := HX.out
      rw [hm] at hx
      clear HX hn2 hn3 hm
      have hor : (n3 = false ∧ n2 = false) ∨ n3 = true ∨ (n3 = false ∧ n2 = true) := by cases n2 <;> cases n3 <;> simp
      rcases hor with ⟨rfl, rfl⟩ | rfl | ⟨rfl, rfl⟩
      · have HX : Hid (3 = checkPod x) := hx
        clear hx
        go_wp2_with fail
        refine (IsName_calls _ _ S9.out).mono ?_
        rintro e w' ⟨rfl, rfl⟩
        rw [HN2.out]
        go_wp2
        go_ret
        exact ⟨ret_i HX.out, HB.out⟩
      case' inr.inr =>
        go_wp2_with fail
        refine (IsName_calls _ _ S9.out).mono ?_
        rintro e w' ⟨rfl, rfl⟩
        rw [HN2.out]
      all_goals
        rw [if_neg (by simp)] at hx
        have HX := Lib.hid hx
        clear hx HN2
        go_wp2
        go_ret
        exact ⟨ret_i HX.out, HB.out⟩
end Go.Proofs.Ytfbmfjmnpfidoaa

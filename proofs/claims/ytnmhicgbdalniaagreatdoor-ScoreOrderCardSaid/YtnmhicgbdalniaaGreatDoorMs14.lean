import Derived.Test.YtnmhicgbdalniaaGreatDoorMs13
namespace Go.Proofs.YtnmhicgbdalniaaGreatDoor
open Go.RowKit Go.Sort

theorem pass_next {l : List (List UInt8)} {v : List UInt8} {q : Nat} (hp : ∀ i, (hi : i < l.length) → i < q → l[i] < v) {hq : q < l.length} (h : l[q] < v) : ∀ i, (hi : i < l.length) → i < q + 1 → l[i] < v := fun i hi hiq => by
  rcases Nat.lt_or_ge i q with h1 | h1
  · exact hp i hi h1
  · have e : i = q := by omega
    subst e
    exact h
theorem strs_at {w : World} {g : Nat} {l : List (List UInt8)} (h : ∀ j, (hj : j < l.length) → w.cell? ⟨g, j, none⟩ = some (.string (ba l[j]))) (q : Nat) : ∀ j u, ((l.drop q).map encStr)[j]? = some u → w.cell? ⟨g, q + j, none⟩ = some u := fun j u hu => by
  have hj : q + j < l.length := by have := (List.getElem?_eq_some_iff.1 hu).1; simp at this; omega
  rw [h (q + j) hj]
  simp only [List.getElem?_map, List.getElem?_drop, List.getElem?_eq_getElem hj, Option.map_some, Option.some.injEq] at hu
  rw [← hu]; rfl
theorem strs_take {w : World} {g : Nat} {l : List (List UInt8)} (h : ∀ j, (hj : j < l.length) → w.cell? ⟨g, j, none⟩ = some (.string (ba l[j]))) (q : Nat) : ∀ j u, ((l.take q).map encStr)[j]? = some u → w.cell? ⟨g, j, none⟩ = some u := fun j u hu => by
  have hj : j < l.length ∧ j < q := by have := (List.getElem?_eq_some_iff.1 hu).1; simp at this; omega
  rw [h j hj.1]
  simp only [List.getElem?_map, List.getElem?_take, if_pos hj.2, List.getElem?_eq_getElem hj.1, Option.map_some, Option.some.injEq] at hu
  rw [← hu]; rfl
theorem strs_below {w w' : World} {g : Nat} {l : List (List UInt8)} (h : ∀ j, (hj : j < l.length) → w.cell? ⟨g, j, none⟩ = some (.string (ba l[j]))) (hg : g < w.heap.size) (hb : Below w.heap.size w w') : ∀ j, (hj : j < l.length) → w'.cell? ⟨g, j, none⟩ = some (.string (ba l[j])) := fun j hj =>
  (hb.cell (p := ⟨g, j, none⟩) hg).trans (h j hj)
theorem strs_one (l : List (List UInt8)) : ∀ u ∈ l.map encStr, u.oneCell' = true := fun u hu => by
  obtain ⟨c, _, rfl⟩ := List.mem_map.1 hu
  rfl
set_option maxHeartbeats 4000000 in
set_option maxRecDepth 100000 in
theorem rDomains_calls (vs : Value) (s : St) (key : ByteArray) (w : World) (hs : Kd.state.V (vw w []) vs s) (hn : s.nodes.length ≤ 1000) :
    Calls Tryz.prog 220 #[vs, .string key] w (DomsDone (domsV s.nodes key) w) := by
  obtain ⟨i0, hi, hz0, hz1, hz2⟩ := info_parts info_str
  obtain ⟨cs, rfl, hks⟩ := hs
  obtain ⟨A1, c1, A2, c2, A3, c3, rfl, s1, -, -⟩ := hks
  have S1 := Lib.hid s1
  clear s1
  go_enter Tryz.func220, Tryz.ntmps220
  go_wp2
  obtain ⟨W, hW⟩ : ∃ W : World, W = w.alloc (.cells #[.slice A1 s.nodes.length c1, .slice A2 s.pods.length c2, .slice A3 s.budgets.length c3] 51) := ⟨_, rfl⟩
  rw [← hW]
  have hbw : Below w.heap.size w W := by rw [hW]; exact alloc_below _ _
  have k1 : W.heap[w.heap.size]? = some (.cells #[.slice A1 s.nodes.length c1, .slice A2 s.pods.length c2, .slice A3 s.budgets.length c3] 51 (0, 0)) := by
    rw [hW]; exact blk_last _ _
  have HK0 := Lib.hid k1
  have HBW := Lib.hid hbw
  clear hbw k1 hW
  go_wp2
  go_loopw [5, 6] (fun o i wr => ∃ k : Nat, k ≤ s.nodes.length ∧ i = .int .i64 k ∧ Hid (wr.ownsRow W.heap.size 9 1 o (domsV (s.nodes.take k) key).length ((domsV (s.nodes.take k) key).map encStr)) ∧ Hid (Below W.heap.size W wr)) (fun _ i _ => s.nodes.length - (intOf i).toNat)
  case atStart => exact ⟨0, Nat.zero_le _, rfl, World.ownsRow_nil _ _ _ _, Below.refl _ _⟩
  case round =>
    obtain ⟨k, hk, rfl, HO, HB⟩ := hrel
    have q1 := (HB.out.block _ (blk_lt HK0.out)).trans HK0.out
    obtain ⟨z, zf⟩ := blk_all q1
    clear q1
    by_cases hlt : k < s.nodes.length
    · have hdl : (domsV (s.nodes.take k) key).length ≤ k := by
        have := domsV_len (s.nodes.take k) key
        rw [List.length_take] at this; omega
      have hsn := domsV_snoc s.nodes key hlt
      obtain ⟨b, off, cs, rfl, hn2, hc⟩ := S1.out.both (Below.then HBW.out HB.out) k hlt
      obtain ⟨x, hx⟩ : ∃ x, s.nodes[k] = x := ⟨_, rfl⟩
      rw [hx] at hn2 hsn
      obtain ⟨D1, g1, D2, g2, D3, g3, rfl, -, -, t2, -⟩ := hn2
      have T2 : Hid (Kd.pair.S (vw w []) (.slice D2 x.labels.length g2) x.labels) := t2
      have m2 : wr.cell? ⟨b, off + k * 5 + 2, none⟩ = some (.slice D2 x.labels.length g2) := hc 2 _ rfl
      obtain ⟨d, ok, hd⟩ : ∃ d ok, getV x.labels key = (d, ok) := ⟨_, _, rfl⟩
      rw [hd] at hsn
      have HD := Lib.hid hd
      obtain ⟨l, hl⟩ : ∃ l, domsV (s.nodes.take k) key = l := ⟨_, rfl⟩
      rw [hl] at hsn HO hdl
      have HSN := Lib.hid hsn
      clear hc hsn hx t2 hd hl
      have hsz := HB.out.size
      go_wp2_with fail
      refine (Label_calls _ x.labels key _ (T2.out.mono (vw_below (Below.then HBW.out HB.out)))).mono ?_
      unfold GetSame
      rw [HD.out]
      rintro e w2 ⟨rfl, rfl⟩
      clear m2
      simp only
      cases ok with
      | false =>
        have hs2 : domsV (s.nodes.take (k + 1)) key = l := by rw [HSN.out]; simp
        have HS2 := Lib.hid hs2
        clear hs2
        go_wp2
        go_roundw
        case rel => exact ⟨k + 1, by omega, by go_num, by rw [HS2.out]; exact HO, HB.out⟩
        case measure => simp [intOf]; omega
      | true =>
        have hs2 : domsV (s.nodes.take (k + 1)) key = insB (bs d) l := by rw [HSN.out]; simp
        have HS2 := Lib.hid hs2
        clear hs2
        clear z zf
        rcases own_view HO.out with ⟨rfl, rfl⟩ | ⟨g, c, rfl, hbg, hgl, hncap, hcm, hH⟩
        · have HS3 : Hid (domsV (s.nodes.take (k + 1)) key = [bs d]) := by show _ = _; rw [HS2.out]; rfl
          go_wp2
          go_loop [9] (fun j => j = .int .i64 0) (fun _ => 0)
          case atStart => rfl
          case round =>
            subst hrel
            go_wp2_with (at_builtin; refine wpList_app _ wr.heap.size 53 9 i0 (.string ⟨#[]⟩) 1 16 Tryz.underlying53 hi hz0 hz1 hz2 rfl (by decide) _ 0 [] (own_empty wr 9) none 0 _ [] rfl (fun _ => rfl) (fun ad h => by cases h) (fun u hu => by simp at hu) (by simp only [maxLen]; omega) (by omega) (by simp) _ _ rfl rfl rfl rfl ?_)
            intro v1 w1 ho1 hg1 hv1
            have HB1 := Lib.hid ((alloc_below wr (.cells #[] 9)).grown hg1 (by simp) (fun q hq => ((own_empty wr 9).lt q hq).1))
            have HO1 := Lib.hid ho1
            clear ho1 hg1 hv1
            have hz1' := HB1.out.size
            have N2 : ∀ ad, some (⟨w1.heap.size, 0, none⟩ : Addr) = some ad → ∀ j u, [Value.string d][j]? = some u → (w1.alloc (.cells #[.string d] 9)).cell? (ad.add j) = some u := fun ad h => by
              cases h
              exact one_new _ _ _
            go_wp2_with (at_builtin; refine wpList_app _ wr.heap.size 53 9 i0 (.string ⟨#[]⟩) 1 16 Tryz.underlying53 hi hz0 hz1 hz2 rfl (by decide) _ _ _ (HO1.out.alloc _) (some ⟨w1.heap.size, 0, none⟩) 1 1 [.string d] rfl (fun e => by cases e) N2 (by simp [Value.oneCell']) (by simp only [maxLen]; omega) (by omega) (by simp; omega) _ _ rfl rfl rfl rfl ?_)
            intro v2 w2 ho2 hg2 hv2
            have HB2 := Lib.hid ((HB1.out.alloc hz1' (.cells #[.string d] 9)).grown hg2 (by simp; omega) (fun q hq => (HO1.out.lt q hq).1))
            have HO2 := Lib.hid ho2
            clear ho2 hg2 hv2 N2
            have hz2' := HB2.out.size
            go_wp2_with (at_builtin; refine wpList_app _ wr.heap.size 53 9 i0 (.string ⟨#[]⟩) 1 16 Tryz.underlying53 hi hz0 hz1 hz2 rfl (by decide) _ _ _ HO2.out _ _ _ [] (by simp) (fun _ => rfl) (fun ad _ j u hu => by simp at hu) (fun u hu => by simp at hu) (by simp only [maxLen]; omega) (by omega) hz2' _ _ rfl rfl rfl rfl ?_)
            intro v3 w3 ho3 hg3 hv3
            have HB4 := Lib.hid (Below.then HB.out (HB2.out.grown hg3 hz2' (fun q hq => (HO2.out.lt q hq).1)))
            have HO4 : Hid (w3.ownsRow W.heap.size 9 1 v3 (domsV (s.nodes.take (k + 1)) key).length ((domsV (s.nodes.take (k + 1)) key).map encStr)) := by
              show World.ownsRow _ _ _ _ _ _ _
              rw [HS3.out]
              have ho4 := own_base ho3 hsz
              simpa [encStr, bs, List.map_take, List.map_drop] using ho4
            clear ho3 hg3 hv3
            go_wp2
            go_roundw
            case rel => exact ⟨k + 1, by omega, by go_num, HO4.out, HB4.out⟩
            case measure => simp [intOf]; omega
        · have HH := Lib.hid hH
          have HX := Lib.hid (And.intro hbg (And.intro hncap hcm))
          clear hH hbg hncap hcm
          go_wp2
          obtain ⟨wo, hwo⟩ : ∃ wo : World, wo = wr := ⟨_, rfl⟩
          go_loop [9] (fun j => ∃ q : Nat, q ≤ l.length ∧ j = .int .i64 q ∧ Hid (∀ i, (hi : i < l.length) → i < q → l[i] < bs d)) (fun j => l.length - (intOf j).toNat)
          case atStart => exact ⟨0, Nat.zero_le _, rfl, fun i _ h => absurd h (by omega)⟩
          case round =>
            obtain ⟨q, hq, rfl, HP⟩ := hrel
            by_cases hql : q < l.length
            · have c0 := HH.out q hql
              have hb1 : Op.bytesLess (ba l[q]).toList d.toList = decide (l[q] < bs d) := by
                rw [Proofs.bytesLess_eq, Lib.toList_data, Lib.toList_data]; rfl
              by_cases hlv : l[q] < bs d
              · rw [decide_eq_true hlv] at hb1
                have HLV := Lib.hid hlv
                clear hlv
                go_wp2
                go_round
                case rel => exact ⟨q + 1, by omega, by go_num, pass_next HP.out HLV.out⟩
                case measure => simp [intOf]; omega
              · rw [decide_eq_false hlv] at hb1
                by_cases hev : l[q] = bs d
                · have hb2 : ((ba l[q]).toList == d.toList) = true := by rw [hev]; exact str_beq rfl
                  have hs3 : domsV (s.nodes.take (k + 1)) key = l := by rw [HS2.out]; exact insB_same hql HP.out hev
                  have HS3 := Lib.hid hs3
                  clear hs3 hev hlv
                  go_wp2
                  go_roundw
                  case rel => exact ⟨k + 1, by omega, by go_num, by rw [HS3.out]; exact HO, HB.out⟩
                  case measure => simp [intOf]; omega
                · have hb2 : ((ba l[q]).toList == d.toList) = false := str_nbeq (fun h => hev (by rw [← h]; rfl))
                  have hs3 : domsV (s.nodes.take (k + 1)) key = l.take q ++ bs d :: l.drop q := by rw [HS2.out]; exact insB_here hql HP.out hlv hev
                  have HS3 := Lib.hid hs3
                  clear hs3 hev hlv
                  clear HP
                  have b1 : (0 : Int) ≤ (q : Int) := by omega
                  have b2 : (q : Int) ≤ (c : Int) := by have := HX.out.2.1; omega
                  have b3 : (q : Int) ≤ (l.length : Int) := by omega
                  have b4 : q ≤ c := by have := HX.out.2.1; omega
                  have b5 : l.length ≤ c := HX.out.2.1
                  have b6 : (l.length : Int) ≤ (c : Int) := by omega
                  have N0 : ((l.take q).map encStr).length = q * 1 := by rw [List.length_map, List.length_take]; omega
                  have N2 : ∀ ad, some (⟨g, 0, none⟩ : Addr) = some ad → ∀ j u, ((l.take q).map encStr)[j]? = some u → (wr.alloc (.cells #[] 9)).cell? (ad.add j) = some u := fun ad h j u hu => by
                    cases h
                    have := strs_take (strs_below HH.out hgl (alloc_below wr (.cells #[] 9))) q j u hu
                    by_cases hj : j = 0
                    · subst hj
                      simpa [Addr.add] using this
                    · simpa [Addr.add, hj] using this
                  go_wp2_with (at_builtin; refine wpList_app _ wr.heap.size 53 9 i0 (.string ⟨#[]⟩) 1 16 Tryz.underlying53 hi hz0 hz1 hz2 rfl (by decide) _ 0 [] (own_empty wr 9) (some ⟨g, 0, none⟩) q _ ((l.take q).map encStr) N0 (fun e => by cases e) N2 (strs_one _) (by simp only [maxLen]; omega) (by omega) (by simp) _ _ rfl rfl rfl rfl ?_)
                  intro v1 w1 ho1 hg1 hv1
                  have HB1 := Lib.hid ((alloc_below wr (.cells #[] 9)).grown hg1 (by simp) (fun q hq => ((own_empty wr 9).lt q hq).1))
                  have HO1 := Lib.hid ho1
                  clear ho1 hg1 hv1 N0 N2
                  have hz1' := HB1.out.size
                  have N2 : ∀ ad, some (⟨w1.heap.size, 0, none⟩ : Addr) = some ad → ∀ j u, [Value.string d][j]? = some u → (w1.alloc (.cells #[.string d] 9)).cell? (ad.add j) = some u := fun ad h => by
                    cases h
                    exact one_new _ _ _
                  go_wp2_with (at_builtin; refine wpList_app _ wr.heap.size 53 9 i0 (.string ⟨#[]⟩) 1 16 Tryz.underlying53 hi hz0 hz1 hz2 rfl (by decide) _ _ _ (HO1.out.alloc _) (some ⟨w1.heap.size, 0, none⟩) 1 1 [.string d] rfl (fun e => by cases e) N2 (by simp [Value.oneCell']) (by simp only [maxLen]; omega) (by omega) (by simp; omega) _ _ rfl rfl rfl rfl ?_)
                  intro v2 w2 ho2 hg2 hv2
                  have HB2 := Lib.hid ((HB1.out.alloc hz1' (.cells #[.string d] 9)).grown hg2 (by simp; omega) (fun q hq => (HO1.out.lt q hq).1))
                  have HO2 := Lib.hid ho2
                  clear ho2 hg2 hv2 N2
                  have hz2' := HB2.out.size
                  have HH2 := Lib.hid (strs_below HH.out hgl HB2.out)
                  have N0 : ((l.drop q).map encStr).length = (l.length - q) * 1 := by rw [List.length_map, List.length_drop]; omega
                  have N2 : ∀ ad, some (⟨g, q, none⟩ : Addr) = some ad → ∀ j u, ((l.drop q).map encStr)[j]? = some u → w2.cell? (ad.add j) = some u := fun ad h j u hu => by
                    cases h
                    have := strs_at HH2.out q j u hu
                    by_cases hj : j = 0
                    · subst hj
                      simpa [Addr.add] using this
                    · simpa [Addr.add, hj] using this
                  have hqc : ¬ c = q := by have := HX.out.2.1; omega
                  have hqc2 : ¬ q = c := fun h => hqc h.symm
                  have hqc3 : ¬ c - q = 0 := by have := HX.out.2.1; omega
                  go_wp2_with (at_builtin; refine wpList_app _ wr.heap.size 53 9 i0 (.string ⟨#[]⟩) 1 16 Tryz.underlying53 hi hz0 hz1 hz2 rfl (by decide) _ _ _ HO2.out (some ⟨g, q, none⟩) (l.length - q) _ ((l.drop q).map encStr) N0 (fun e => by cases e) N2 (strs_one _) (by simp only [maxLen]; omega) (by omega) hz2' _ _ rfl rfl rfl rfl ?_)
                  intro v3 w3 ho3 hg3 hv3
                  have HB4 := Lib.hid (Below.then HB.out (HB2.out.grown hg3 hz2' (fun q hq => (HO2.out.lt q hq).1)))
                  have HO4 : Hid (w3.ownsRow W.heap.size 9 1 v3 (domsV (s.nodes.take (k + 1)) key).length ((domsV (s.nodes.take (k + 1)) key).map encStr)) := by
                    show World.ownsRow _ _ _ _ _ _ _
                    rw [HS3.out, show (l.take q ++ bs d :: l.drop q).length = q + 1 + (l.length - q) by simp; omega, show (l.take q ++ bs d :: l.drop q).map encStr = (l.map encStr).take q ++ Value.string d :: (l.map encStr).drop q by simp [encStr, bs, List.map_take, List.map_drop]]
                    exact own_base ho3 hsz
                  clear ho3 hg3 hv3 N0 N2
                  go_wp2
                  go_roundw
                  case rel => exact ⟨k + 1, by omega, by go_num, HO4.out, HB4.out⟩
                  case measure => simp [intOf]; omega
            · obtain rfl : q = l.length := by omega
              have hs3 : domsV (s.nodes.take (k + 1)) key = l ++ [bs d] := by rw [HS2.out]; exact insB_all HP.out
              have HS3 := Lib.hid hs3
              clear hs3 HP
              have b1 : (0 : Int) ≤ (l.length : Int) := by omega
              have b2 : (l.length : Int) ≤ (c : Int) := by have := HX.out.2.1; omega
              have b5 : l.length ≤ c := HX.out.2.1
              have N0 : (l.map encStr).length = l.length * 1 := by rw [List.length_map]; omega
              have N2 : ∀ ad, some (⟨g, 0, none⟩ : Addr) = some ad → ∀ j u, (l.map encStr)[j]? = some u → (wr.alloc (.cells #[] 9)).cell? (ad.add j) = some u := fun ad h j u hu => by
                cases h
                have := strs_at (strs_below HH.out hgl (alloc_below wr (.cells #[] 9))) 0 j u (by simpa using hu)
                rw [Nat.zero_add] at this
                by_cases hj : j = 0
                · subst hj
                  simpa [Addr.add] using this
                · simpa [Addr.add, hj] using this
              by_cases hcl : c = l.length
              · subst hcl
                go_wp2_with (at_builtin; refine wpList_app _ wr.heap.size 53 9 i0 (.string ⟨#[]⟩) 1 16 Tryz.underlying53 hi hz0 hz1 hz2 rfl (by decide) _ 0 [] (own_empty wr 9) (some ⟨g, 0, none⟩) l.length _ (l.map encStr) N0 (fun e => by cases e) N2 (strs_one _) (by simp only [maxLen]; omega) (by omega) (by simp) _ _ rfl rfl rfl rfl ?_)
                intro v1 w1 ho1 hg1 hv1
                clear N0 N2
                have HB1 := Lib.hid ((alloc_below wr (.cells #[] 9)).grown hg1 (by simp) (fun q hq => ((own_empty wr 9).lt q hq).1))
                have HO1 := Lib.hid ho1
                clear ho1 hg1 hv1
                have hz1' := HB1.out.size
                have N2 : ∀ ad, some (⟨w1.heap.size, 0, none⟩ : Addr) = some ad → ∀ j u, [Value.string d][j]? = some u → (w1.alloc (.cells #[.string d] 9)).cell? (ad.add j) = some u := fun ad h => by
                  cases h
                  exact one_new _ _ _
                go_wp2_with (at_builtin; refine wpList_app _ wr.heap.size 53 9 i0 (.string ⟨#[]⟩) 1 16 Tryz.underlying53 hi hz0 hz1 hz2 rfl (by decide) _ _ _ (HO1.out.alloc _) (some ⟨w1.heap.size, 0, none⟩) 1 1 [.string d] rfl (fun e => by cases e) N2 (by simp [Value.oneCell']) (by simp only [maxLen]; omega) (by omega) (by simp; omega) _ _ rfl rfl rfl rfl ?_)
                intro v2 w2 ho2 hg2 hv2
                have HB2 := Lib.hid ((HB1.out.alloc hz1' (.cells #[.string d] 9)).grown hg2 (by simp; omega) (fun q hq => (HO1.out.lt q hq).1))
                have HO2 := Lib.hid ho2
                clear ho2 hg2 hv2 N2
                have hz2' := HB2.out.size
                go_wp2_with (at_builtin; refine wpList_app _ wr.heap.size 53 9 i0 (.string ⟨#[]⟩) 1 16 Tryz.underlying53 hi hz0 hz1 hz2 rfl (by decide) _ _ _ HO2.out _ _ _ [] (by simp) (fun e => by cases e) (fun ad _ j u hu => by simp at hu) (fun u hu => by simp at hu) (by simp only [maxLen]; omega) (by omega) hz2' _ _ rfl rfl rfl rfl ?_)
                intro v3 w3 ho3 hg3 hv3
                have HB4 := Lib.hid (Below.then HB.out (HB2.out.grown hg3 hz2' (fun q hq => (HO2.out.lt q hq).1)))
                have HO4 : Hid (w3.ownsRow W.heap.size 9 1 v3 (domsV (s.nodes.take (k + 1)) key).length ((domsV (s.nodes.take (k + 1)) key).map encStr)) := by
                  show World.ownsRow _ _ _ _ _ _ _
                  rw [HS3.out]
                  have ho4 := own_base ho3 hsz
                  simpa [encStr, bs, List.map_take, List.map_drop] using ho4
                clear ho3 hg3 hv3
                go_wp2
                go_roundw
                case rel => exact ⟨k + 1, by omega, by go_num, HO4.out, HB4.out⟩
                case measure => simp [intOf]; omega
              · have hcl2 : ¬ l.length = c := fun h => hcl h.symm
                have hcl3 : ¬ c - l.length = 0 := by omega
                go_wp2_with (at_builtin; refine wpList_app _ wr.heap.size 53 9 i0 (.string ⟨#[]⟩) 1 16 Tryz.underlying53 hi hz0 hz1 hz2 rfl (by decide) _ 0 [] (own_empty wr 9) (some ⟨g, 0, none⟩) l.length _ (l.map encStr) N0 (fun e => by cases e) N2 (strs_one _) (by simp only [maxLen]; omega) (by omega) (by simp) _ _ rfl rfl rfl rfl ?_)
                intro v1 w1 ho1 hg1 hv1
                clear N0 N2
                have HB1 := Lib.hid ((alloc_below wr (.cells #[] 9)).grown hg1 (by simp) (fun q hq => ((own_empty wr 9).lt q hq).1))
                have HO1 := Lib.hid ho1
                clear ho1 hg1 hv1
                have hz1' := HB1.out.size
                have N2 : ∀ ad, some (⟨w1.heap.size, 0, none⟩ : Addr) = some ad → ∀ j u, [Value.string d][j]? = some u → (w1.alloc (.cells #[.string d] 9)).cell? (ad.add j) = some u := fun ad h => by
                  cases h
                  exact one_new _ _ _
                go_wp2_with (at_builtin; refine wpList_app _ wr.heap.size 53 9 i0 (.string ⟨#[]⟩) 1 16 Tryz.underlying53 hi hz0 hz1 hz2 rfl (by decide) _ _ _ (HO1.out.alloc _) (some ⟨w1.heap.size, 0, none⟩) 1 1 [.string d] rfl (fun e => by cases e) N2 (by simp [Value.oneCell']) (by simp only [maxLen]; omega) (by omega) (by simp; omega) _ _ rfl rfl rfl rfl ?_)
                intro v2 w2 ho2 hg2 hv2
                have HB2 := Lib.hid ((HB1.out.alloc hz1' (.cells #[.string d] 9)).grown hg2 (by simp; omega) (fun q hq => (HO1.out.lt q hq).1))
                have HO2 := Lib.hid ho2
                clear ho2 hg2 hv2 N2
                have hz2' := HB2.out.size
                go_wp2_with (at_builtin; refine wpList_app _ wr.heap.size 53 9 i0 (.string ⟨#[]⟩) 1 16 Tryz.underlying53 hi hz0 hz1 hz2 rfl (by decide) _ _ _ HO2.out _ _ _ [] (by simp) (fun e => by cases e) (fun ad _ j u hu => by simp at hu) (fun u hu => by simp at hu) (by simp only [maxLen]; omega) (by omega) hz2' _ _ rfl rfl rfl rfl ?_)
                intro v3 w3 ho3 hg3 hv3
                have HB4 := Lib.hid (Below.then HB.out (HB2.out.grown hg3 hz2' (fun q hq => (HO2.out.lt q hq).1)))
                have HO4 : Hid (w3.ownsRow W.heap.size 9 1 v3 (domsV (s.nodes.take (k + 1)) key).length ((domsV (s.nodes.take (k + 1)) key).map encStr)) := by
                  show World.ownsRow _ _ _ _ _ _ _
                  rw [HS3.out]
                  have ho4 := own_base ho3 hsz
                  simpa [encStr, bs, List.map_take, List.map_drop] using ho4
                clear ho3 hg3 hv3
                go_wp2
                go_roundw
                case rel => exact ⟨k + 1, by omega, by go_num, HO4.out, HB4.out⟩
                case measure => simp [intOf]; omega
    · obtain rfl : k = s.nodes.length := by omega
      have ho := HO.out
      rw [List.take_length] at ho
      have HO3 := Lib.hid (own_base ho HBW.out.size)
      have HB3 := Lib.hid (Below.then HBW.out HB.out)
      clear ho HO
      go_wp2
      go_ret
      exact ⟨_, rfl, HO3.out, HB3.out⟩
end Go.Proofs.YtnmhicgbdalniaaGreatDoor

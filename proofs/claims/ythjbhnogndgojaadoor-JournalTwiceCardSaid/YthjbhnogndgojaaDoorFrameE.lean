import Derived.Test.YthjbhnogndgojaaDoorFrameD
import Derived.Test.YthjbhnogndgojaaDoorShelf
import Derived.WalkSpells
namespace Go.Proofs.YthjbhnogndgojaaDoor
open Go.RowKit

theorem info_u8 : (Tryd.prog.info? 5).map (fun i => (i.zero, i.size, i.bytes)) = some (some (.int .u8 0), 1, 1) := by kernel_rfl
def u8V (l : List UInt8) : List Value := l.map fun c => .int .u8 (c.toNat : Int)

set_option maxHeartbeats 1000000 in
theorem clone_u8 (v : Value) (b : List UInt8) (w : World) (hs : Kd.u8.S (vw w []) v b) :
    Calls Tryd.prog 42 #[v] w fun e w' => ∃ sv, e = .returned sv ∧ w'.ownsRow w.heap.size 5 1 sv b.length (u8V b) ∧ Below w.heap.size w w' := by
  obtain ⟨i0, hi, hz0, hz1, hz2⟩ := info_parts info_u8
  obtain ⟨A, cap, rfl, hcap, hlen, hnil, hcell⟩ := id hs
  clear hcell hnil
  have HS := Lib.hid hs
  clear hs
  cases A with
  | none =>
    have hb : b = [] := by
      cases b with
      | nil => rfl
      | cons c r => obtain ⟨g, off, e, _⟩ := HS.out.elem1 0 (by simp); cases e
    subst hb
    have hn : (binOp .eql 22 (.slice none 0 cap) (.slice none 0 0)).run Tryd.prog w = .ok (.bool true) w := Lib.run_eql_slice_nil w 22 5 none 0 cap 0 0 Tryd.underlying22
    go_enter Tryd.func42, Tryd.ntmps42
    go_wp2
    go_ret
    exact ⟨_, rfl, World.ownsRow_nil _ _ _ _, Below.refl _ _⟩
  | some ad =>
    have hn : (binOp .eql 22 (.slice (some ad) b.length cap) (.slice none 0 0)).run Tryd.prog w = .ok (.bool false) w := Lib.run_eql_slice_nil w 22 5 (some ad) b.length cap 0 0 Tryd.underlying22
    go_enter Tryd.func42, Tryd.ntmps42
    have hown0 : (w.alloc (.cells #[] 5)).ownsRow w.heap.size 5 1 (.slice (some ⟨w.heap.size, 0, none⟩) 0 0) 0 [] :=
      ⟨rfl, .inr ⟨w.heap.size, 0, #[], rfl, Nat.le_refl _, blk_last _ _, Nat.le_refl _, by simp [maxLen], rfl, rfl⟩⟩
    have HO := Lib.hid hown0
    clear hown0
    go_wp2_with (at_builtin; refine wpList_append_own _ rfl _ _ 22 rfl w.heap.size 5 i0 (.int .u8 0) 1 1 Tryd.underlying22 hi hz0 hz1 hz2 rfl (by decide) _ 0 [] rfl HO.out ad b.length cap (u8V b) rfl ?c1 ?c2 ?c3 ?c4 ?c5 ?c6 ?_)
    · simp [u8V]
    · exact (HS.out.mono (vw_alloc _)).news
    · intro u hu
      obtain ⟨c, _, rfl⟩ := List.mem_map.1 hu
      rfl
    · simp only [maxLen]; omega
    · omega
    · simp
    intro v' w2 hown' hgrow _
    have HO2 := Lib.hid hown'
    have HB2 := Lib.hid (((Below.refl _ _).alloc (Nat.le_refl _) _).grown hgrow (by simp) (fun q hq => (HO.out.lt q hq).1))
    clear hown' hgrow hn
    go_wp2
    go_ret
    exact ⟨_, rfl, by simpa using HO2.out, HB2.out⟩
end Go.Proofs.YthjbhnogndgojaaDoor

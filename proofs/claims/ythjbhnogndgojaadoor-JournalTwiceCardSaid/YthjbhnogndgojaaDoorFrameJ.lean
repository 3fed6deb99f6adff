import Derived.Test.YthjbhnogndgojaaDoorFrameP
import Derived.Test.YthjbhnogndgojaaDoorFrameH
import Derived.Laws.BytesString
namespace Go.Proofs.YthjbhnogndgojaaDoor
open Go.RowKit

/-- A slice that reads as bytes, written so that a walk sees its length. -/
theorem u8_of_own {w : World} {base : Nat} {v : Value} {n : Nat} {l : List UInt8} (h : w.ownsRow base 5 1 v n (u8V l)) (hl : l.length ≤ 140737488351232) :
    ∃ A cap, v = .slice A l.length cap ∧ Kd.u8.S (vw w []) (.slice A l.length cap) l := by
  have s : Kd.u8.S (vw w []) v l := Kd.S.of_own (f := fun c : UInt8 => .int .u8 (c.toNat : Int)) h hl (fun _ _ => trivial) (fun _ _ => by simp)
  obtain ⟨A, cap, rfl, _⟩ := id s
  exact ⟨A, cap, rfl, s⟩
theorem strs_of_own {w : World} {base : Nat} {v : Value} {n : Nat} {l : List (List UInt8)} (h : w.ownsRow base 9 1 v n (strsV l)) (hl : l.length ≤ 140737488351232) (hp : ∀ t ∈ l, t.length ≤ 4096) :
    ∃ A cap, v = .slice A l.length cap ∧ Kd.str.S (vw w []) (.slice A l.length cap) (l.map bs) := by
  have e : strsV l = (l.map bs).map Value.string := by simp [strsV]
  rw [e] at h
  have s : Kd.str.S (vw w []) v (l.map bs) := Kd.S.of_own (f := Value.string) h (by simpa using hl) (fun x hx => by
    obtain ⟨t, ht, rfl⟩ := List.mem_map.1 hx
    have := hp t ht
    rw [bs_size]; omega) (fun _ _ => by simp)
  obtain ⟨A, cap, rfl, _⟩ := id s
  rw [List.length_map] at s ⊢
  exact ⟨A, cap, rfl, s⟩
theorem putV_le (b t : List UInt8) (hb : b.length ≤ 16777216) : (putV b t).1.length ≤ 16777216 + 4119 := by
  unfold putV
  split
  · simp only; omega
  · have := frm_le t (by omega)
    simp only [List.length_append]; omega
/-- What a call gives that makes bytes and an error. -/
def BytesDone (r : List UInt8 × Int) (w : World) (e : Ending) (w' : World) : Prop :=
  ∃ A cap, e = .returned (.tuple #[.slice A r.1.length cap, .int .i64 r.2]) ∧ Kd.u8.S (vw w' []) (.slice A r.1.length cap) r.1 ∧ Below w.heap.size w w'
/-- What a call gives that makes texts and a number. -/
def TextsDone (r : List (List UInt8) × Nat) (w : World) (e : Ending) (w' : World) : Prop :=
  ∃ A cap, e = .returned (.tuple #[.slice A r.1.length cap, .int .i64 r.2]) ∧ Kd.str.S (vw w' []) (.slice A r.1.length cap) (r.1.map bs) ∧ Below w.heap.size w w'

theorem put_S (B : Nat) (v : Value) (b : List UInt8) (t : ByteArray) (w : World) (hs : Kd.u8.S (vw w []) v b) (hb : b.length ≤ 16777216) (ht : t.size ≤ 140737488351232) (hB : B ≤ w.heap.size) (htab : Tab B w) :
    Calls Tryd.prog 16 #[v, .string t] w (BytesDone (putV b t.data.toList) w) := by
  refine (Put_calls B v b t w hs hb ht hB htab).mono ?_
  rintro e w' ⟨sv, rfl, ho, hb'⟩
  have := putV_le b t.data.toList hb
  obtain ⟨A, cap, rfl, s⟩ := u8_of_own ho (by omega)
  exact ⟨A, cap, rfl, s, hb'⟩
theorem rput_S (v : Value) (b : List UInt8) (t : ByteArray) (w : World) (hs : Kd.u8.S (vw w []) v b) (hb : b.length ≤ 16777216) (ht : t.size ≤ 140737488351232) :
    Calls Tryd.prog 17 #[v, .string t] w (BytesDone (putV b t.data.toList) w) := by
  refine (rPut_calls v b t w hs hb ht).mono ?_
  rintro e w' ⟨sv, rfl, ho, hb'⟩
  have := putV_le b t.data.toList hb
  obtain ⟨A, cap, rfl, s⟩ := u8_of_own ho (by omega)
  exact ⟨A, cap, rfl, s, hb'⟩
theorem all_S (v : Value) (b : List UInt8) (w : World) (hs : Kd.u8.S (vw w []) v b) (hb : b.length ≤ 16777216) :
    Calls Tryd.prog 14 #[v] w (TextsDone (allV b) w) := by
  refine (All_calls v b w hs hb).mono ?_
  rintro e w' ⟨sv, rfl, ho, hb'⟩
  have := allV_le b
  obtain ⟨A, cap, rfl, s⟩ := strs_of_own ho (by omega) this.1
  exact ⟨A, cap, rfl, s, hb'⟩
theorem rall_S (v : Value) (b : List UInt8) (w : World) (hs : Kd.u8.S (vw w []) v b) (hb : b.length ≤ 16777216) :
    Calls Tryd.prog 15 #[v] w (TextsDone (allV b) w) := by
  refine (rAll_calls v b w hs hb).mono ?_
  rintro e w' ⟨sv, rfl, ho, hb'⟩
  have := allV_le b
  obtain ⟨A, cap, rfl, s⟩ := strs_of_own ho (by omega) this.1
  exact ⟨A, cap, rfl, s, hb'⟩
/-- Bytes as a text. -/
theorem conv_all {w : World} {A : Option Addr} {n cap : Nat} {b : List UInt8} (hs : Kd.u8.S (vw w []) (.slice A n cap) b) :
    (convert 22 9 (.slice A n cap)).run Tryd.prog w = .ok (.string (bs b)) w := by
  obtain ⟨rfl, _⟩ := hs.form
  cases A with
  | none =>
    obtain ⟨rfl, rfl⟩ := hs.cap_none
    rw [List.length_nil, run_convert_bytes_string w 22 9 5 none 0 0 Tryd.underlying22 Tryd.underlying5 Tryd.underlying9]
    rfl
  | some ad =>
    have := run_convert_bytes_back (P := Tryd.prog) w 22 9 5 ad cap b Tryd.underlying22 Tryd.underlying5 Tryd.underlying9 (fun j hj => by
      obtain ⟨g', off', e', hcj, _⟩ := hs.elem1 j hj
      injection e' with e'
      subst e'
      rw [Kd.addr_add, hcj])
    exact this
end Go.Proofs.YthjbhnogndgojaaDoor

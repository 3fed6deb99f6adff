import Derived.Test.YthjbhnogndgojaaDoorRows
import Derived.Test.YthjbhnogndgojaaDoorFrameF
import Derived.Lib.LaidU8
import Derived.LaidHandle
import Derived.LaidLaws
import Derived.Handed
import Derived.OpenShut
import Derived.MakeChecks
namespace Go.Proofs.YthjbhnogndgojaaDoor
open Go.RowKit Go.ChangeShapes Go.WideShapes Go.ChangeAt

theorem Kd.opens_u8 {P : Program} {t : TypeId} (hs : P.cellsOf t = 1) (h : P.underlying t = some (.int .u8)) : Kd.u8.Opens P t := by
  refine ⟨hs, fun {H enc w base sp held fuel cs x} hx _ => ?_⟩
  obtain ⟨n, e, rfl, hw⟩ := DataW.trod_int h hx
  have hb := bounds_u8 hw
  refine ⟨UInt8.ofNat n.toNat, ?_, trivial⟩
  rw [e]
  have : (UInt8.ofNat n.toNat).toNat = n.toNat := by simp; omega
  show [Value.int .u8 n] = [Value.int .u8 ((UInt8.ofNat n.toNat).toNat : Int)]
  rw [this]; congr 2; omega
/-- What the rows say of the variables that they list. -/
def laidL : List (String × DataW Unit) := [("math/bits.deBruijn32tab", Rows.laid_math_bits_deBruijn32tab), ("math/bits.deBruijn64tab", Rows.laid_math_bits_deBruijn64tab), ("internal/strconv.uint64pow10", Rows.laid_internal_strconv_uint64pow10)]
def cellsOfData : DataW Unit → List Value
  | .agg l => l.map fun
    | .lit (.int k n) => .int k n
    | _ => .bool false
  | _ => []
/-- A world in which they read so: the settled one, the three variables' cells laid. -/
noncomputable def laidWorld (os : Os) : World :=
  let w0 := World.holding Tryd.prog os ⟨#[], #[], []⟩
  let put (h : Array Obj) (g : Nat) (cs : Array Value) : Array Obj := h.modify g fun
    | .cells _ t frozen => .cells cs t frozen
    | o => o
  { w0 with heap := laidL.foldl (fun h x => put h ((Tryd.prog.globalNamed x.1).getD 0) (cellsOfData x.2).toArray) w0.heap }
theorem laid_met (os : Os) (args : Array Value) : laidMetH Tryd.prog laidL ((laidWorld os).forCall (fun _ _ => 0) ⟨#[], args, []⟩).memory :=
  laidMetH_of_parts (laidMet_of_run' 4 (by kernel_rfl) (by kernel_rfl)) (by kernel_rfl)
theorem tab_of_laid {W : World} (h : laidMetH Tryd.prog laidL W) : Tab W.heap.size W := by
  refine Lib.tabBelow_of_tabIs ?_
  rw [Go.MakeChecks.laidMetH_plain _ _ _ (by kernel_rfl)] at h
  obtain ⟨g, t, cs, fuel, p, hg, ht, hvar, hd⟩ := Lib.laidMet.reads h (n := "internal/strconv.uint64pow10") (d := Lib.tabData .u64 Lib.pow10Tab) (by
    have e : (Lib.tabData .u64 Lib.pow10Tab : DataW Unit) = Rows.laid_internal_strconv_uint64pow10 := by kernel_rfl
    rw [e]; simp [laidL])
  have hg0 : Tryd.prog.globalNamed "internal/strconv.uint64pow10" = some 0 := by kernel_rfl
  obtain rfl := Option.some.inj (hg0.symm.trans hg)
  have ht0 : (Tryd.prog.globals[0]?).map (·.type) = some 89 := by kernel_rfl
  obtain rfl := Option.some.inj (ht0.symm.trans ht)
  unfold Lib.TabIs
  rw [hvar, ← Lib.cells_of_tab Tryd.underlying89 Tryd.underlying79 (by kernel_rfl) (by kernel_rfl) hd]
end Go.Proofs.YthjbhnogndgojaaDoor

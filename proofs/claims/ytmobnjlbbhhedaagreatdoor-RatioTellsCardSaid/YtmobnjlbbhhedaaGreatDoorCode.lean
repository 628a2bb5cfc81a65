/- The walk of outriggerlaw01.Code: errors.As at a code of the project's own kind. -/
import Derived.Test.YtmobnjlbbhhedaaGreatDoorAsA
import Derived.Test.YtmobnjlbbhhedaaGreatDoorNatB
set_option linter.unusedVariables false
set_option linter.unusedSimpArgs false
namespace Go.Proofs.YtmobnjlbbhhedaaGreatDoor
open Go.RowKit

/-- What package errors' variable reads as. -/
def Handle (w : World) : Prop := w.cell? ⟨0, 0, none⟩ = some (.iface 123 (.agg #[.pointer (some ⟨7, 30, none⟩)]))
theorem Handle.below {w w' : World} (h : Handle w) (hb : Below w.heap.size w w') : Handle w' := cell_below hb h
theorem code_nil (w : World) : Calls Tryz.prog 17 #[.nilIface] w fun e w' => e = .returned (.int .i64 0) ∧ w' = w := by
  go_enter Tryz.func17, Tryz.ntmps17
  go_wp2_with fail
  go_ret
  exact ⟨rfl, rfl⟩
theorem as_code (n : Int) (w : World) (h : Handle w) :
    Calls Tryz.prog 38 #[.iface 57 (.int .i64 n), .iface 71 (.pointer (some ⟨w.heap.size, 0, none⟩))] (w.alloc (.cells #[.int .i64 0] 57)) fun e w' => e = .returned (.bool true) ∧ w'.cell? ⟨w.heap.size, 0, none⟩ = some (.int .i64 n) ∧ Below w.heap.size w w' := by
  have hlt : 0 < w.heap.size := World.block_lt_of_cell? w _ h
  refine (as_hit n ⟨w.heap.size, 0, none⟩ (.int .i64 0) (w.alloc (.cells #[.int .i64 0] 57)) ?_ ?_ ?_).mono ?_
  · rw [World.cell?_alloc_lt _ _ _ hlt]; exact h
  · rw [World.cell?_alloc_at _ _ _ _ rfl]; rfl
  · simp
  · rintro e w' ⟨rfl, rfl⟩
    refine ⟨rfl, ?_, ?_⟩
    · have hz : ∀ (W : World) (o : Obj), w.heap.size < W.heap.size → w.heap.size < (W.alloc o).heap.size := fun W o h => by simp; omega
      have hb : w.heap.size < (w.alloc (.cells #[.int .i64 0] 57)).heap.size := by simp
      refine World.cell?_setCell_same _ _ _ (u := .int .i64 0) ?_
      rw [World.cell?_alloc_lt _ _ _ (hz _ _ (hz _ _ (hz _ _ hb))), World.cell?_alloc_lt _ _ _ (hz _ _ (hz _ _ hb)), World.cell?_alloc_lt _ _ _ (hz _ _ hb), World.cell?_alloc_lt _ _ _ hb, World.cell?_alloc_at _ _ _ _ rfl]
      rfl
    · exact ((((((Below.refl _ w).alloc (Nat.le_refl _) _).alloc (by simp) _).alloc (by simp; omega) _).alloc (by simp; omega) _).alloc (by simp; omega) _).setCell (by simp) _
set_option maxRecDepth 100000 in
theorem code_calls (n : Int) (hn : 0 < n) (w : World) (h : Handle w) :
    Calls Tryz.prog 17 #[errN n] w fun e w' => e = .returned (.int .i64 n) ∧ Below w.heap.size w w' := by
  have H := Lib.hid h
  clear h
  have hd : decide (0 < n) = true := by simpa using hn
  unfold errN
  go_enter Tryz.func17, Tryz.ntmps17
  go_wp2_with fail
  refine (as_code n w H.out).mono ?_
  rintro e w1 ⟨rfl, hc, hb⟩
  have B := Lib.hid hb
  clear hb
  go_wp2_with fail
  go_ret
  exact ⟨rfl, B.out⟩
end Go.Proofs.YtmobnjlbbhhedaaGreatDoor

/- The deferred closure of serve.Traced, by walking its text. -/
import Derived.Test.YtmoajobnhiopiaaGreatDoorPolR
import Derived.Defers
set_option linter.unusedSimpArgs false
set_option linter.unusedVariables false
namespace Go.Proofs.YtmoajobnhiopiaaGreatDoor.sv
open Go Go.RowKit Go.Shelf Go.Maps Go.Proofs.YtmoajobnhiopiaaGreatDoor.mk Go.Proofs.YtmoajobnhiopiaaGreatDoor.tp Go.Proofs.YtmoajobnhiopiaaGreatDoor.rg Go.Proofs.YtmoajobnhiopiaaGreatDoor.lm Go.Proofs.YtmoajobnhiopiaaGreatDoor.gm Go.Proofs.YtmoajobnhiopiaaGreatDoor.po

set_option maxRecDepth 100000 in
set_option maxHeartbeats 4000000 in
theorem traced_off (ge go : Nat) (u : FrameMode) (w : World) (he : w.cell? ⟨ge, 0, none⟩ = some (.int .i64 0)) :
    CallsD Tryz.prog 59 #[.pointer (some ⟨ge, 0, none⟩), .pointer (some ⟨go, 0, none⟩)] u w fun e u' w' => u' = u ∧ (e = .returned (.tuple #[]) ∧ w' = w) := by
  go_enter_d Tryz.func59, Tryz.ntmps59
  go_wp2_with fail
  go_end0
  exact ⟨rfl, rfl⟩
set_option maxRecDepth 100000 in
set_option maxHeartbeats 4000000 in
theorem traced_on (n : Int) (hn : n ≠ 0) (hu : IntKind.u8.wrap n = n) (ge go : Nat) (u : FrameMode) (w : World) (he : w.cell? ⟨ge, 0, none⟩ = some (.int .i64 n)) (v : Value) (t : TypeId) (ho : w.heap[go]? = some (.cells #[v] t (0, 0))) :
    CallsD Tryz.prog 59 #[.pointer (some ⟨ge, 0, none⟩), .pointer (some ⟨go, 0, none⟩)] u w fun e u' w' => u' = u ∧ (e = .returned (.tuple #[]) ∧
      (∃ g, w'.heap[go]? = some (.cells #[.slice (some ⟨g, 0, none⟩) 1 1] t (0, 0)) ∧ w'.heap[g]? = some (.cells #[.int .u8 n] 5 (0, 0))) ∧ Keeps (fun b => b = go) w w') := by
  have hlt : go < w.heap.size := (Array.getElem?_eq_some_iff.1 ho).1
  have hn' : (n != 0) = true := by simp [hn]
  have ho' : (w.alloc (.cells #[.int .u8 n] 5)).heap[go]? = some (.cells #[v] t (0, 0)) := (((Keeps.refl (fun _ => False) w).alloc (.cells #[.int .u8 n] 5)).block go hlt (fun h => h)).trans ho
  have c0 : (w.alloc (.cells #[.int .u8 n] 5)).cell? ⟨go, 0, none⟩ = some v := cells_at ho' 0
  have f0 := two_frozen ho' 0
  have HO := Lib.hid ho
  clear ho ho'
  go_enter_d Tryz.func59, Tryz.ntmps59
  go_wp2_with fail
  go_end0
  have hs : ∀ v : Value, (w.setCell ⟨go, 0, none⟩ v).heap.size = w.heap.size := fun v => by simp
  have hk : ∀ v : Value, Keeps (fun b => b = go) w (w.setCell ⟨go, 0, none⟩ v) := fun v => Keeps.setCell (S := fun b => b = go) (Keeps.refl _ w) ⟨go, 0, none⟩ (fun _ => rfl) v
  refine ⟨rfl, ⟨w.heap.size, ?_, ?_⟩, (hk _).alloc _⟩
  · exact (((Keeps.refl (fun _ => False) _).alloc _).block go (by rw [hs]; exact hlt) (fun h => h)).trans (cells_put HO.out 0 _)
  · have := heap_alloc_new (w.setCell ⟨go, 0, none⟩ (.slice (some ⟨w.heap.size, 0, none⟩) 1 1)) (.cells #[.int .u8 n] 5)
    rw [hs] at this
    exact this
end Go.Proofs.YtmoajobnhiopiaaGreatDoor.sv

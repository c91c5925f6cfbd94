/- engine.operations, by walking its text. -/
import Derived.Test.YtmoajobnhiopiaaGreatDoorSrvI
import Derived.WideMake
set_option linter.unusedSimpArgs false
set_option linter.unusedVariables false
namespace Go.Proofs.YtmoajobnhiopiaaGreatDoor.sv
open Go Go.RowKit Go.Shelf Go.Maps Go.Proofs.YtmoajobnhiopiaaGreatDoor.mk Go.Proofs.YtmoajobnhiopiaaGreatDoor.tp Go.Proofs.YtmoajobnhiopiaaGreatDoor.rg Go.Proofs.YtmoajobnhiopiaaGreatDoor.lm Go.Proofs.YtmoajobnhiopiaaGreatDoor.gm Go.Proofs.YtmoajobnhiopiaaGreatDoor.po

theorem upd_ex {P : Program} (w : World) (mty kt et : TypeId) (r clock : Nat) (es : Array MapEntry) (n : Int) (val : Value) (hm : P.underlying mty = some (.map kt et)) (hk : P.underlying kt = some (.int .i64)) (hb : w.heap[r]? = some (.map es clock)) (hf : Instr.findNow (.int .i64) (.int .i64 n) es.toList 0 = some none) :
    ∃ w', (Instr.mapUpdate mty (.map (some r)) (.int .i64 n) val).run P w = .ok () w' ∧ w'.heap[r]? = some (.map (es.push { key := .int .i64 n, val := val, born := clock }) (clock + 1)) ∧ Keeps (fun j => j = r) w w' := by
  have hc : (Instr.checkKey false 10000 kt (.int .i64 n)).run P w = .ok () w := MapKept.run_checkKey (k := .int .i64 n) hk (by simp [MapKept.IsKey]) false 9999
  have hlt : r < w.heap.size := (Array.getElem?_eq_some_iff.1 hb).1
  refine ⟨{ w with heap := w.heap.setIfInBounds r (.map (es.push { key := .int .i64 n, val := val, born := clock }) (clock + 1)) }, ?_, ?_, ?_⟩
  · simp [Instr.mapUpdate, run_underlying hm, MapKept.run_getObj_map hb, hc, MapKept.run_findKey hk hf, MapKept.run_setObj_map _ hb, Result.andThen]
  · simp [Array.getElem?_setIfInBounds, hlt]
  · exact ⟨rfl, rfl, rfl, by simp, fun k _ h => by simp [Array.getElem?_setIfInBounds, Ne.symm h]⟩
theorem run_look {P : Program} (w : World) (mty kt et : TypeId) (r clock : Nat) (es : Array MapEntry) (n : Int) (val : Value) (i : Nat) (hm : P.underlying mty = some (.map kt et)) (hk : P.underlying kt = some (.int .i64)) (hb : w.heap[r]? = some (.map es clock)) (hf : Instr.findNow (.int .i64) (.int .i64 n) es.toList 0 = some (some (i, val))) :
    (Instr.lookup mty (.map (some r)) (.int .i64 n) true).run P w = .ok (.tuple #[val, .bool true]) w := by
  have hc : ∀ b, (Instr.checkKey b 10000 kt (.int .i64 n)).run P w = .ok () w := fun b => MapKept.run_checkKey (k := .int .i64 n) hk (by simp [MapKept.IsKey]) b 9999
  simp [Instr.lookup, run_underlying hm, MapKept.run_getObj_map hb, hc, MapKept.run_findKey hk hf, Result.andThen]
/-- The map of operations at block r. -/
def OpsAt (w : World) (r : Nat) : Prop := ∃ (es : Array MapEntry) (clock : Nat), w.heap[r]? = some (.map es clock) ∧ Instr.findNow (.int .i64) (.int .i64 1) es.toList 0 = some (some (0, .agg #[.func (.func 150) #[] #[]]))
set_option maxRecDepth 100000 in
set_option maxHeartbeats 4000000 in
theorem operations_calls (w : World) : Calls Tryz.prog 127 #[] w fun e w' => (∃ m, e = .returned (.map (some m)) ∧ OpsAt w' m) ∧ Keeps (fun _ => False) w w' := by
  have hk0 : Keeps (fun _ => False) w (w.alloc (.map #[] 0)) := (Keeps.refl _ w).alloc _
  obtain ⟨w1, u1, b1, k1⟩ := upd_ex (P := Tryz.prog) (w.alloc (.map #[] 0)) 200 3 198 w.heap.size 0 #[] 1 (.agg #[.func (.func 150) #[] #[]]) Tryz.underlying200 Tryz.underlying3 (heap_alloc_new w _) rfl
  obtain ⟨w2, u2, b2, k2⟩ := upd_ex (P := Tryz.prog) w1 200 3 198 w.heap.size _ _ 2 (.agg #[.func (.func 151) #[] #[]]) Tryz.underlying200 Tryz.underlying3 b1 rfl
  obtain ⟨w3, u3, b3, k3⟩ := upd_ex (P := Tryz.prog) w2 200 3 198 w.heap.size _ _ 3 (.agg #[.func (.func 152) #[] #[]]) Tryz.underlying200 Tryz.underlying3 b2 rfl
  obtain ⟨w4, u4, b4, k4⟩ := upd_ex (P := Tryz.prog) w3 200 3 198 w.heap.size _ _ 4 (.agg #[.func (.func 154) #[] #[]]) Tryz.underlying200 Tryz.underlying3 b3 rfl
  have B4 := Lib.hid b4
  have K4 := Lib.hid ((((hk0.trans k1 (fun i hi h => by omega)).trans k2 (fun i hi h => by omega)).trans k3 (fun i hi h => by omega)).trans k4 (fun i hi h => by omega))
  have hmk := fun w => run_makeMap_plain (P := Tryz.prog) w 200
  clear b1 b2 b3 b4 k1 k2 k3 k4 hk0
  go_enter Tryz.func127, Tryz.ntmps127
  go_wp2_with (simp only [hmk, u1, u2, u3, u4])
  go_ret
  exact ⟨⟨_, rfl, _, _, B4.out, rfl⟩, K4.out⟩
end Go.Proofs.YtmoajobnhiopiaaGreatDoor.sv

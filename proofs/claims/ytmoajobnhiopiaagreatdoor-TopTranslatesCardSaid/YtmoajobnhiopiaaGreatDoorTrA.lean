import Derived.Test.YtmoajobnhiopiaaGreatDoorTrA5
import Derived.Test.YtmoajobnhiopiaaGreatDoorRows
import Derived.ProofKit
import Derived.OpenShut
import Derived.Deep.Slices
import Derived.Deep.Strs
import Derived.SizedLaws
import Derived.ChangeSame
import Derived.JoinedOf
import Derived.WideKeyArgs
import Derived.Lib.SmallJoins
import Derived.Lib.LaidTab
import Derived.Test.YtmoajobnhiopiaaGreatDoorCards
import Derived.Test.YtmoajobnhiopiaaGreatDoorTie
import Derived.WalkKit
import Derived.Deep.DeepHandedRow
set_option linter.unusedSimpArgs false
set_option linter.unusedVariables false
namespace Go.Proofs.YtmoajobnhiopiaaGreatDoor.sv
open Go Go.RowKit Go.Shelf Go.Maps Go.Proofs.YtmoajobnhiopiaaGreatDoor.mk Go.Proofs.YtmoajobnhiopiaaGreatDoor.tp Go.Proofs.YtmoajobnhiopiaaGreatDoor.rg Go.Proofs.YtmoajobnhiopiaaGreatDoor.lm Go.Proofs.YtmoajobnhiopiaaGreatDoor.gm Go.Proofs.YtmoajobnhiopiaaGreatDoor.po
open List renaming getElem_toArray → ga, getElem_cons_zero → gb, getElem_cons_succ → gc, setIfInBounds_toArray → gd, set_cons_zero → ge, set_cons_succ → gf
def ptsV (l : List (Int × Int)) : List Value := l.flatMap ptV
def regsV (l : List Reg) : List Value := l.flatMap fun r => ptsV r.2.2
def qyV (q : Qry) : List Value := ptV q.1 ++ le8V q.2
def qsV (l : List Qry) : List Value := l.flatMap qyV
theorem ptsV_step {l : List (Int × Int)} {k : Nat} (h : k < l.length) : ptsV (l.take (k + 1)) = ptsV (l.take k) ++ ptV (pt l k) := by
  have : l.take (k + 1) = l.take k ++ [pt l k] := by
    rw [List.take_add_one, List.getElem?_eq_getElem h]
    unfold pt
    rw [List.getD_eq_getElem?_getD, List.getElem?_eq_getElem h]
    rfl
  rw [this]
  unfold ptsV
  simp
theorem regsV_step {l : List Reg} {k : Nat} (h : k < l.length) : regsV (l.take (k + 1)) = regsV (l.take k) ++ ptsV (rg l k).2.2 := by
  rw [rg_take h]
  unfold regsV
  simp
theorem qsV_step {l : List Qry} {k : Nat} (h : k < l.length) : qsV (l.take (k + 1)) = qsV (l.take k) ++ qyV (qy l k) := by
  have : l.take (k + 1) = l.take k ++ [qy l k] := by
    rw [List.take_add_one, List.getElem?_eq_getElem h]
    unfold qy
    rw [List.getD_eq_getElem?_getD, List.getElem?_eq_getElem h]
    rfl
  rw [this]
  unfold qsV
  simp
set_option maxRecDepth 100000 in
theorem rcounts_4 (xv p0 : Int) (ao : Option Addr) (n cap : Nat) (w : World) : Calls Tryz.prog 56 #[.agg #[.int .i64 4, .int .i64 xv, .slice ao n cap, .int .i64 p0]] w fun e w' => e = .returned (.tuple #[.int .i64 (1), .int .i64 (0)]) ∧ Keeps (fun _ => False) w w' := by
  obtain ⟨w1, hw1⟩ : ∃ w1, w.alloc (.cells #[.int .i64 4, .int .i64 xv, .slice ao n cap, .int .i64 p0] 27) = w1 := ⟨_, rfl⟩
  have hg := heap_alloc_new w (.cells #[.int .i64 4, .int .i64 xv, .slice ao n cap, .int .i64 p0] 27)
  have hk1 : Keeps (fun _ => False) w w1 := by rw [← hw1]; exact (Keeps.refl _ w).alloc _
  rw [hw1] at hg
  have c0 := cells_at hg 0
  have c1 := cells_at hg 1
  have c2 := cells_at hg 2
  have c3 := cells_at hg 3
  go_enter Tryz.func56, Tryz.ntmps56
  go_upto_region 1 with fail
  try rw [hw1]
  clear hw1 hg
  go_wp2_with fail
  refine bodyPost_ret (results_two rfl _ _ _) rfl ⟨rfl, hk1⟩
set_option maxRecDepth 100000 in
theorem rcounts_5 (xv pts : Int) (ao : Option Addr) (n cap : Nat) (w : World) : Calls Tryz.prog 56 #[.agg #[.int .i64 5, .int .i64 xv, .slice ao n cap, .int .i64 pts]] w fun e w' => e = .returned (.tuple #[.int .i64 (0), .int .i64 (pts)]) ∧ Keeps (fun _ => False) w w' := by
  obtain ⟨w1, hw1⟩ : ∃ w1, w.alloc (.cells #[.int .i64 5, .int .i64 xv, .slice ao n cap, .int .i64 pts] 27) = w1 := ⟨_, rfl⟩
  have hg := heap_alloc_new w (.cells #[.int .i64 5, .int .i64 xv, .slice ao n cap, .int .i64 pts] 27)
  have hk1 : Keeps (fun _ => False) w w1 := by rw [← hw1]; exact (Keeps.refl _ w).alloc _
  rw [hw1] at hg
  have c0 := cells_at hg 0
  have c1 := cells_at hg 1
  have c2 := cells_at hg 2
  have c3 := cells_at hg 3
  go_enter Tryz.func56, Tryz.ntmps56
  go_upto_region 1 with fail
  try rw [hw1]
  clear hw1 hg
  go_wp2_with fail
  refine wp_region_late (fun W => W.cell? ⟨w.heap.size, 3, none⟩ = some (.int .i64 pts)) [] (by kernel_rfl) ?_
  have hS : w1.drew.cell? ⟨w.heap.size, 3, none⟩ = some (.int .i64 pts) := c3
  refine tkA 0 (.pointer (some ⟨w.heap.size, 3, none⟩)) rfl (by kernel_rfl) (fun _ _ _ h => (h : False).elim) (by kernel_rfl) (fun _ => ‹_›) ?_ ?_
  · intro w _; go_simp
  try simp only [ga, gb, gc, Act.put, gd, ge, gf]
  refine tkL 1 (.int .i64 pts) rfl (by kernel_rfl) (fun _ _ _ h => (h : False).elim) (by kernel_rfl) ‹_› ?_ ?_
  · intro w hSw
    skip
    go_simp
  try simp only [ga, gb, gc, Act.put, gd, ge, gf]
  refine tkA 2 (.int .i64 0) rfl (by kernel_rfl) (fun _ _ _ h => (h : False).elim) (by kernel_rfl) (fun _ => ‹_›) ?_ ?_
  · intro w _; go_simp
  try simp only [ga, gb, gc, Act.put, gd, ge, gf]
  refine tkA 3 (.int .i64 pts) rfl (by kernel_rfl) (fun _ _ _ h => (h : False).elim) (by kernel_rfl) (fun _ => ‹_›) ?_ ?_
  · intro w _; go_simp
  try simp only [ga, gb, gc, Act.put, gd, ge, gf]
  refine wpAnyL_done (by kernel_rfl) ?_ _
  refine NoPanic.normal ?_
  go_wp2_with fail
  refine bodyPost_ret (results_two rfl _ _ _) rfl ⟨rfl, hk1.drewN 1⟩
theorem Grew.nil {w1 wA wr : World} {v v' : Value} (hk : Keeps (fun _ => False) w1 wA) (hv : ∀ j, v.ownBlock = some j → w1.heap.size ≤ j) (h : Grew wA v v' wr) : Keeps (fun _ => False) w1 wr :=
  (hk.trans h.1 (fun i hi hh => by have := hv i hh.symm; omega) : Keeps (fun _ => False) w1 wr)
set_option maxRecDepth 100000 in
set_option maxHeartbeats 8000000 in
theorem rencode_gen (xo xv xp : Int) (ah ar ap aq : Option Addr) (K ch cr NP cp NQ cq : Nat) (hrs rs : List Reg) (ps : List (Int × Int)) (qs : List Qry) (hd0 : List Value) (hK : hrs.length = K) (hK64 : K ≤ 64) (hf1 : rs.length = K)
    (hf2 : ∀ i, i < K → (rg rs i).1 = (rg hrs i).1 ∧ (rg rs i).2.1 = (rg hrs i).2.1 ∧ ((rg rs i).2.2.length : Int) = sizeR (rg hrs i).2.1) (hNP : ps.length = NP) (hNQ : qs.length = NQ) (hNP65 : NP ≤ 65) (hNQ4 : NQ ≤ 4096) (hqo : QsOk qs) (w : World)
    (hfm : ∀ W, Keeps (fun _ => False) w W → Calls Tryz.prog 94 #[.agg #[.int .i64 xo, .int .i64 xv, .slice ah K ch, .int .i64 xp]] W fun e w' => (∃ v m, e = .returned (.tuple #[v, .int .i64 0]) ∧ w'.ownsRow W.heap.size 5 1 v m hd0) ∧ Keeps (fun _ => False) W w') (hdl : hd0.length ≤ 70)
    (hct : ∀ W, Keeps (fun _ => False) w W → Calls Tryz.prog 56 #[.agg #[.int .i64 xo, .int .i64 xv, .slice ah K ch, .int .i64 xp]] W fun e w' => e = .returned (.tuple #[.int .i64 NP, .int .i64 NQ]) ∧ Keeps (fun _ => False) W w')
    (hreg : regsAt w (.slice ah K ch) hrs) (hrr : regsAt w (.slice ar K cr) rs) (hpt : ptsAt w (.slice ap NP cp) ps) (hqq : qsAt w (.slice aq NQ cq) qs) :
    Calls Tryz.prog 64 #[.agg #[.int .i64 xo, .int .i64 xv, .slice ah K ch, .int .i64 xp, .slice ar K cr, .slice ap NP cp, .slice aq NQ cq]] w fun e w' => (∃ v n, e = .returned (.tuple #[v, .int .i64 0]) ∧ w'.ownsRow w.heap.size 5 1 v n (hd0 ++ regsV rs ++ ptsV ps ++ qsV qs)) ∧ Keeps (fun _ => False) w w' := by
  have HFM := Lib.hid hfm
  have HCT := Lib.hid hct
  have HF2 := Lib.hid hf2
  have HF1 := Lib.hid hf1
  have HK := Lib.hid hK
  have HNP := Lib.hid hNP
  have HNQ := Lib.hid hNQ
  have HQO := Lib.hid hqo
  go_enter Tryz.func64, Tryz.ntmps64
  go_upto_region 1 with fail
  obtain ⟨w1, hw1⟩ : ∃ w1, w.alloc (.cells #[.int .i64 xo, .int .i64 xv, .slice ah K ch, .int .i64 xp, .slice ar K cr, .slice ap NP cp, .slice aq NQ cq] 62) = w1 := ⟨_, rfl⟩
  obtain ⟨g1, hg1⟩ : ∃ g, w.heap.size = g := ⟨_, rfl⟩
  have hg := heap_alloc_new w (.cells #[.int .i64 xo, .int .i64 xv, .slice ah K ch, .int .i64 xp, .slice ar K cr, .slice ap NP cp, .slice aq NQ cq] 62)
  have hk1 : Keeps (fun _ => False) w w1 := by rw [← hw1]; exact (Keeps.refl _ w).alloc _
  rw [hw1, hg1] at hg
  rw [hw1]
  try rw [hg1]
  have hl1 : g1 < w1.heap.size := (Array.getElem?_eq_some_iff.1 hg).1
  have HREG := Lib.hid (hreg.kept hk1)
  have HRR := Lib.hid (hrr.kept hk1)
  have HPT := Lib.hid (ptsAt.kept hpt hk1)
  have HQQ := Lib.hid (hqq.kept hk1)
  have HG1 := Lib.hid hg1
  have c0 := cells_at hg 0
  have c1 := cells_at hg 1
  have c2 := cells_at hg 2
  have c3 := cells_at hg 3
  have c4 := cells_at hg 4
  have c5 := cells_at hg 5
  have c6 := cells_at hg 6
  have HGB := Lib.hid hg
  clear hg hw1 hfm hct hf2 hf1 hK hNP hNQ hqo hreg hrr hpt hqq hg1
  go_wp2_with fail
  refine (HFM.out w1 hk1).mono ?_; rintro e w2 ⟨⟨vf, nf, rfl, hvf⟩, hk2⟩
  have hg := (hk2.block _ hl1 (fun h => h)).trans HGB.out
  obtain ⟨a0, c00, rfl⟩ := shape_own hvf
  have hnf : nf ≤ 70 := by have h := hvf.1; rw [Nat.mul_one] at h; omega
  have HVF := Lib.hid hvf
  clear c0 c1 c2 c3 c4 c5 c6 hvf
  have c0 := cells_at hg 0
  have c1 := cells_at hg 1
  have c2 := cells_at hg 2
  have c3 := cells_at hg 3
  have c4 := cells_at hg 4
  have c5 := cells_at hg 5
  have c6 := cells_at hg 6
  clear hg
  go_wp2_with fail
  refine (HCT.out w2 (knil hk1 hk2)).mono ?_; rintro e w3 ⟨rfl, hk3⟩
  have hk13 := knil hk2 hk3
  have hg := (hk13.block _ hl1 (fun h => h)).trans HGB.out
  have HVF3 := Lib.hid (rowW_nil HVF.out hk3)
  have HGB3 := Lib.hid hg
  have hl3 : g1 < w3.heap.size := Nat.lt_of_lt_of_le hl1 hk13.size
  clear c0 c1 c2 c3 c4 c5 c6
  have c0 := cells_at hg 0
  have c1 := cells_at hg 1
  have c2 := cells_at hg 2
  have c3 := cells_at hg 3
  have c4 := cells_at hg 4
  have c5 := cells_at hg 5
  have c6 := cells_at hg 6
  clear hg
  go_wp2_with fail
  go_loopw [8] (fun i wr => ∃ k : Nat, k ≤ K ∧ i = .int .i64 k ∧ RowKit.Hid (Keeps (fun _ => False) w3 wr)) (fun i _ => K - (intOf i).toNat)
  case atStart => exact ⟨0, Nat.zero_le _, rfl, Lib.hid (Keeps.refl _ _)⟩
  case round =>
    clear c0 c1 c2 c3 c4 c5 c6
    obtain ⟨k, hk, rfl, HW⟩ := hrel
    have hkw := knil hk13 HW.out
    have hg := (HW.out.block _ hl3 (fun h => h)).trans HGB3.out
    have c0 := cells_at hg 0
    have c1 := cells_at hg 1
    have c2 := cells_at hg 2
    have c3 := cells_at hg 3
    have c4 := cells_at hg 4
    have c5 := cells_at hg 5
    have c6 := cells_at hg 6
    clear hg
    by_cases hkl : k < K
    · have hkI : (k : Int) < (K : Int) := by omega
      have hk0 : (0 : Int) ≤ (k : Int) := by omega
      obtain ⟨br, orr, hbr, har, hr1⟩ : ∃ br orr, br < w1.heap.size ∧ ar = some ⟨br, orr, none⟩ ∧ regC w1 br (orr + k * 3) (rg rs k) := by
        rcases HRR.out with ⟨h0, _⟩ | ⟨b, o, c, he, hb, hc⟩
        · have := HF1.out; rw [h0] at this; simp at this; omega
        · injection he with h1 h2 h3
          exact ⟨b, o, hb, h1, hc k (by rw [HF1.out]; exact hkl)⟩
      obtain ⟨bh, oh, hbh, hah, hr2⟩ : ∃ bh oh, bh < w1.heap.size ∧ ah = some ⟨bh, oh, none⟩ ∧ regC w1 bh (oh + k * 3) (rg hrs k) := by
        rcases HREG.out with ⟨h0, _⟩ | ⟨b, o, c, he, hb, hc⟩
        · have := HK.out; rw [h0] at this; simp at this; omega
        · injection he with h1 h2 h3
          exact ⟨b, o, hb, h1, hc k (by rw [HK.out]; exact hkl)⟩
      subst har
      subst hah
      obtain ⟨e0, e1, an, ln, cn, e2, hpn⟩ := hr1.kept hbr hkw
      obtain ⟨f0, f1, ao2, n2, cz, f2, _⟩ := hr2.kept hbh hkw
      obtain ⟨hf21, hf22, hf23⟩ := HF2.out k hkl
      obtain ⟨s, hs⟩ : ∃ s, (rg rs k).2.2.length = s := ⟨_, rfl⟩
      obtain ⟨an', cn', hsh⟩ := ptsAt.shape hpn
      injection hsh with hsh1 hsh2 hsh3
      subst hsh2
      rw [hf21] at e0
      rw [hf22] at e1
      rw [hs] at e2 hf23 hpn
      obtain ⟨d, hd⟩ : ∃ d, (rg hrs k).1 = d := ⟨_, rfl⟩
      obtain ⟨m, hm⟩ : ∃ m, (rg hrs k).2.1 = m := ⟨_, rfl⟩
      rw [hd] at e0 f0
      rw [hm] at e1 f1 hf23
      have HS := Lib.hid hf23.symm
      have HPN := Lib.hid hpn
      have HLS := Lib.hid hs
      have hsb := sizeR_bound m
      rw [← hf23] at hsb
      clear hf21 hf22 hf23 hpn hsh1 hsh3 hd hm hs hr1 hr2
      have hss : ((s : Int) != (s : Int)) = false := by simp
      go_wp2_with fail
      refine wp_region_late (fun W => W.cell? ⟨g1, 4, none⟩ = some (.slice (some ⟨br, orr, none⟩) K cr) ∧ W.cell? ⟨br, orr + k * 3 + 2, none⟩ = some (.slice an s cn) ∧ W.cell? ⟨g1, 2, none⟩ = some (.slice (some ⟨bh, oh, none⟩) K ch) ∧ W.cell? ⟨bh, oh + k * 3 + 1, none⟩ = some (.int .i64 m)) [] (by kernel_rfl) ?_
      have hS : wr.drew.cell? ⟨g1, 4, none⟩ = some (.slice (some ⟨br, orr, none⟩) K cr) ∧ wr.drew.cell? ⟨br, orr + k * 3 + 2, none⟩ = some (.slice an s cn) ∧ wr.drew.cell? ⟨g1, 2, none⟩ = some (.slice (some ⟨bh, oh, none⟩) K ch) ∧ wr.drew.cell? ⟨bh, oh + k * 3 + 1, none⟩ = some (.int .i64 m) := ⟨c4, e2, c2, f1⟩
      have HWD := Lib.hid (show Keeps (fun _ => False) w3 wr.drew from HW.out.drewN 1)
      clear c0 c1 c2 c3 c4 c5 c6 e0 e1 e2 f0 f1 f2
      generalize wr.drew = wd at hS HWD ⊢
      refine tkA 0 (.pointer (some ⟨g1, 4, none⟩)) rfl (by kernel_rfl) (fun _ _ _ h => (h : False).elim) (by kernel_rfl) (fun _ => ‹_›) ?_ ?_
      · intro w _; go_simp
      try simp only [ga, gb, gc, Act.put, gd, ge, gf]
      refine tkL 1 (.slice (some ⟨br, orr, none⟩) K cr) rfl (by kernel_rfl) (fun _ _ _ h => (h : False).elim) (by kernel_rfl) ‹_› ?_ ?_
      · intro w hSw
        obtain ⟨s0, s1, s2, s3⟩ := hSw
        go_simp
      try simp only [ga, gb, gc, Act.put, gd, ge, gf]
      refine tkA 2 (.int .i64 k) rfl (by kernel_rfl) (fun _ _ _ h => (h : False).elim) (by kernel_rfl) (fun _ => ‹_›) ?_ ?_
      · intro w _; go_simp
      try simp only [ga, gb, gc, Act.put, gd, ge, gf]
      refine tkA 3 (.pointer (some ⟨br, orr + k * 3, none⟩)) rfl (by kernel_rfl) (fun _ _ _ h => (h : False).elim) (by kernel_rfl) (fun _ => ‹_›) ?_ ?_
      · intro w _; go_simp
      try simp only [ga, gb, gc, Act.put, gd, ge, gf]
      refine tkA 4 (.pointer (some ⟨br, orr + k * 3 + 2, none⟩)) rfl (by kernel_rfl) (fun _ _ _ h => (h : False).elim) (by kernel_rfl) (fun _ => ‹_›) ?_ ?_
      · intro w _; go_simp
      try simp only [ga, gb, gc, Act.put, gd, ge, gf]
      refine tkL 5 (.slice an s cn) rfl (by kernel_rfl) (fun _ _ _ h => (h : False).elim) (by kernel_rfl) ‹_› ?_ ?_
      · intro w hSw
        obtain ⟨s0, s1, s2, s3⟩ := hSw
        go_simp
      try simp only [ga, gb, gc, Act.put, gd, ge, gf]
      refine tkA 6 (.int .i64 s) rfl (by kernel_rfl) (fun _ _ _ h => (h : False).elim) (by kernel_rfl) (fun _ => ‹_›) ?_ ?_
      · intro w _; go_simp
      try simp only [ga, gb, gc, Act.put, gd, ge, gf]
      refine tkA 7 (.pointer (some ⟨g1, 0, none⟩)) rfl (by kernel_rfl) (fun _ _ _ h => (h : False).elim) (by kernel_rfl) (fun _ => ‹_›) ?_ ?_
      · intro w _; go_simp
      try simp only [ga, gb, gc, Act.put, gd, ge, gf]
      refine tkA 8 (.pointer (some ⟨g1, 2, none⟩)) rfl (by kernel_rfl) (fun _ _ _ h => (h : False).elim) (by kernel_rfl) (fun _ => ‹_›) ?_ ?_
      · intro w _; go_simp
      try simp only [ga, gb, gc, Act.put, gd, ge, gf]
      refine tkL 9 (.slice (some ⟨bh, oh, none⟩) K ch) rfl (by kernel_rfl) (fun _ _ _ h => (h : False).elim) (by kernel_rfl) ‹_› ?_ ?_
      · intro w hSw
        obtain ⟨s0, s1, s2, s3⟩ := hSw
        go_simp
      try simp only [ga, gb, gc, Act.put, gd, ge, gf]
      refine tkA 10 (.int .i64 k) rfl (by kernel_rfl) (fun _ _ _ h => (h : False).elim) (by kernel_rfl) (fun _ => ‹_›) ?_ ?_
      · intro w _; go_simp
      try simp only [ga, gb, gc, Act.put, gd, ge, gf]
      refine tkA 11 (.pointer (some ⟨bh, oh + k * 3, none⟩)) rfl (by kernel_rfl) (fun _ _ _ h => (h : False).elim) (by kernel_rfl) (fun _ => ‹_›) ?_ ?_
      · intro w _; go_simp
      try simp only [ga, gb, gc, Act.put, gd, ge, gf]
      refine tkA 12 (.pointer (some ⟨bh, oh + k * 3 + 1, none⟩)) rfl (by kernel_rfl) (fun _ _ _ h => (h : False).elim) (by kernel_rfl) (fun _ => ‹_›) ?_ ?_
      · intro w _; go_simp
      try simp only [ga, gb, gc, Act.put, gd, ge, gf]
      refine tkL 13 (.int .i64 m) rfl (by kernel_rfl) (fun _ _ _ h => (h : False).elim) (by kernel_rfl) ‹_› ?_ ?_
      · intro w hSw
        obtain ⟨s0, s1, s2, s3⟩ := hSw
        go_simp
      try simp only [ga, gb, gc, Act.put, gd, ge, gf]
      refine wpAnyL_next (i := 14) (by kernel_rfl) rfl (fun K hK => ?_)
      go_simp
      refine (rsize16_calls m wd).mono ?_; rintro e wz ⟨rfl, hwz⟩
      rw [hwz, HS.out]
      clear hwz
      go_wp2_with fail
      refine hK.out _ _ hS (fun hHeld => ?_)
      clear hK K
      try simp only [ga, gb, gc, Act.put, gd, ge, gf]
      refine tkA 15 (.bool false) rfl (by kernel_rfl) (fun _ _ _ h => (h : False).elim) (by kernel_rfl) (fun _ => ‹_›) ?_ ?_
      · intro w _; go_simp
      try simp only [ga, gb, gc, Act.put, gd, ge, gf]
      refine wpAnyL_done (by kernel_rfl) ?_ _
      refine NoPanic.normal ?_
      clear hS
      go_wp2_with fail
      go_roundw
      case rel => exact ⟨k + 1, by omega, by go_num, HWD⟩
      case measure => simp [intOf]; omega
    · obtain rfl : k = K := by omega
      have hv0 : ∀ j, (Value.slice a0 nf c00).ownBlock = some j → w1.heap.size ≤ j ∧ j < w2.heap.size := fun j hj => HVF.out.lt j hj
      have HV0 := Lib.hid hv0
      have HVR := Lib.hid (rowW_nil HVF3.out HW.out)
      have hg := (HW.out.block _ hl3 (fun h => h)).trans HGB3.out
      have hk1w := Lib.hid hkw
      obtain ⟨wA, hwA⟩ : ∃ wA, wr = wA := ⟨_, rfl⟩
      rw [hwA] at HVR hk1w hg c0 c1 c2 c3 c4 c5 c6 ⊢
      have HGA := Lib.hid hg
      have hBA : w1.heap.size ≤ wA.heap.size := by rw [← hwA]; exact hkw.size
      clear hwA hv0 hkw HW hg
      go_wp2_with fail
      have HKR : RowKit.Hid (∀ W v, Grew wA (.slice a0 nf c00) v W → Keeps (fun _ => False) w1 W) := Lib.hid (fun W v h => h.nil hk1w.out (fun j hj => (HV0.out j hj).1))
      clear c0 c1 c2 c3 c4 c5 c6
      go_loopw [4, 9, 10] (fun s i _ wr => ∃ k' : Nat, k' ≤ k ∧ i = .int .i64 k' ∧ ∃ n a c, s = .slice a n c ∧ n ≤ 70 + 1024 * k' ∧ RowKit.Hid (wr.ownsRow w1.heap.size 5 1 (.slice a n c) n (hd0 ++ regsV (rs.take k'))) ∧ RowKit.Hid (Grew wA (.slice a0 nf c00) (.slice a n c) wr)) (fun _ i _ _ => k - (intOf i).toNat)
      case atStart => exact ⟨0, Nat.zero_le _, rfl, _, _, _, rfl, by omega, Lib.hid (by rw [List.take_zero, show regsV [] = [] from rfl, List.append_nil]; exact HVR.out), Lib.hid (Grew.refl _ _)⟩
      case round =>
        obtain ⟨j, hj, rfl, n, an0, cn0, rfl, hn, HR, HGW⟩ := hrel
        have hkr := HKR.out _ _ HGW.out
        have hg := (hkr.block _ hl1 (fun h => h)).trans HGB.out
        have c0 := cells_at hg 0
        have c1 := cells_at hg 1
        have c2 := cells_at hg 2
        have c3 := cells_at hg 3
        have c4 := cells_at hg 4
        have c5 := cells_at hg 5
        have c6 := cells_at hg 6
        clear hg
        by_cases hkl : j < k
        · have hkI : (j : Int) < (k : Int) := by omega
          have hk0 : (0 : Int) ≤ (j : Int) := by omega
          obtain ⟨br, orr, hbr, har, hr1⟩ : ∃ br orr, br < w1.heap.size ∧ ar = some ⟨br, orr, none⟩ ∧ regC w1 br (orr + j * 3) (rg rs j) := by
            rcases HRR.out with ⟨h0, _⟩ | ⟨b, o, c, he, hb, hc⟩
            · have := HF1.out; rw [h0] at this; simp at this; omega
            · injection he with h1 h2 h3
              exact ⟨b, o, hb, h1, hc j (by rw [HF1.out]; exact hkl)⟩
          obtain ⟨bh, oh, hbh, hah, hr2⟩ : ∃ bh oh, bh < w1.heap.size ∧ ah = some ⟨bh, oh, none⟩ ∧ regC w1 bh (oh + j * 3) (rg hrs j) := by
            rcases HREG.out with ⟨h0, _⟩ | ⟨b, o, c, he, hb, hc⟩
            · have := HK.out; rw [h0] at this; simp at this; omega
            · injection he with h1 h2 h3
              exact ⟨b, o, hb, h1, hc j (by rw [HK.out]; exact hkl)⟩
          subst har
          subst hah
          obtain ⟨x0, x1, an, ln, cn, x2, hpn⟩ := hr1
          obtain ⟨y0, y1, ao2, n2, cz, y2, _⟩ := hr2
          obtain ⟨hf21, hf22, hf23⟩ := HF2.out j hkl
          obtain ⟨s, hs⟩ : ∃ s, (rg rs j).2.2.length = s := ⟨_, rfl⟩
          obtain ⟨an', cn', hsh⟩ := ptsAt.shape hpn
          injection hsh with hsh1 hsh2 hsh3
          subst hsh2
          rw [hf21] at x0
          rw [hf22] at x1
          rw [hs] at x2 hf23 hpn
          obtain ⟨d, hd⟩ : ∃ d, (rg hrs j).1 = d := ⟨_, rfl⟩
          obtain ⟨m, hm⟩ : ∃ m, (rg hrs j).2.1 = m := ⟨_, rfl⟩
          rw [hd] at x0 y0
          rw [hm] at x1 y1 hf23
          have HPN := Lib.hid hpn
          have HLS := Lib.hid hs
          have hsb := sizeR_bound m
          rw [← hf23] at hsb
          have HX := Lib.hid (And.intro x0 (And.intro x1 (And.intro x2 (And.intro y0 (And.intro y1 y2)))))
          clear hf21 hf22 hf23 hpn hsh1 hsh3 hd hm hs x0 x1 x2 y0 y1 y2
          have e0 := (hkr.cell (p := ⟨br, orr + j * 3, none⟩) hbr (fun h => h)).trans HX.out.1
          have e1 := (hkr.cell (p := ⟨br, orr + j * 3 + 1, none⟩) hbr (fun h => h)).trans HX.out.2.1
          have f0 := (hkr.cell (p := ⟨bh, oh + j * 3, none⟩) hbh (fun h => h)).trans HX.out.2.2.2.1
          have f1 := (hkr.cell (p := ⟨bh, oh + j * 3 + 1, none⟩) hbh (fun h => h)).trans HX.out.2.2.2.2.1
          have hdd : (d != d) = false := by simp
          have hmm : (m != m) = false := by simp
          go_wp2_with fail
          refine wp_region_late (fun W => W.cell? ⟨g1, 4, none⟩ = some (.slice (some ⟨br, orr, none⟩) k cr) ∧ W.cell? ⟨g1, 2, none⟩ = some (.slice (some ⟨bh, oh, none⟩) k ch) ∧ W.cell? ⟨br, orr + j * 3, none⟩ = some (.bool d) ∧ W.cell? ⟨br, orr + j * 3 + 1, none⟩ = some (.int .i64 m) ∧ W.cell? ⟨bh, oh + j * 3, none⟩ = some (.bool d) ∧ W.cell? ⟨bh, oh + j * 3 + 1, none⟩ = some (.int .i64 m)) [] (by kernel_rfl) ?_
          have hS : wr.drew.cell? ⟨g1, 4, none⟩ = some (.slice (some ⟨br, orr, none⟩) k cr) ∧ wr.drew.cell? ⟨g1, 2, none⟩ = some (.slice (some ⟨bh, oh, none⟩) k ch) ∧ wr.drew.cell? ⟨br, orr + j * 3, none⟩ = some (.bool d) ∧ wr.drew.cell? ⟨br, orr + j * 3 + 1, none⟩ = some (.int .i64 m) ∧ wr.drew.cell? ⟨bh, oh + j * 3, none⟩ = some (.bool d) ∧ wr.drew.cell? ⟨bh, oh + j * 3 + 1, none⟩ = some (.int .i64 m) := ⟨c4, c2, e0, e1, f0, f1⟩
          have HRD := Lib.hid (show wr.drew.ownsRow w1.heap.size 5 1 (.slice an0 n cn0) n (hd0 ++ regsV (rs.take j)) from HR.out)
          have HGD := Lib.hid (show Grew wA (.slice a0 nf c00) (.slice an0 n cn0) wr.drew from ⟨HGW.out.1.drewN 1, HGW.out.2⟩)
          clear c0 c1 c2 c3 c4 c5 c6 e0 e1 f0 f1 HR HGW hkr
          generalize wr.drew = wd at hS HRD HGD ⊢
          refine tkA 0 (.pointer (some ⟨g1, 4, none⟩)) rfl (by kernel_rfl) (fun _ _ _ h => (h : False).elim) (by kernel_rfl) (fun _ => ‹_›) ?_ ?_
          · intro w _; go_simp
          try simp only [ga, gb, gc, Act.put, gd, ge, gf]
          refine tkL 1 (.slice (some ⟨br, orr, none⟩) k cr) rfl (by kernel_rfl) (fun _ _ _ h => (h : False).elim) (by kernel_rfl) ‹_› ?_ ?_
          · intro w hSw
            obtain ⟨s0, s1, s2, s3, s4, s5⟩ := hSw
            go_simp
          try simp only [ga, gb, gc, Act.put, gd, ge, gf]
          refine tkA 2 (.int .i64 j) rfl (by kernel_rfl) (fun _ _ _ h => (h : False).elim) (by kernel_rfl) (fun _ => ‹_›) ?_ ?_
          · intro w _; go_simp
          try simp only [ga, gb, gc, Act.put, gd, ge, gf]
          refine tkA 3 (.pointer (some ⟨br, orr + j * 3, none⟩)) rfl (by kernel_rfl) (fun _ _ _ h => (h : False).elim) (by kernel_rfl) (fun _ => ‹_›) ?_ ?_
          · intro w _; go_simp
          try simp only [ga, gb, gc, Act.put, gd, ge, gf]
          refine tkA 4 (.pointer (some ⟨br, orr + j * 3, none⟩)) rfl (by kernel_rfl) (fun _ _ _ h => (h : False).elim) (by kernel_rfl) (fun _ => ‹_›) ?_ ?_
          · intro w _; go_simp
          try simp only [ga, gb, gc, Act.put, gd, ge, gf]
          refine tkL 5 (.bool d) rfl (by kernel_rfl) (fun _ _ _ h => (h : False).elim) (by kernel_rfl) ‹_› ?_ ?_
          · intro w hSw
            obtain ⟨s0, s1, s2, s3, s4, s5⟩ := hSw
            go_simp
          try simp only [ga, gb, gc, Act.put, gd, ge, gf]
          refine tkA 6 (.pointer (some ⟨g1, 0, none⟩)) rfl (by kernel_rfl) (fun _ _ _ h => (h : False).elim) (by kernel_rfl) (fun _ => ‹_›) ?_ ?_
          · intro w _; go_simp
          try simp only [ga, gb, gc, Act.put, gd, ge, gf]
          refine tkA 7 (.pointer (some ⟨g1, 2, none⟩)) rfl (by kernel_rfl) (fun _ _ _ h => (h : False).elim) (by kernel_rfl) (fun _ => ‹_›) ?_ ?_
          · intro w _; go_simp
          try simp only [ga, gb, gc, Act.put, gd, ge, gf]
          refine tkL 8 (.slice (some ⟨bh, oh, none⟩) k ch) rfl (by kernel_rfl) (fun _ _ _ h => (h : False).elim) (by kernel_rfl) ‹_› ?_ ?_
          · intro w hSw
            obtain ⟨s0, s1, s2, s3, s4, s5⟩ := hSw
            go_simp
          try simp only [ga, gb, gc, Act.put, gd, ge, gf]
          refine tkA 9 (.int .i64 j) rfl (by kernel_rfl) (fun _ _ _ h => (h : False).elim) (by kernel_rfl) (fun _ => ‹_›) ?_ ?_
          · intro w _; go_simp
          try simp only [ga, gb, gc, Act.put, gd, ge, gf]
          refine tkA 10 (.pointer (some ⟨bh, oh + j * 3, none⟩)) rfl (by kernel_rfl) (fun _ _ _ h => (h : False).elim) (by kernel_rfl) (fun _ => ‹_›) ?_ ?_
          · intro w _; go_simp
          try simp only [ga, gb, gc, Act.put, gd, ge, gf]
          refine tkA 11 (.pointer (some ⟨bh, oh + j * 3, none⟩)) rfl (by kernel_rfl) (fun _ _ _ h => (h : False).elim) (by kernel_rfl) (fun _ => ‹_›) ?_ ?_
          · intro w _; go_simp
          try simp only [ga, gb, gc, Act.put, gd, ge, gf]
          refine tkL 12 (.bool d) rfl (by kernel_rfl) (fun _ _ _ h => (h : False).elim) (by kernel_rfl) ‹_› ?_ ?_
          · intro w hSw
            obtain ⟨s0, s1, s2, s3, s4, s5⟩ := hSw
            go_simp
          try simp only [ga, gb, gc, Act.put, gd, ge, gf]
          refine tkA 13 (.bool false) rfl (by kernel_rfl) (fun _ _ _ h => (h : False).elim) (by kernel_rfl) (fun _ => ‹_›) ?_ ?_
          · intro w _; go_simp
          try simp only [ga, gb, gc, Act.put, gd, ge, gf]
          refine tkA 14 (.bool false) rfl (by kernel_rfl) (fun _ _ _ h => (h : False).elim) (by kernel_rfl) (fun _ => ‹_›) ?_ ?_
          · intro w _; go_simp
          try simp only [ga, gb, gc, Act.put, gd, ge, gf]
          refine tkA 15 (.pointer (some ⟨g1, 4, none⟩)) rfl (by kernel_rfl) (fun _ _ _ h => (h : False).elim) (by kernel_rfl) (fun _ => ‹_›) ?_ ?_
          · intro w _; go_simp
          try simp only [ga, gb, gc, Act.put, gd, ge, gf]
          refine tkL 16 (.slice (some ⟨br, orr, none⟩) k cr) rfl (by kernel_rfl) (fun _ _ _ h => (h : False).elim) (by kernel_rfl) ‹_› ?_ ?_
          · intro w hSw
            obtain ⟨s0, s1, s2, s3, s4, s5⟩ := hSw
            go_simp
          try simp only [ga, gb, gc, Act.put, gd, ge, gf]
          refine tkA 17 (.int .i64 j) rfl (by kernel_rfl) (fun _ _ _ h => (h : False).elim) (by kernel_rfl) (fun _ => ‹_›) ?_ ?_
          · intro w _; go_simp
          try simp only [ga, gb, gc, Act.put, gd, ge, gf]
          refine tkA 18 (.pointer (some ⟨br, orr + j * 3, none⟩)) rfl (by kernel_rfl) (fun _ _ _ h => (h : False).elim) (by kernel_rfl) (fun _ => ‹_›) ?_ ?_
          · intro w _; go_simp
          try simp only [ga, gb, gc, Act.put, gd, ge, gf]
          refine tkA 19 (.pointer (some ⟨br, orr + j * 3 + 1, none⟩)) rfl (by kernel_rfl) (fun _ _ _ h => (h : False).elim) (by kernel_rfl) (fun _ => ‹_›) ?_ ?_
          · intro w _; go_simp
          try simp only [ga, gb, gc, Act.put, gd, ge, gf]
          refine tkL 20 (.int .i64 m) rfl (by kernel_rfl) (fun _ _ _ h => (h : False).elim) (by kernel_rfl) ‹_› ?_ ?_
          · intro w hSw
            obtain ⟨s0, s1, s2, s3, s4, s5⟩ := hSw
            go_simp
          try simp only [ga, gb, gc, Act.put, gd, ge, gf]
          refine tkA 21 (.pointer (some ⟨g1, 0, none⟩)) rfl (by kernel_rfl) (fun _ _ _ h => (h : False).elim) (by kernel_rfl) (fun _ => ‹_›) ?_ ?_
          · intro w _; go_simp
          try simp only [ga, gb, gc, Act.put, gd, ge, gf]
          refine tkA 22 (.pointer (some ⟨g1, 2, none⟩)) rfl (by kernel_rfl) (fun _ _ _ h => (h : False).elim) (by kernel_rfl) (fun _ => ‹_›) ?_ ?_
          · intro w _; go_simp
          try simp only [ga, gb, gc, Act.put, gd, ge, gf]
          refine tkL 23 (.slice (some ⟨bh, oh, none⟩) k ch) rfl (by kernel_rfl) (fun _ _ _ h => (h : False).elim) (by kernel_rfl) ‹_› ?_ ?_
          · intro w hSw
            obtain ⟨s0, s1, s2, s3, s4, s5⟩ := hSw
            go_simp
          try simp only [ga, gb, gc, Act.put, gd, ge, gf]
          refine tkA 24 (.int .i64 j) rfl (by kernel_rfl) (fun _ _ _ h => (h : False).elim) (by kernel_rfl) (fun _ => ‹_›) ?_ ?_
          · intro w _; go_simp
          try simp only [ga, gb, gc, Act.put, gd, ge, gf]
          refine tkA 25 (.pointer (some ⟨bh, oh + j * 3, none⟩)) rfl (by kernel_rfl) (fun _ _ _ h => (h : False).elim) (by kernel_rfl) (fun _ => ‹_›) ?_ ?_
          · intro w _; go_simp
          try simp only [ga, gb, gc, Act.put, gd, ge, gf]
          refine tkA 26 (.pointer (some ⟨bh, oh + j * 3 + 1, none⟩)) rfl (by kernel_rfl) (fun _ _ _ h => (h : False).elim) (by kernel_rfl) (fun _ => ‹_›) ?_ ?_
          · intro w _; go_simp
          try simp only [ga, gb, gc, Act.put, gd, ge, gf]
          refine tkL 27 (.int .i64 m) rfl (by kernel_rfl) (fun _ _ _ h => (h : False).elim) (by kernel_rfl) ‹_› ?_ ?_
          · intro w hSw
            obtain ⟨s0, s1, s2, s3, s4, s5⟩ := hSw
            go_simp
          try simp only [ga, gb, gc, Act.put, gd, ge, gf]
          refine tkA 28 (.bool false) rfl (by kernel_rfl) (fun _ _ _ h => (h : False).elim) (by kernel_rfl) (fun _ => ‹_›) ?_ ?_
          · intro w _; go_simp
          try simp only [ga, gb, gc, Act.put, gd, ge, gf]
          refine tkA 29 (.bool false) rfl (by kernel_rfl) (fun _ _ _ h => (h : False).elim) (by kernel_rfl) (fun _ => ‹_›) ?_ ?_
          · intro w _; go_simp
          try simp only [ga, gb, gc, Act.put, gd, ge, gf]
          refine wpAnyL_done (by kernel_rfl) ?_ _
          refine NoPanic.normal ?_
          clear hS
          go_wp2_with fail
          go_loopw [4, 10] (fun t i wr => ∃ j' : Nat, j' ≤ s ∧ i = .int .i64 j' ∧ ∃ n' a' c', t = .slice a' n' c' ∧ n' ≤ 70 + 1024 * j + 16 * j' ∧ RowKit.Hid (wr.ownsRow w1.heap.size 5 1 (.slice a' n' c') n' (hd0 ++ regsV (rs.take j) ++ ptsV ((rg rs j).2.2.take j'))) ∧ RowKit.Hid (Grew wA (.slice a0 nf c00) (.slice a' n' c') wr)) (fun _ i _ => s - (intOf i).toNat)
          case atStart => exact ⟨0, Nat.zero_le _, rfl, _, _, _, rfl, by omega, Lib.hid (by rw [List.take_zero, show ptsV [] = [] from rfl, List.append_nil]; exact HRD.out), HGD⟩
          case round =>
            obtain ⟨j2, hj2, rfl, n', a', c', rfl, hn', HR2, HGW2⟩ := hrel
            have hkr := HKR.out _ _ HGW2.out
            have hg := (hkr.block _ hl1 (fun h => h)).trans HGB.out
            have c0 := cells_at hg 0
            have c1 := cells_at hg 1
            have c2 := cells_at hg 2
            have c3 := cells_at hg 3
            have c4 := cells_at hg 4
            have c5 := cells_at hg 5
            have c6 := cells_at hg 6
            clear hg
            have e2 := (hkr.cell (p := ⟨br, orr + j * 3 + 2, none⟩) hbr (fun h => h)).trans HX.out.2.2.1
            by_cases hjs : j2 < s
            · have hjI : (j2 : Int) < (s : Int) := by omega
              have hj0 : (0 : Int) ≤ (j2 : Int) := by omega
              obtain ⟨pb, po, pc, hpv, hpb, hpc⟩ := ptsAt.block HPN.out (show j2 < (rg rs j).2.2.length by rw [HLS.out]; exact hjs)
              injection hpv with hp1 hp2 hp3
              subst hp1
              have hpc2 := hpc j2 (by rw [HLS.out]; exact hjs)
              have p0 := (hkr.cell (p := ⟨pb, po + j2 * 2, none⟩) hpb (fun h => h)).trans hpc2.1
              have p1 := (hkr.cell (p := ⟨pb, po + j2 * 2 + 1, none⟩) hpb (fun h => h)).trans hpc2.2
              have hst := ptsV_step (l := (rg rs j).2.2) (show j2 < (rg rs j).2.2.length by rw [HLS.out]; exact hjs)
              obtain ⟨p, hp⟩ : ∃ p, pt (rg rs j).2.2 j2 = p := ⟨_, rfl⟩
              rw [hp] at p0 p1 hst
              have HST := Lib.hid hst
              have hszr : w1.heap.size ≤ wr.heap.size := hkr.size
              clear hpc hp2 hp3 hpc2 hp hst
              go_wp2_with fail
              refine (rpoint18_calls w1.heap.size n' a' c' _ p (by omega) wr hszr HR2.out).mono ?_; rintro e w5 ⟨ak, ck, rfl, hr5, hg5⟩
              have HR5 := Lib.hid (show w5.ownsRow w1.heap.size 5 1 (.slice ak (n' + 8 + 8) ck) (n' + 8 + 8) (hd0 ++ regsV (rs.take j) ++ ptsV ((rg rs j).2.2.take (j2 + 1))) by
                rw [HST.out, ← List.append_assoc]; exact hr5)
              have HG5 := Lib.hid (HGW2.out.trans hg5)
              clear hr5 hg5 c0 c1 c2 c3 c4 c5 c6 e2 p0 p1 HR2 HGW2 hkr
              go_wp2_with fail
              go_roundw
              case rel => exact ⟨j2 + 1, by omega, by go_num, _, _, _, rfl, by omega, HR5, HG5⟩
              case measure => simp [intOf]; omega
            · obtain rfl : j2 = s := by omega
              go_wp2_with fail
              go_roundw
              case rel => exact ⟨j + 1, by omega, by go_num, _, _, _, rfl, by omega, Lib.hid (by
                rw [regsV_step (by rw [HF1.out]; exact hkl), ← List.append_assoc]
                have h := HR2.out
                rw [← HLS.out, List.take_length] at h
                exact h), HGW2⟩
              case measure => simp [intOf]; omega
        · obtain rfl : k = j := by omega
          have HRW := Lib.hid (show wr.ownsRow w1.heap.size 5 1 (.slice an0 n cn0) n (hd0 ++ regsV rs) by
            have h := HR.out
            rwa [List.take_of_length_le (by rw [HF1.out]; exact Nat.le_refl _)] at h)
          clear HR
          go_wp2_with fail
          go_loopw [4, 11] (fun t i wr => ∃ j' : Nat, j' ≤ NP ∧ i = .int .i64 j' ∧ ∃ n' a' c', t = .slice a' n' c' ∧ n' ≤ 70000 + 16 * j' ∧ RowKit.Hid (wr.ownsRow w1.heap.size 5 1 (.slice a' n' c') n' (hd0 ++ regsV rs ++ ptsV (ps.take j'))) ∧ RowKit.Hid (Grew wA (.slice a0 nf c00) (.slice a' n' c') wr)) (fun _ i _ => NP - (intOf i).toNat)
          case atStart => exact ⟨0, Nat.zero_le _, rfl, _, _, _, rfl, by omega, Lib.hid (by rw [List.take_zero, show ptsV [] = [] from rfl, List.append_nil]; exact HRW.out), HGW⟩
          case round =>
            clear c0 c1 c2 c3 c4 c5 c6 HRW HGW hkr
            obtain ⟨j2, hj2, rfl, n', a', c', rfl, hn', HR2, HGW2⟩ := hrel
            have hkr := HKR.out _ _ HGW2.out
            have hg := (hkr.block _ hl1 (fun h => h)).trans HGB.out
            have c0 := cells_at hg 0
            have c1 := cells_at hg 1
            have c2 := cells_at hg 2
            have c3 := cells_at hg 3
            have c4 := cells_at hg 4
            have c5 := cells_at hg 5
            have c6 := cells_at hg 6
            clear hg
            by_cases hjs : j2 < NP
            · have hjI : (j2 : Int) < (NP : Int) := by omega
              have hj0 : (0 : Int) ≤ (j2 : Int) := by omega
              obtain ⟨pb, po, pc, hpv, hpb, hpc⟩ := ptsAt.block HPT.out (show j2 < ps.length by rw [HNP.out]; exact hjs)
              injection hpv with hp1 hp2 hp3
              subst hp1
              have hpc2 := hpc j2 (by rw [HNP.out]; exact hjs)
              have p0 := (hkr.cell (p := ⟨pb, po + j2 * 2, none⟩) hpb (fun h => h)).trans hpc2.1
              have p1 := (hkr.cell (p := ⟨pb, po + j2 * 2 + 1, none⟩) hpb (fun h => h)).trans hpc2.2
              have hst := ptsV_step (l := ps) (show j2 < ps.length by rw [HNP.out]; exact hjs)
              obtain ⟨p, hp⟩ : ∃ p, pt ps j2 = p := ⟨_, rfl⟩
              rw [hp] at p0 p1 hst
              have HST := Lib.hid hst
              have hszr : w1.heap.size ≤ wr.heap.size := hkr.size
              clear hpc hp2 hp3 hpc2 hp hst
              go_wp2_with fail
              refine (rpoint18_calls w1.heap.size n' a' c' _ p (by omega) wr hszr HR2.out).mono ?_; rintro e w5 ⟨ak, ck, rfl, hr5, hg5⟩
              have HR5 := Lib.hid (show w5.ownsRow w1.heap.size 5 1 (.slice ak (n' + 8 + 8) ck) (n' + 8 + 8) (hd0 ++ regsV rs ++ ptsV (ps.take (j2 + 1))) by
                rw [HST.out, ← List.append_assoc]; exact hr5)
              have HG5 := Lib.hid (HGW2.out.trans hg5)
              clear hr5 hg5 c0 c1 c2 c3 c4 c5 c6 p0 p1 HR2 HGW2 hkr
              go_wp2_with fail
              go_roundw
              case rel => exact ⟨j2 + 1, by omega, by go_num, _, _, _, rfl, by omega, HR5, HG5⟩
              case measure => simp [intOf]; omega
            · obtain rfl : NP = j2 := by omega
              have HRW := Lib.hid (show wr.ownsRow w1.heap.size 5 1 (.slice a' n' c') n' (hd0 ++ regsV rs ++ ptsV ps) by
                have h := HR2.out
                rwa [List.take_of_length_le (by rw [HNP.out]; exact Nat.le_refl _)] at h)
              clear HR2
              go_wp2_with fail
              go_loopw [4, 12] (fun t i wr => ∃ j' : Nat, j' ≤ NQ ∧ i = .int .i64 j' ∧ ∃ n' a' c', t = .slice a' n' c' ∧ n' ≤ 80000 + 24 * j' ∧ RowKit.Hid (wr.ownsRow w1.heap.size 5 1 (.slice a' n' c') n' (hd0 ++ regsV rs ++ ptsV ps ++ qsV (qs.take j'))) ∧ RowKit.Hid (Grew wA (.slice a0 nf c00) (.slice a' n' c') wr)) (fun _ i _ => NQ - (intOf i).toNat)
              case atStart => exact ⟨0, Nat.zero_le _, rfl, _, _, _, rfl, by omega, Lib.hid (by rw [List.take_zero, show qsV [] = [] from rfl, List.append_nil]; exact HRW.out), HGW2⟩
              case round =>
                clear c0 c1 c2 c3 c4 c5 c6 HRW HGW2 hkr
                obtain ⟨j3, hj3, rfl, n4, a4, k4, rfl, hn4, HR4, HGW4⟩ := hrel
                have hkr := HKR.out _ _ HGW4.out
                have hg := (hkr.block _ hl1 (fun h => h)).trans HGB.out
                have c0 := cells_at hg 0
                have c1 := cells_at hg 1
                have c2 := cells_at hg 2
                have c3 := cells_at hg 3
                have c4 := cells_at hg 4
                have c5 := cells_at hg 5
                have c6 := cells_at hg 6
                clear hg
                by_cases hjq : j3 < NQ
                · have hjI : (j3 : Int) < (NQ : Int) := by omega
                  have hj0 : (0 : Int) ≤ (j3 : Int) := by omega
                  obtain ⟨qb, qo, haq, hqb, hqc⟩ : ∃ qb qo, aq = some ⟨qb, qo, none⟩ ∧ qb < w1.heap.size ∧ w1.cell? ⟨qb, qo + j3 * 3, none⟩ = some (.int .i64 (qy qs j3).1.1) ∧ w1.cell? ⟨qb, qo + j3 * 3 + 1, none⟩ = some (.int .i64 (qy qs j3).1.2) ∧ w1.cell? ⟨qb, qo + j3 * 3 + 2, none⟩ = some (.int .u64 (qy qs j3).2) := by
                    rcases HQQ.out with ⟨h0, _⟩ | ⟨b, o, c, he, hb, hc⟩
                    · have := HNQ.out; rw [h0] at this; simp at this; omega
                    · injection he with h1 h2 h3
                      exact ⟨b, o, h1, hb, hc j3 (by rw [HNQ.out]; exact hjq)⟩
                  subst haq
                  have q0 := (hkr.cell (p := ⟨qb, qo + j3 * 3, none⟩) hqb (fun h => h)).trans hqc.1
                  have q1 := (hkr.cell (p := ⟨qb, qo + j3 * 3 + 1, none⟩) hqb (fun h => h)).trans hqc.2.1
                  have q2 := (hkr.cell (p := ⟨qb, qo + j3 * 3 + 2, none⟩) hqb (fun h => h)).trans hqc.2.2
                  have HST := Lib.hid (qsV_step (l := qs) (show j3 < qs.length by rw [HNQ.out]; exact hjq))
                  have HQI := Lib.hid (HQO.out.at j3).2
                  obtain ⟨q, hq⟩ : ∃ q, qy qs j3 = q := ⟨_, rfl⟩
                  rw [hq] at q0 q1 q2 HST HQI
                  have HQC := Lib.hid (show w1.cell? ⟨qb, qo + j3 * 3, none⟩ = some (.int .i64 q.1.1) ∧ w1.cell? ⟨qb, qo + j3 * 3 + 1, none⟩ = some (.int .i64 q.1.2) ∧ w1.cell? ⟨qb, qo + j3 * 3 + 2, none⟩ = some (.int .u64 q.2) by rw [← hq]; exact hqc)
                  clear hqc hq
                  have hszr : w1.heap.size ≤ wr.heap.size := hkr.size
                  go_wp2_with fail
                  refine wp_region_late (fun W => W.cell? ⟨g1, 6, none⟩ = some (.slice (some ⟨qb, qo, none⟩) NQ cq) ∧ W.cell? ⟨qb, qo + j3 * 3, none⟩ = some (.int .i64 q.1.1) ∧ W.cell? ⟨qb, qo + j3 * 3 + 1, none⟩ = some (.int .i64 q.1.2) ∧ W.cell? ⟨qb, qo + j3 * 3 + 2, none⟩ = some (.int .u64 q.2)) [] (by kernel_rfl) ?_
                  have hS : wr.drew.cell? ⟨g1, 6, none⟩ = some (.slice (some ⟨qb, qo, none⟩) NQ cq) ∧ wr.drew.cell? ⟨qb, qo + j3 * 3, none⟩ = some (.int .i64 q.1.1) ∧ wr.drew.cell? ⟨qb, qo + j3 * 3 + 1, none⟩ = some (.int .i64 q.1.2) ∧ wr.drew.cell? ⟨qb, qo + j3 * 3 + 2, none⟩ = some (.int .u64 q.2) := ⟨c6, q0, q1, q2⟩
                  have HRD := Lib.hid (show wr.drew.ownsRow w1.heap.size 5 1 (.slice a4 n4 k4) n4 (hd0 ++ regsV rs ++ ptsV ps ++ qsV (qs.take j3)) from HR4.out)
                  have HGD := Lib.hid (show Grew wA (.slice a0 nf c00) (.slice a4 n4 k4) wr.drew from ⟨HGW4.out.1.drewN 1, HGW4.out.2⟩)
                  have hszd : w1.heap.size ≤ wr.drew.heap.size := hszr
                  clear c0 c1 c2 c3 c4 c5 c6 q0 q1 q2 HR4 HGW4 hkr
                  generalize wr.drew = wd at hS HRD HGD hszd ⊢
                  refine tkA 0 (.slice a4 n4 k4) rfl (by kernel_rfl) (fun _ _ _ h => (h : False).elim) (by kernel_rfl) (fun _ => ‹_›) ?_ ?_
                  · intro w _; go_simp
                  try simp only [ga, gb, gc, Act.put, gd, ge, gf]
                  refine tkA 1 (.pointer (some ⟨g1, 6, none⟩)) rfl (by kernel_rfl) (fun _ _ _ h => (h : False).elim) (by kernel_rfl) (fun _ => ‹_›) ?_ ?_
                  · intro w _; go_simp
                  try simp only [ga, gb, gc, Act.put, gd, ge, gf]
                  refine tkL 2 (.slice (some ⟨qb, qo, none⟩) NQ cq) rfl (by kernel_rfl) (fun _ _ _ h => (h : False).elim) (by kernel_rfl) ‹_› ?_ ?_
                  · intro w hSw
                    obtain ⟨s0, s1, s2, s3⟩ := hSw
                    go_simp
                  try simp only [ga, gb, gc, Act.put, gd, ge, gf]
                  refine tkA 3 (.int .i64 j3) rfl (by kernel_rfl) (fun _ _ _ h => (h : False).elim) (by kernel_rfl) (fun _ => ‹_›) ?_ ?_
                  · intro w _; go_simp
                  try simp only [ga, gb, gc, Act.put, gd, ge, gf]
                  refine tkA 4 (.pointer (some ⟨qb, qo + j3 * 3, none⟩)) rfl (by kernel_rfl) (fun _ _ _ h => (h : False).elim) (by kernel_rfl) (fun _ => ‹_›) ?_ ?_
                  · intro w _; go_simp
                  try simp only [ga, gb, gc, Act.put, gd, ge, gf]
                  refine tkA 5 (.pointer (some ⟨qb, qo + j3 * 3, none⟩)) rfl (by kernel_rfl) (fun _ _ _ h => (h : False).elim) (by kernel_rfl) (fun _ => ‹_›) ?_ ?_
                  · intro w _; go_simp
                  try simp only [ga, gb, gc, Act.put, gd, ge, gf]
                  refine tkL 6 (.agg #[.int .i64 q.1.1, .int .i64 q.1.2]) rfl (by kernel_rfl) (fun _ _ _ h => (h : False).elim) (by kernel_rfl) ‹_› ?_ ?_
                  · intro w hSw
                    obtain ⟨s0, s1, s2, s3⟩ := hSw
                    go_simp
                  try simp only [ga, gb, gc, Act.put, gd, ge, gf]
                  refine tkA 8 (.pointer (some ⟨g1, 6, none⟩)) rfl (by kernel_rfl) (fun _ _ _ h => (h : False).elim) (by kernel_rfl) (fun _ => ‹_›) ?_ ?_
                  · intro w _; go_simp
                  try simp only [ga, gb, gc, Act.put, gd, ge, gf]
                  refine tkL 9 (.slice (some ⟨qb, qo, none⟩) NQ cq) rfl (by kernel_rfl) (fun _ _ _ h => (h : False).elim) (by kernel_rfl) ‹_› ?_ ?_
                  · intro w hSw
                    obtain ⟨s0, s1, s2, s3⟩ := hSw
                    go_simp
                  try simp only [ga, gb, gc, Act.put, gd, ge, gf]
                  refine tkA 10 (.int .i64 j3) rfl (by kernel_rfl) (fun _ _ _ h => (h : False).elim) (by kernel_rfl) (fun _ => ‹_›) ?_ ?_
                  · intro w _; go_simp
                  try simp only [ga, gb, gc, Act.put, gd, ge, gf]
                  refine tkA 11 (.pointer (some ⟨qb, qo + j3 * 3, none⟩)) rfl (by kernel_rfl) (fun _ _ _ h => (h : False).elim) (by kernel_rfl) (fun _ => ‹_›) ?_ ?_
                  · intro w _; go_simp
                  try simp only [ga, gb, gc, Act.put, gd, ge, gf]
                  refine tkA 12 (.pointer (some ⟨qb, qo + j3 * 3 + 2, none⟩)) rfl (by kernel_rfl) (fun _ _ _ h => (h : False).elim) (by kernel_rfl) (fun _ => ‹_›) ?_ ?_
                  · intro w _; go_simp
                  try simp only [ga, gb, gc, Act.put, gd, ge, gf]
                  refine tkL 13 (.int .u64 q.2) rfl (by kernel_rfl) (fun _ _ _ h => (h : False).elim) (by kernel_rfl) ‹_› ?_ ?_
                  · intro w hSw
                    obtain ⟨s0, s1, s2, s3⟩ := hSw
                    go_simp
                  try simp only [ga, gb, gc, Act.put, gd, ge, gf]
                  refine wpAnyL_next (i := 7) (by kernel_rfl) rfl (fun K hK => ?_)
                  go_simp
                  refine (rpoint18_calls w1.heap.size n4 a4 k4 _ q.1 (by omega) wd hszd HRD.out).mono ?_; rintro e w5 ⟨a5, k5, rfl, hr5, hg5⟩
                  have HR5 := Lib.hid hr5
                  have HG5 := Lib.hid (HGD.out.trans hg5)
                  have hk5 := HKR.out _ _ HG5.out
                  have hS5 : w5.cell? ⟨g1, 6, none⟩ = some (.slice (some ⟨qb, qo, none⟩) NQ cq) ∧ w5.cell? ⟨qb, qo + j3 * 3, none⟩ = some (.int .i64 q.1.1) ∧ w5.cell? ⟨qb, qo + j3 * 3 + 1, none⟩ = some (.int .i64 q.1.2) ∧ w5.cell? ⟨qb, qo + j3 * 3 + 2, none⟩ = some (.int .u64 q.2) := ⟨(hk5.cell (p := ⟨g1, 6, none⟩) hl1 (fun h => h)).trans (cells_at HGB.out 6), (hk5.cell (p := ⟨qb, qo + j3 * 3, none⟩) hqb (fun h => h)).trans HQC.out.1, (hk5.cell (p := ⟨qb, qo + j3 * 3 + 1, none⟩) hqb (fun h => h)).trans HQC.out.2.1, (hk5.cell (p := ⟨qb, qo + j3 * 3 + 2, none⟩) hqb (fun h => h)).trans HQC.out.2.2⟩
                  have hsz5 : w1.heap.size ≤ w5.heap.size := hk5.size
                  clear hr5 hg5
                  go_wp2_with fail
                  refine hK.out _ _ hS5 (fun hHeld => ?_)
                  clear hK K
                  try simp only [ga, gb, gc, Act.put, gd, ge, gf]
                  refine wpAnyL_next (i := 14) (by kernel_rfl) rfl (fun K hK => ?_)
                  go_simp
                  refine (rword18_calls w1.heap.size (n4 + 8 + 8) a5 k5 _ q.2 HQI.out (by omega) w5 hsz5 HR5.out).mono ?_; rintro e w6 ⟨a6, k6, rfl, hr6, hg6⟩
                  have HR6 := Lib.hid (show w6.ownsRow w1.heap.size 5 1 (.slice a6 (n4 + 8 + 8 + 8) k6) (n4 + 8 + 8 + 8) (hd0 ++ regsV rs ++ ptsV ps ++ qsV (qs.take (j3 + 1))) by
                    rw [HST.out]
                    have h := hr6
                    rw [List.append_assoc] at h
                    rw [← List.append_assoc]
                    exact h)
                  have HG6 := Lib.hid (HG5.out.trans hg6)
                  have hk6 := HKR.out _ _ HG6.out
                  have hS6 : w6.cell? ⟨g1, 6, none⟩ = some (.slice (some ⟨qb, qo, none⟩) NQ cq) ∧ w6.cell? ⟨qb, qo + j3 * 3, none⟩ = some (.int .i64 q.1.1) ∧ w6.cell? ⟨qb, qo + j3 * 3 + 1, none⟩ = some (.int .i64 q.1.2) ∧ w6.cell? ⟨qb, qo + j3 * 3 + 2, none⟩ = some (.int .u64 q.2) := ⟨(hk6.cell (p := ⟨g1, 6, none⟩) hl1 (fun h => h)).trans (cells_at HGB.out 6), (hk6.cell (p := ⟨qb, qo + j3 * 3, none⟩) hqb (fun h => h)).trans HQC.out.1, (hk6.cell (p := ⟨qb, qo + j3 * 3 + 1, none⟩) hqb (fun h => h)).trans HQC.out.2.1, (hk6.cell (p := ⟨qb, qo + j3 * 3 + 2, none⟩) hqb (fun h => h)).trans HQC.out.2.2⟩
                  clear hr6 hg6
                  go_wp2_with fail
                  refine hK.out _ _ hS6 (fun hHeld => ?_)
                  clear hK K
                  try simp only [ga, gb, gc, Act.put, gd, ge, gf]
                  refine tkA 15 (.slice a6 (n4 + 8 + 8 + 8) k6) rfl (by kernel_rfl) (fun _ _ _ h => (h : False).elim) (by kernel_rfl) (fun _ => ‹_›) ?_ ?_
                  · intro w _; go_simp
                  try simp only [ga, gb, gc, Act.put, gd, ge, gf]
                  refine wpAnyL_done (by kernel_rfl) ?_ _
                  refine NoPanic.normal ?_
                  clear hS
                  go_wp2_with fail
                  go_roundw
                  case rel => exact ⟨j3 + 1, by omega, by go_num, _, _, _, rfl, by omega, HR6, HG6⟩
                  case measure => simp [intOf]; omega
                · obtain rfl : NQ = j3 := by omega
                  have hro := HR4.out
                  rw [List.take_of_length_le (by rw [HNQ.out]; exact Nat.le_refl _)] at hro
                  go_wp2_with fail
                  go_ret2
                  exact ⟨⟨_, _, rfl, row_mono hro (by have := hk1.size; omega)⟩, knil hk1 hkr⟩
end Go.Proofs.YtmoajobnhiopiaaGreatDoor.sv
set_option linter.unusedSimpArgs false
set_option linter.unusedVariables false
namespace Go.Proofs.YtmoajobnhiopiaaGreatDoor.sv
open Go Go.RowKit Go.Shelf Go.Maps Go.Proofs.YtmoajobnhiopiaaGreatDoor.mk Go.Proofs.YtmoajobnhiopiaaGreatDoor.tp Go.Proofs.YtmoajobnhiopiaaGreatDoor.rg Go.Proofs.YtmoajobnhiopiaaGreatDoor.lm Go.Proofs.YtmoajobnhiopiaaGreatDoor.gm Go.Proofs.YtmoajobnhiopiaaGreatDoor.po
def ptI (p : Int × Int) : List Int := le8 (IntKind.u64.wrap p.1) ++ le8 (IntKind.u64.wrap p.2)
def psI (l : List (Int × Int)) : List Int := l.flatMap ptI
def regsI (l : List Reg) : List Int := l.flatMap fun r => psI r.2.2
def qyI (q : Qry) : List Int := ptI q.1 ++ le8 q.2
def qusI (l : List Qry) : List Int := l.flatMap qyI
theorem le8_length (x : Int) : (le8 x).length = 8 := by unfold le8; simp
theorem ptI_length (p : Int × Int) : (ptI p).length = 16 := by unfold ptI; rw [List.length_append, le8_length, le8_length]
theorem qyI_length (q : Qry) : (qyI q).length = 24 := by unfold qyI; rw [List.length_append, le8_length, ptI_length]
theorem psI_length (l : List (Int × Int)) : (psI l).length = 16 * l.length := by
  induction l with
  | nil => rfl
  | cons p l ih =>
    show (ptI p ++ psI l).length = _
    rw [List.length_append, ptI_length, ih, List.length_cons]
    omega
theorem qusI_length (l : List Qry) : (qusI l).length = 24 * l.length := by
  induction l with
  | nil => rfl
  | cons p l ih =>
    show (qyI p ++ qusI l).length = _
    rw [List.length_append, qyI_length, ih, List.length_cons]
    omega
theorem leW_le8 {x : Int} (h : IsU x) : leW (le8 x) = x := by
  obtain ⟨h0, h1⟩ := h
  have e : le8 x = [x % 256, x / 256 % 256, x / 65536 % 256, x / 16777216 % 256, x / 4294967296 % 256, x / 1099511627776 % 256, x / 281474976710656 % 256, x / 72057594037927936 % 256] := by
    show [x / 1 % 256, _, _, _, _, _, _, _] = _
    rw [Int.ediv_one]
    rfl
  rw [e]
  simp only [leW]
  omega
theorem wrap64_u64 {x : Int} (h : IsS x) : wrap64 (IntKind.u64.wrap x) = x := by
  obtain ⟨h0, h1⟩ := h
  rw [IntKind.wrap_u64]
  unfold wrap64
  omega
theorem drop_app (a b : List Int) (n k : Nat) (h : a.length = n) : (a ++ b).drop (n + k) = b.drop k := by
  subst h
  rw [← List.drop_drop, List.drop_left]
theorem wdB_app (a b : List Int) (i k : Nat) (h : a.length = 8 * k) : wdB (a ++ b) (k + i) = wdB b i := by
  unfold wdB
  rw [show 8 * (k + i) = 8 * k + 8 * i by omega, drop_app a b (8 * k) (8 * i) h]
theorem wdB_one (x : Int) (b : List Int) : wdB (le8 x ++ b) 0 = le8 x := by
  unfold wdB
  rw [List.drop_zero, List.take_append_of_le_length (by rw [le8_length]; omega), List.take_of_length_le (by rw [le8_length]; omega)]
theorem ptB_one {p : Int × Int} (h : Pt p) (b : List Int) : ptB (ptI p ++ b) 0 = p := by
  unfold ptB wd ptI
  have h2 : wdB ((le8 (IntKind.u64.wrap p.1) ++ le8 (IntKind.u64.wrap p.2)) ++ b) (2 * 0 + 1) = le8 (IntKind.u64.wrap p.2) := by
    rw [List.append_assoc, show 2 * 0 + 1 = 1 + 0 from rfl, wdB_app _ _ 0 1 (by rw [le8_length]), wdB_one]
  rw [h2, List.append_assoc, show 2 * 0 = 0 from rfl, wdB_one, leW_le8 (wrap_isU _), leW_le8 (wrap_isU _), wrap64_u64 h.1, wrap64_u64 h.2]
theorem ptB_app (p : Int × Int) (b : List Int) (i : Nat) : ptB (ptI p ++ b) (i + 1) = ptB b i := by
  unfold ptB wd
  rw [show 2 * (i + 1) + 1 = 2 + (2 * i + 1) by omega, show 2 * (i + 1) = 2 + 2 * i by omega, wdB_app _ _ _ 2 (by rw [ptI_length]), wdB_app _ _ _ 2 (by rw [ptI_length])]
theorem ptsB_all {l : List (Int × Int)} (h : Pts l) (b : List Int) : ptsB (psI l ++ b) l.length = l := by
  induction l with
  | nil => rfl
  | cons p l ih =>
    unfold ptsB
    rw [List.length_cons, List.range_succ_eq_map, List.map_cons, List.map_map]
    have e : psI (p :: l) ++ b = ptI p ++ (psI l ++ b) := by
      show (ptI p ++ psI l) ++ b = _
      rw [List.append_assoc]
    rw [e, ptB_one (h p List.mem_cons_self)]
    congr 1
    have h2 := ih (fun x hx => h x (List.mem_cons_of_mem _ hx))
    unfold ptsB at h2
    rw [← h2]
    simp only [List.length_map, List.length_range]
    apply List.map_congr_left
    intro i _
    exact (ptB_app p _ i).trans (by rw [h2])
theorem qB_one {q : Qry} (h : Pt q.1 ∧ IsU q.2) (b : List Int) : qB (qyI q ++ b) 0 = q := by
  unfold qB
  rw [show 24 * 0 = 0 from rfl, List.drop_zero]
  unfold qyI
  rw [List.append_assoc, ptB_one h.1, show (2 : Nat) = 2 + 0 from rfl, wdB_app _ _ 0 2 (by rw [ptI_length]), wdB_one, leW_le8 h.2]
theorem qB_app (q : Qry) (b : List Int) (i : Nat) : qB (qyI q ++ b) (i + 1) = qB b i := by
  unfold qB
  rw [show 24 * (i + 1) = 24 + 24 * i by omega, drop_app _ _ 24 _ (qyI_length q)]
theorem qsB_all {l : List Qry} (h : QsOk l) (b : List Int) : qsB (qusI l ++ b) l.length = l := by
  induction l with
  | nil => rfl
  | cons p l ih =>
    unfold qsB
    rw [List.length_cons, List.range_succ_eq_map, List.map_cons, List.map_map]
    have e : qusI (p :: l) ++ b = qyI p ++ (qusI l ++ b) := by
      show (qyI p ++ qusI l) ++ b = _
      rw [List.append_assoc]
    rw [e, qB_one (h p List.mem_cons_self)]
    congr 1
    have h2 := ih (fun x hx => h x (List.mem_cons_of_mem _ hx))
    unfold qsB at h2
    rw [← h2]
    simp only [List.length_map, List.length_range]
    apply List.map_congr_left
    intro i _
    exact (qB_app p _ i).trans (by rw [h2])
def strip (r : Reg) : Reg := (r.1, r.2.1, [])
def SizedR (l : List Reg) : Prop := ∀ r ∈ l, (r.2.2.length : Int) = sizeR r.2.1
theorem totR_strip (l : List Reg) : totR (l.map strip) = totR l := by
  induction l with
  | nil => rfl
  | cons r l ih => simp only [List.map_cons, totR, ih]; rfl
theorem regsI_length {l : List Reg} (h : SizedR l) : (regsI l).length = 16 * (totR l).toNat := by
  induction l with
  | nil => rfl
  | cons r l ih =>
    have h1 := h r List.mem_cons_self
    have h2 := ih (fun x hx => h x (List.mem_cons_of_mem _ hx))
    have h3 := (totR_bound l).1
    show (psI r.2.2 ++ regsI l).length = _
    rw [List.length_append, psI_length, h2]
    simp only [totR]
    omega
theorem rg_ext {a b : List Reg} (hl : a.length = b.length) (h : ∀ i, i < a.length → rg a i = rg b i) : a = b := by
  apply List.ext_getElem hl
  intro i h1 h2
  have := h i h1
  unfold rg at this
  rwa [List.getD_eq_getElem?_getD, List.getD_eq_getElem?_getD, List.getElem?_eq_getElem h1, List.getElem?_eq_getElem h2] at this
theorem rg_strip (l : List Reg) (i : Nat) : rg (l.map strip) i = strip (rg l i) := by
  unfold rg
  rw [List.getD_eq_getElem?_getD, List.getD_eq_getElem?_getD, List.getElem?_map]
  cases l[i]? <;> rfl
theorem decR_strip {l : List Reg} (h : SizedR l) (hp : RegsOk l) (b : List Int) : decR (l.map strip) (regsI l ++ b) = l := by
  refine rg_ext (by rw [decR_length, List.length_map]) (fun i hi => ?_)
  rw [decR_length] at hi
  rw [rg_decR hi, rg_strip]
  rw [List.length_map] at hi
  rw [← List.map_take, totR_strip]
  have hd : l.drop i = rg l i :: l.drop (i + 1) := by
    rw [List.drop_eq_getElem_cons hi]
    unfold rg
    rw [List.getD_eq_getElem?_getD, List.getElem?_eq_getElem hi]
    rfl
  have e : regsI l = regsI (l.take i) ++ (psI (rg l i).2.2 ++ regsI (l.drop (i + 1))) := by
    rw [show regsI l = regsI (l.take i ++ l.drop i) by rw [List.take_append_drop], hd]
    unfold regsI
    rw [List.flatMap_append, List.flatMap_cons]
  have hL := regsI_length (l := l.take i) (fun r hr => h r (List.mem_of_mem_take hr))
  have hs := h _ (rg_mem hi)
  rw [e, List.append_assoc, ← Nat.add_zero (16 * _), drop_app _ _ _ 0 hL, List.drop_zero, List.append_assoc]
  have hn : (sizeR (strip (rg l i)).2.1).toNat = (rg l i).2.2.length := by
    show (sizeR (rg l i).2.1).toNat = _
    omega
  rw [hn, ptsB_all (hp _ (rg_mem hi))]
  rfl
theorem bt_app (a b : List Int) (i : Nat) : bt (a ++ b) (a.length + i) = bt b i := by
  unfold bt
  rw [List.getElem?_append_right (by omega), show a.length + i - a.length = i by omega]
theorem bt_two (x y : Int) (b : List Int) (i : Nat) : bt ([x, y] ++ b) (2 + i) = bt b i := bt_app [x, y] b i
theorem bt_left {a b : List Int} {i : Nat} (h : i < a.length) : bt (a ++ b) i = bt a i := by
  unfold bt
  rw [List.getElem?_append_left h]
theorem regB_regI {r : Reg} (h0 : 0 ≤ r.2.1) (h1 : r.2.1 ≤ 64) : regB (regI r) = strip r := by
  obtain ⟨d, n, l⟩ := r
  unfold regB regI strip
  simp only at h0 h1 ⊢
  cases d
  · simp; omega
  · simp; omega
structure EncOk (op : Int) (l : List Reg) (ps : List (Int × Int)) (qs : List Qry) : Prop where
  op : op = 4 ∧ ps.length = 1 ∧ qs = [] ∨ op = 5 ∧ ps = [] ∧ 1 ≤ qs.length ∧ qs.length ≤ 4096
  len : 1 ≤ l.length ∧ l.length ≤ 64
  size : SizedR l
  right : l.any wrongR = false
  pts : RegsOk l
  pt : Pts ps
  qs : QsOk qs
theorem EncOk.small {op : Int} {l : List Reg} {ps : List (Int × Int)} {qs : List Qry} (h : EncOk op l ps qs) : ∀ r ∈ l, 0 ≤ r.2.1 ∧ r.2.1 ≤ 64 := by
  intro r hr
  have h1 := List.any_eq_false.1 h.right r hr
  unfold wrongR at h1
  have h2 : sizeR r.2.1 ≠ 0 := by simpa using h1
  unfold sizeR sizeC at h2
  split at h2
  · omega
  · split at h2
    · omega
    · exact absurd rfl h2
theorem strip_wrong (l : List Reg) : (l.map strip).any wrongR = l.any wrongR := by rw [List.any_map]; rfl
theorem strip_holds (l : List Reg) : (l.map strip).any holdsR = false := by
  rw [List.any_eq_false]
  intro r hr
  obtain ⟨x, _, rfl⟩ := List.mem_map.1 hr
  simp [holdsR, strip]
def encI (op : Int) (l : List Reg) (ps : List (Int × Int)) (qs : List Qry) : List Int := hdrI op (l.map strip) qs.length ++ (regsI l ++ (psI ps ++ qusI qs))
theorem hdr_length (op : Int) (l : List Reg) (n : Int) : (hdrI op l n).length = (if op = 5 then 4 else 2) + l.length := by
  unfold hdrI
  by_cases h : op = 5 <;> simp [h] <;> omega
theorem hdr_bt (op : Int) {l : List Reg} (n : Int) (b : List Int) : bt (hdrI op l n ++ b) 0 = op ∧ bt (hdrI op l n ++ b) 1 = l.length ∧ (∀ i, i < l.length → bt (hdrI op l n ++ b) (2 + i) = regI (rg l i)) ∧ (op = 5 → bt (hdrI op l n ++ b) (2 + l.length) = n % 256 ∧ bt (hdrI op l n ++ b) (3 + l.length) = n / 256) := by
  have e : hdrI op l n ++ b = [op, (l.length : Int)] ++ (l.map regI ++ ((if op = 5 then [n % 256, n / 256] else []) ++ b)) := by
    unfold hdrI
    simp only [List.append_assoc]
  refine ⟨rfl, rfl, fun i hi => ?_, fun h5 => ⟨?_, ?_⟩⟩
  · rw [e, bt_two, bt_left (by rw [List.length_map]; exact hi)]
    unfold bt rg
    rw [List.getElem?_map, List.getElem?_eq_getElem hi, List.getD_eq_getElem?_getD, List.getElem?_eq_getElem hi]
    rfl
  · rw [e, bt_two, if_pos h5]
    have h := bt_app (l.map regI) ([n % 256, n / 256] ++ b) 0
    rw [List.length_map] at h
    rw [← Nat.add_zero l.length, h]
    rfl
  · rw [e, show 3 + l.length = 2 + (l.length + 1) by omega, bt_two, if_pos h5]
    have h := bt_app (l.map regI) ([n % 256, n / 256] ++ b) 1
    rw [List.length_map] at h
    rw [h]
    rfl
theorem enc_head {op : Int} {l : List Reg} {ps : List (Int × Int)} {qs : List Qry} (h : EncOk op l ps qs) :
    parE (encI op l ps qs) = 0 ∧ parN (encI op l ps qs) = (hdrI op (l.map strip) qs.length).length ∧ parH (encI op l ps qs) = ⟨op, 0, l.map strip, qs.length⟩ := by
  obtain ⟨b, hb⟩ : ∃ b, regsI l ++ (psI ps ++ qusI qs) = b := ⟨_, rfl⟩
  obtain ⟨h0, h1, h2, h3⟩ := hdr_bt op (l := l.map strip) qs.length b
  have hL := hdr_length op (l.map strip) qs.length
  have he : encI op l ps qs = hdrI op (l.map strip) qs.length ++ b := by unfold encI; rw [hb]
  rw [he]
  have hlen : (hdrI op (l.map strip) qs.length).length ≤ (hdrI op (l.map strip) qs.length ++ b).length := by rw [List.length_append]; omega
  obtain ⟨bs, hbs⟩ : ∃ bs, hdrI op (l.map strip) qs.length ++ b = bs := ⟨_, rfl⟩
  rw [hbs] at h0 h1 h2 h3 hlen ⊢
  rw [List.length_map] at h1 h2 h3 hL
  have hK : parK bs = l.length := by unfold parK; rw [h1]; omega
  have hop : op = 4 ∨ op = 5 := h.op.imp (fun x => x.1) (fun x => x.1)
  have hR : regsB bs (parK bs) = l.map strip := by
    rw [hK]
    refine rg_ext (by rw [regsB_length, List.length_map]) (fun i hi => ?_)
    rw [regsB_length] at hi
    have hsm := h.small _ (rg_mem hi)
    rw [rg_strip]
    unfold rg regsB
    rw [List.getD_eq_getElem?_getD, List.getElem?_map, List.getElem?_range hi]
    show regB (bt bs (2 + i)) = _
    rw [h2 i hi, rg_strip]
    have : regI (strip (rg l i)) = regI (rg l i) := rfl
    rw [this, regB_regI hsm.1 hsm.2]
    rfl
  have hw : (regsB bs (parK bs)).any wrongR = false := by rw [hR, strip_wrong, h.right]
  have hwn : ¬ (regsB bs (parK bs)).any wrongR = true := by rw [hw]; decide
  have hl1 := h.len.1
  have hl2 := h.len.2
  have hN : op = 5 → ptsN bs = qs.length := by
    intro h5
    obtain ⟨k1, k2⟩ := h3 h5
    unfold ptsN
    rw [hK, k1, k2]
    omega
  have hEz : parE bs = 0 := by
    rw [parE_rs (by rw [h0]; exact hop) (by rw [h1]; omega) (by rw [hK]; rcases hop with rfl | rfl <;> simp at hL <;> omega), if_neg hwn]
    rcases h.op with ⟨h4, _⟩ | ⟨h5, _, hq1, hq2⟩
    · rw [if_pos (by rw [h0]; exact h4)]
    · have hn := hN h5
      rw [if_neg (by rw [h0]; omega), if_neg (by rw [hK]; rw [h5] at hL; simp at hL; rw [h5] at hlen; omega), if_pos (by rw [hn]; omega)]
  refine ⟨hEz, ?_, ?_⟩
  · unfold parN
    rw [if_neg (fun hh => hh hEz), hL, hK, h0]
    rcases hop with rfl | rfl <;> simp
  · unfold parH
    rw [if_neg (fun hh => hh hEz), hR, h0, if_neg (by omega), if_pos (by omega)]
    rcases h.op with ⟨h4, _, hq⟩ | ⟨h5, _⟩
    · rw [if_neg (by omega), hq]
      rfl
    · rw [if_pos h5, hN h5]
theorem enc_body {op : Int} {l : List Reg} {ps : List (Int × Int)} {qs : List Qry} (h : EncOk op l ps qs) : bodyB (encI op l ps qs) = regsI l ++ (psI ps ++ qusI qs) := by
  unfold bodyB
  rw [(enc_head h).2.1]
  unfold encI
  rw [List.drop_left]
theorem enc_cls {op : Int} {l : List Reg} {ps : List (Int × Int)} {qs : List Qry} (h : EncOk op l ps qs) : clsE (encI op l ps qs) = 0 := by
  obtain ⟨h1, h2, h3⟩ := enc_head h
  unfold clsE
  rw [h1, h2, h3]
  have ht := (totR_bound l).1
  have hl : ((encI op l ps qs).length : Int) = ((hdrI op (l.map strip) qs.length).length : Int) + payH ⟨op, 0, l.map strip, qs.length⟩ := by
    unfold encI
    rw [List.length_append, List.length_append, List.length_append, regsI_length h.size, psI_length, qusI_length]
    unfold payH
    simp only
    rcases h.op with ⟨rfl, hp, hq⟩ | ⟨rfl, hp, hq⟩
    · rw [hp, hq]; simp [totR_strip]; omega
    · rw [hp]; simp [totR_strip]; omega
  rw [if_neg (fun hh => hh.2 hl)]
theorem enc_regs {op : Int} {l : List Reg} {ps : List (Int × Int)} {qs : List Qry} (h : EncOk op l ps qs) : reqR (encI op l ps qs) = l ∧ reqP (encI op l ps qs) = ps ∧ reqQ (encI op l ps qs) = qs := by
  obtain ⟨h1, h2, h3⟩ := enc_head h
  unfold reqR reqP reqQ
  rw [enc_body h, h3]
  simp only [totR_strip]
  have hL := regsI_length h.size
  have hP := psI_length ps
  refine ⟨decR_strip h.size h.pts _, ?_, ?_⟩
  · rw [← Nat.add_zero (16 * _), drop_app _ _ _ 0 hL, List.drop_zero]
    have hc : (cntP ⟨op, 0, l.map strip, qs.length⟩).toNat = ps.length := by
      unfold cntP
      rcases h.op with ⟨rfl, hp, _⟩ | ⟨rfl, hp, _⟩
      · rw [hp]; rfl
      · rw [hp]; rfl
    rw [hc, ptsB_all h.pt]
  · have hcp : 16 * (cntP ⟨op, 0, l.map strip, qs.length⟩).toNat = (psI ps).length := by
      rw [hP]
      unfold cntP
      rcases h.op with ⟨rfl, hp, _⟩ | ⟨rfl, hp, _⟩
      · rw [hp]; rfl
      · rw [hp]; rfl
    have hc : (cntQ ⟨op, 0, l.map strip, qs.length⟩).toNat = qs.length := by
      unfold cntQ
      rcases h.op with ⟨rfl, _, hq⟩ | ⟨rfl, _, hq⟩
      · rw [hq]; rfl
      · simp
    rw [drop_app _ _ _ _ hL, hcp, List.drop_left, hc]
    have := qsB_all h.qs []
    rwa [List.append_nil] at this
theorem enc_serv {op : Int} {l : List Reg} {ps : List (Int × Int)} {qs : List Qry} (h : EncOk op l ps qs) :
    servI (encI op l ps qs) = respI op (if op = 5 then batX l else fenI l (pt ps 0)) (if op = 5 then batN l qs else 0) (if op = 5 then batR l qs else []) := by
  obtain ⟨h1, h2, h3⟩ := enc_regs h
  unfold servI
  rw [if_neg (fun hh => hh (enc_cls h)), h1, h2, h3, (enc_head h).2.2]
  unfold ansX ansC ansL ansV
  simp only
  rcases h.op with ⟨rfl, _⟩ | ⟨rfl, _⟩ <;> rfl
theorem le8_ok (x : Int) : ∀ y ∈ le8 x, IsB y := by
  intro y hy
  unfold le8 at hy
  obtain ⟨k, _, rfl⟩ := List.mem_map.1 hy
  exact wrap_isB _
theorem ptI_ok (p : Int × Int) : ∀ y ∈ ptI p, IsB y := by
  intro y hy
  rcases List.mem_append.1 hy with hy | hy <;> exact le8_ok _ _ hy
theorem psI_ok (l : List (Int × Int)) : ∀ y ∈ psI l, IsB y := by
  intro y hy
  obtain ⟨p, _, hy⟩ := List.mem_flatMap.1 hy
  exact ptI_ok _ _ hy
theorem encI_ok {op : Int} {l : List Reg} {ps : List (Int × Int)} {qs : List Qry} (h : EncOk op l ps qs) : ∀ y ∈ encI op l ps qs, IsB y := by
  have hl1 := h.len.1
  have hl2 := h.len.2
  intro y hy
  unfold encI at hy
  rcases List.mem_append.1 hy with hy | hy
  · unfold hdrI at hy
    rcases List.mem_append.1 hy with hy | hy
    · rcases List.mem_append.1 hy with hy | hy
      · simp at hy
        rcases hy with rfl | rfl
        · unfold IsB; rcases h.op with ⟨rfl, _⟩ | ⟨rfl, _⟩ <;> omega
        · unfold IsB; omega
      · obtain ⟨r, hr, rfl⟩ := List.mem_map.1 hy
        obtain ⟨r2, hr2, rfl⟩ := List.mem_map.1 hr
        have := h.small r2 hr2
        unfold regI strip IsB
        simp only
        split <;> omega
    · rcases h.op with ⟨rfl, _⟩ | ⟨rfl, _, hq⟩
      · simp at hy
      · simp at hy
        unfold IsB
        rcases hy with rfl | rfl <;> omega
  · rcases List.mem_append.1 hy with hy | hy
    · obtain ⟨r, _, hy⟩ := List.mem_flatMap.1 hy
      exact psI_ok _ _ hy
    · rcases List.mem_append.1 hy with hy | hy
      · exact psI_ok _ _ hy
      · obtain ⟨q, _, hy⟩ := List.mem_flatMap.1 hy
        rcases List.mem_append.1 hy with hy | hy
        · exact ptI_ok _ _ hy
        · exact le8_ok _ _ hy
end Go.Proofs.YtmoajobnhiopiaaGreatDoor.sv
set_option linter.unusedSimpArgs false
set_option linter.unusedVariables false
namespace Go.Proofs.YtmoajobnhiopiaaGreatDoor.sv
open Go Go.RowKit Go.Shelf Go.Maps Go.Proofs.YtmoajobnhiopiaaGreatDoor.mk Go.Proofs.YtmoajobnhiopiaaGreatDoor.tp Go.Proofs.YtmoajobnhiopiaaGreatDoor.rg Go.Proofs.YtmoajobnhiopiaaGreatDoor.lm Go.Proofs.YtmoajobnhiopiaaGreatDoor.gm Go.Proofs.YtmoajobnhiopiaaGreatDoor.po
theorem le8V_map (x : Int) : le8V x = (le8 x).map (Value.int .u8) := by unfold le8V le8; rw [List.map_map]; rfl
theorem ptV_map (p : Int × Int) : ptV p = (ptI p).map (Value.int .u8) := by unfold ptV ptI; rw [List.map_append, le8V_map, le8V_map]
theorem ptsV_map (l : List (Int × Int)) : ptsV l = (psI l).map (Value.int .u8) := by
  unfold ptsV psI
  rw [List.map_flatMap, show ptV = fun p => (ptI p).map (Value.int .u8) from funext ptV_map]
theorem regsV_map (l : List Reg) : regsV l = (regsI l).map (Value.int .u8) := by
  unfold regsV regsI
  rw [List.map_flatMap]
  congr 1
  funext r
  exact ptsV_map _
theorem qsV_map (l : List Qry) : qsV l = (qusI l).map (Value.int .u8) := by
  unfold qsV qusI
  rw [List.map_flatMap, show qyV = fun q => (qyI q).map (Value.int .u8) from funext fun q => by unfold qyV qyI; rw [List.map_append, ptV_map, le8V_map]]
theorem encV_map (op : Int) (l : List Reg) (ps : List (Int × Int)) (qs : List Qry) : (hdrI op (l.map strip) qs.length).map (Value.int .u8) ++ regsV l ++ ptsV ps ++ qsV qs = (encI op l ps qs).map (Value.int .u8) := by
  unfold encI
  rw [List.map_append, List.map_append, List.map_append, regsV_map, ptsV_map, qsV_map]
  simp only [List.append_assoc]
theorem rencode_calls (op : Int) (l : List Reg) (ps : List (Int × Int)) (qs : List Qry) (h : EncOk op l ps qs) (ah ar ap aq : Option Addr) (ch cr cp cq : Nat) (w : World)
    (hreg : regsAt w (.slice ah l.length ch) (l.map strip)) (hrr : regsAt w (.slice ar l.length cr) l) (hpt : ptsAt w (.slice ap ps.length cp) ps) (hqq : qsAt w (.slice aq qs.length cq) qs) :
    Calls Tryz.prog 64 #[.agg #[.int .i64 op, .int .i64 0, .slice ah l.length ch, .int .i64 qs.length, .slice ar l.length cr, .slice ap ps.length cp, .slice aq qs.length cq]] w fun e w' => (∃ v n, e = .returned (.tuple #[v, .int .i64 0]) ∧ w'.ownsRow w.heap.size 5 1 v n ((encI op l ps qs).map (Value.int .u8))) ∧ Keeps (fun _ => False) w w' := by
  have hm : (l.map strip).length = l.length := List.length_map _
  have hw : (l.map strip).any wrongR = false := by rw [strip_wrong]; exact h.right
  have hf2 : ∀ i, i < l.length → (rg l i).1 = (rg (l.map strip) i).1 ∧ (rg l i).2.1 = (rg (l.map strip) i).2.1 ∧ ((rg l i).2.2.length : Int) = sizeR (rg (l.map strip) i).2.1 := by
    intro i hi
    rw [rg_strip]
    exact ⟨rfl, rfl, h.size _ (rg_mem hi)⟩
  have hlen := h.len
  have hdl : ((hdrI op (l.map strip) qs.length).map (Value.int .u8)).length ≤ 70 := by
    rw [List.length_map, hdr_length, hm]
    split <;> omega
  rw [← encV_map]
  rcases h.op with ⟨rfl, h1, rfl⟩ | ⟨rfl, rfl, h2, h3⟩
  · have hnp : ps.length = 1 := h1
    refine rencode_gen 4 0 (([] : List Qry).length : Int) ah ar ap aq l.length ch cr ps.length cp ([] : List Qry).length cq (l.map strip) l ps [] _ hm hlen.2 rfl hf2 rfl rfl (by omega) (by simp) h.qs w (fun W hk => ?_) hdl (fun W hk => ?_) hreg hrr hpt hqq
    · exact rformat_4 ah l.length ch (l.map strip) hm.symm hlen.1 hlen.2 hw (strip_holds l) W (hreg.kept hk)
    · rw [hnp]
      exact rcounts_4 0 0 ah l.length ch W
  · refine rencode_gen 5 0 (qs.length : Int) ah ar ap aq l.length ch cr ([] : List (Int × Int)).length cp qs.length cq (l.map strip) l [] qs _ hm hlen.2 rfl hf2 rfl rfl (by simp) h3 h.qs w (fun W hk => ?_) hdl (fun W hk => ?_) hreg hrr hpt hqq
    · exact rformat_5 ah l.length ch (l.map strip) hm.symm hlen.1 hlen.2 hw (strip_holds l) qs.length (by omega) (by omega) W (hreg.kept hk)
    · exact rcounts_5 0 qs.length ah l.length ch W
def Gives (w : World) (l : List Int) (e : Ending) (w' : World) : Prop := (∃ v, e = .returned v ∧ byAt w' v l) ∧ Keeps (fun _ => False) w w'
set_option maxRecDepth 100000 in
set_option maxHeartbeats 4000000 in
theorem request_calls (op : Int) (l : List Reg) (ps : List (Int × Int)) (qs : List Qry) (h : EncOk op l ps qs) (ah ar ap aq : Option Addr) (ch cr cp cq : Nat) (w : World)
    (hreg : regsAt w (.slice ah l.length ch) (l.map strip)) (hrr : regsAt w (.slice ar l.length cr) l) (hpt : ptsAt w (.slice ap ps.length cp) ps) (hqq : qsAt w (.slice aq qs.length cq) qs) :
    Calls Tryz.prog 37 #[.agg #[.int .i64 op, .int .i64 0, .slice ah l.length ch, .int .i64 qs.length, .slice ar l.length cr, .slice ap ps.length cp, .slice aq qs.length cq]] w (Gives w (encI op l ps qs)) := by
  have HE := Lib.hid (fun W (hk : Keeps (fun _ => False) w W) => rencode_calls op l ps qs h ah ar ap aq ch cr cp cq W (hreg.kept hk) (hrr.kept hk) (hpt.kept hk) (hqq.kept hk))
  have HOK := Lib.hid (encI_ok h)
  generalize encI op l ps qs = L at HE HOK ⊢
  generalize l.length = K at HE ⊢
  generalize ps.length = NP at HE ⊢
  generalize qs.length = NQ at HE ⊢
  generalize op = xo at HE ⊢
  clear h hreg hrr hpt hqq
  go_enter Tryz.func37, Tryz.ntmps37
  go_upto_region 1 with fail
  obtain ⟨w1, hw1⟩ : ∃ w1, w.alloc (.cells #[.int .i64 xo, .int .i64 0, .slice ah K ch, .int .i64 NQ, .slice ar K cr, .slice ap NP cp, .slice aq NQ cq] 62) = w1 := ⟨_, rfl⟩
  obtain ⟨g1, hg1⟩ : ∃ g, w.heap.size = g := ⟨_, rfl⟩
  have hg := heap_alloc_new w (.cells #[.int .i64 xo, .int .i64 0, .slice ah K ch, .int .i64 NQ, .slice ar K cr, .slice ap NP cp, .slice aq NQ cq] 62)
  have hk1 : Keeps (fun _ => False) w w1 := by rw [← hw1]; exact (Keeps.refl _ w).alloc _
  rw [hw1, hg1] at hg
  rw [hw1]
  try rw [hg1]
  have c0 := cells_at hg 0
  have c1 := cells_at hg 1
  have c2 := cells_at hg 2
  have c3 := cells_at hg 3
  have c4 := cells_at hg 4
  have c5 := cells_at hg 5
  have c6 := cells_at hg 6
  clear hw1 hg1 hg
  go_wp2_with fail
  refine (HE.out w1 hk1).mono ?_; rintro e w2 ⟨⟨v, n, rfl, hv⟩, hk2⟩
  have HV := Lib.hid (by_row hv HOK.out)
  obtain ⟨a2, c2', rfl⟩ := shape_own hv
  clear hv c0 c1 c2 c3 c4 c5 c6
  go_wp2_with fail
  go_ret
  exact ⟨⟨_, rfl, HV.out⟩, knil hk1 hk2⟩
def pubV (l : List Reg) (k : Nat) : List Value := rcl ((l.take k).map strip)
set_option maxRecDepth 100000 in
set_option maxHeartbeats 4000000 in
theorem public_calls (a0 : Option Addr) (n c0 : Nat) (l : List Reg) (hn : l.length = n) (h64 : n ≤ 1000) (w : World) (h : regsAt w (.slice a0 n c0) l) :
    Calls Tryz.prog 38 #[.slice a0 n c0] w fun e w' => (∃ a c, e = .returned (.slice a n c) ∧ regsAt w' (.slice a n c) (l.map strip)) ∧ Keeps (fun _ => False) w w' := by
  obtain ⟨i0, hi, hz0, hz1, hz2⟩ := info_parts infoR
  have HR := Lib.hid h
  have HN := Lib.hid hn
  clear h hn
  go_enter Tryz.func38, Tryz.ntmps38
  go_wp2_with fail
  go_loopw [3, 5, 8] (fun s _ i wr => ∃ k : Nat, k ≤ n ∧ i = .int .i64 k ∧ ∃ a c, s = .slice a k c ∧ RowKit.Hid (wr.ownsRow w.heap.size 40 3 (.slice a k c) k (pubV l k)) ∧ RowKit.Hid (Keeps (fun _ => False) w wr)) (fun _ _ i _ => n - (intOf i).toNat)
  case atStart => exact ⟨0, Nat.zero_le _, rfl, _, _, rfl, Lib.hid (World.ownsRow_nil w _ _ _), Lib.hid (Keeps.refl _ _)⟩
  case round =>
    obtain ⟨k, hk, rfl, a, c, rfl, HRW, HW⟩ := hrel
    by_cases hkl : k < n
    · have hkI : (k : Int) < (n : Int) := by omega
      have hk0 : (0 : Int) ≤ (k : Int) := by omega
      obtain ⟨br, orr, hbr, har, hr1⟩ : ∃ br orr, br < w.heap.size ∧ a0 = some ⟨br, orr, none⟩ ∧ regC w br (orr + k * 3) (rg l k) := by
        rcases HR.out with ⟨h0, _⟩ | ⟨b, o, c, he, hb, hc⟩
        · have := HN.out; rw [h0] at this; simp at this; omega
        · injection he with h1 h2 h3
          exact ⟨b, o, hb, h1, hc k (by rw [HN.out]; exact hkl)⟩
      subst har
      obtain ⟨e0, e1, an, ln, cn, e2, hpn⟩ := hr1.kept hbr HW.out
      have hst : pubV l (k + 1) = pubV l k ++ [.bool (rg l k).1, .int .i64 (rg l k).2.1, .slice none 0 0] := by
        unfold pubV
        rw [rg_take (by rw [HN.out]; exact hkl), List.map_append, List.map_cons, List.map_nil, rcl_snoc]
        rfl
      obtain ⟨d, hd⟩ : ∃ d, (rg l k).1 = d := ⟨_, rfl⟩
      obtain ⟨m, hm⟩ : ∃ m, (rg l k).2.1 = m := ⟨_, rfl⟩
      rw [hd] at e0 hst
      rw [hm] at e1 hst
      have HST := Lib.hid hst
      have hsz := HW.out.size
      clear hd hm hst hpn hr1
      go_upto_region 5 with fail
      obtain ⟨wa, hwa⟩ : ∃ wa, wr.alloc (.cells #[.bool d, .int .i64 m, .slice an ln cn] 40) = wa := ⟨_, rfl⟩
      obtain ⟨g5, hg5⟩ : ∃ g, wr.heap.size = g := ⟨_, rfl⟩
      have hga := heap_alloc_new wr (.cells #[.bool d, .int .i64 m, .slice an ln cn] 40)
      have hka : Keeps (fun _ => False) wr wa := by rw [← hwa]; exact (Keeps.refl _ wr).alloc _
      have HRA := Lib.hid (rowW_nil HRW.out hka)
      rw [hwa, hg5] at hga
      rw [hwa]
      try rw [hg5]
      have hsa : w.heap.size ≤ wa.heap.size := by have := hka.size; omega
      have HWA := Lib.hid (knil HW.out hka)
      have c0 := cells_at hga 0
      have c1 := cells_at hga 1
      clear hwa hg5 hga e0 e1 e2
      go_wp2_with (at_builtin; refine wpList_append_at rfl _ _ 25 rfl w.heap.size 40 i0 (.agg #[.bool false, .int .i64 0, .slice none 0 0]) 3 40 Tryz.underlying25 hi hz0 hz1 hz2 rfl (by decide) _ _ _ rfl (HRA.out.alloc _) (some ⟨wa.heap.size, 0, none⟩) 1 1 [.bool d, .int .i64 m, .slice none 0 0] rfl (fun h => by cases h) rfl ?c1 ?c2 ?c3 ?c4 ?c5 ?_)
      case c1 =>
        intro ad had j u hj
        injection had with had
        subst had
        have hadd : (⟨wa.heap.size, 0, none⟩ : Addr).add j = ⟨wa.heap.size, 0 + j, none⟩ := by unfold Addr.add; split <;> simp_all
        rw [hadd, cell_of_row _ _ _ _ _ _ (heap_alloc_new wa _), Nat.zero_add]
        simpa using hj
      case c2 => first | (intro u hu; simp at hu; rcases hu with rfl | rfl | rfl <;> rfl) | rfl
      case c3 => unfold maxLen; omega
      case c4 => omega
      case c5 => first | omega | (simp; omega)
      intro v5 w5 hown5 hgrow5 hat5
      obtain ⟨a5, c5', rfl⟩ := shape_own hown5
      have HW5 := Lib.hid ((HWA.out.alloc _).grown hgrow5 (fun g hg hlt => by have := HRA.out.lt g hg; omega) : Keeps (fun _ => False) w w5)
      have HROW5 := Lib.hid (show w5.ownsRow w.heap.size 40 3 (.slice a5 (k + 1) c5') (k + 1) (pubV l (k + 1)) by rw [HST.out]; exact hown5)
      clear hown5 hgrow5 hat5 HRW HW c0 c1
      go_wp2_with fail
      go_roundw
      case rel => exact ⟨k + 1, by omega, by go_num, _, _, rfl, HROW5, HW5⟩
      case measure => simp [intOf]; omega
    · obtain rfl : n = k := by omega
      go_wp2_with fail
      go_ret
      have hrow := HRW.out
      unfold pubV at hrow
      rw [List.take_of_length_le (by rw [HN.out]; exact Nat.le_refl _)] at hrow
      exact ⟨⟨_, _, rfl, regsAt_row hrow (by rw [List.length_map, HN.out]) (fun r hr => by obtain ⟨x, _, rfl⟩ := List.mem_map.1 hr; rfl)⟩, HW.out⟩
set_option maxRecDepth 100000 in
set_option maxHeartbeats 4000000 in
theorem batch_calls (l : List Reg) (qs : List Qry) (h : EncOk 5 l [] qs) (ar aq : Option Addr) (n m cr cq : Nat) (hn : l.length = n) (hm : qs.length = m) (w : World) (hr : regsAt w (.slice ar n cr) l) (hq : qsAt w (.slice aq m cq) qs) :
    Calls Tryz.prog 18 #[.slice ar n cr, .slice aq m cq] w (Gives w (encI 5 l [] qs)) := by
  have hlen := h.len
  have hreq : ∀ W ah ch, Keeps (fun _ => False) w W → regsAt W (.slice ah n ch) (l.map strip) → Calls Tryz.prog 37 #[.agg #[.int .i64 5, .int .i64 0, .slice ah n ch, .int .i64 m, .slice ar n cr, .slice none 0 0, .slice aq m cq]] W (Gives W (encI 5 l [] qs)) := by
    intro W ah ch hk hs
    subst hn
    subst hm
    exact request_calls 5 l [] qs h ah ar none aq ch cr 0 cq W hs (hr.kept hk) (.inl ⟨rfl, _, _, rfl⟩) (hq.kept hk)
  have HREQ := Lib.hid hreq
  have HPUB := Lib.hid (public_calls ar n cr l hn (by omega) w hr)
  clear hreq h hr hq hn hm hlen
  go_enter Tryz.func18, Tryz.ntmps18
  go_wp2_with fail
  refine (HPUB.out).mono ?_; rintro e w2 ⟨⟨ah, ch, rfl, hs⟩, hk2⟩
  have HS := Lib.hid hs
  clear hs
  go_wp2_with fail
  refine (HREQ.out w2 ah ch hk2 HS.out).mono ?_; rintro e w3 ⟨⟨v, rfl, hv⟩, hk3⟩
  have HV := Lib.hid hv
  obtain ⟨a3, c3, hv3⟩ : ∃ a3 c3, v = .slice a3 (encI 5 l [] qs).length c3 := by
    rcases hv.2 with ⟨h0, a3, c3, rfl⟩ | ⟨b, o, c, rfl, _⟩
    · rw [h0]; exact ⟨_, _, rfl⟩
    · exact ⟨_, _, rfl⟩
  subst hv3
  clear hv
  go_wp2_with fail
  go_ret
  exact ⟨⟨_, rfl, HV.out⟩, knil hk2 hk3⟩
theorem one_pt {w : World} {g : Nat} {p : Int × Int} {t : TypeId} {fr : Nat × Nat} (h : w.heap[g]? = some (.cells #[.int .i64 p.1, .int .i64 p.2] t fr)) : ptsAt w (.slice (some ⟨g, 0, none⟩) 1 1) [p] := by
  refine .inr ⟨g, 0, 1, rfl, (Array.getElem?_eq_some_iff.1 h).1, fun i hi => ?_⟩
  have h0 : i = 0 := by simpa using hi
  subst h0
  exact ⟨cells_at h 0, cells_at h 1⟩
end Go.Proofs.YtmoajobnhiopiaaGreatDoor.sv
set_option linter.unusedSimpArgs false
set_option linter.unusedVariables false
namespace Go.Proofs.YtmoajobnhiopiaaGreatDoor.sv
open Go Go.RowKit Go.Shelf Go.Maps Go.Proofs.YtmoajobnhiopiaaGreatDoor.mk Go.Proofs.YtmoajobnhiopiaaGreatDoor.tp Go.Proofs.YtmoajobnhiopiaaGreatDoor.rg Go.Proofs.YtmoajobnhiopiaaGreatDoor.lm Go.Proofs.YtmoajobnhiopiaaGreatDoor.gm Go.Proofs.YtmoajobnhiopiaaGreatDoor.po
theorem infoP2 : (Tryz.prog.info? 35).map (fun i => (i.zero, i.size, i.bytes)) = some (some (.agg #[.int .i64 0, .int .i64 0]), 2, 16) := by kernel_rfl
theorem pfl_snoc (l : List (Int × Int)) (p : Int × Int) : pfl (l ++ [p]) = pfl l ++ [.int .i64 p.1, .int .i64 p.2] := by
  induction l with
  | nil => rfl
  | cons c L ih =>
    show Value.int .i64 c.1 :: .int .i64 c.2 :: pfl (L ++ [p]) = _
    rw [ih]
    rfl
theorem pt_map (f : Int × Int → Int × Int) {l : List (Int × Int)} {i : Nat} (h : i < l.length) : pt (l.map f) i = f (pt l i) := by
  unfold pt
  rw [List.getD_eq_getElem?_getD, List.getD_eq_getElem?_getD, List.getElem?_map, List.getElem?_eq_getElem h]
  rfl
def mapV (f : Int × Int → Int × Int) (l : List (Int × Int)) (k : Nat) : List Value := pfl ((l.take k).map f)
theorem mapV_step (f : Int × Int → Int × Int) {l : List (Int × Int)} {k : Nat} (h : k < l.length) : mapV f l (k + 1) = mapV f l k ++ [.int .i64 (f (pt l k)).1, .int .i64 (f (pt l k)).2] := by
  have : l.take (k + 1) = l.take k ++ [pt l k] := by
    rw [List.take_add_one, List.getElem?_eq_getElem h]
    unfold pt
    rw [List.getD_eq_getElem?_getD, List.getElem?_eq_getElem h]
    rfl
  unfold mapV
  rw [this, List.map_append, List.map_cons, List.map_nil, pfl_snoc]
def PNew (w : World) (n : Nat) (l : List (Int × Int)) (v : Value) (w' : World) : Prop := ∃ a c, v = .slice a n c ∧ ptsAt w' (.slice a n c) l ∧ ∀ j, (Value.slice a n c).ownBlock = some j → w.heap.size ≤ j ∧ j < w'.heap.size
def mv (d p : Int × Int) : Int × Int := (p.1 + d.1, p.2 + d.2)
def Moved (w : World) (n : Nat) (l : List (Int × Int)) (d : Int × Int) (e : Ending) (w' : World) : Prop :=
  ((∃ v, e = .returned (.tuple #[v, .int .i64 1]) ∧ PNew w n (l.map (mv d)) v w' ∧ Pts (l.map (mv d))) ∨ e = .returned (.tuple #[.slice none 0 0, .int .i64 0])) ∧ Keeps (fun _ => False) w w'
theorem add_ov {x y q : Int} (hx : IsS x) (hy : IsS y) (hq : IntKind.i64.wrap (x + y) = q) (b : Bool) (h1 : decide (q < x) = b) (h2 : decide (y < 0) = b) : q = x + y ∧ IsS q := by
  rw [IntKind.wrap_i64] at hq
  unfold IsS at *
  cases b
  · have h3 := of_decide_eq_false h1
    have h4 := of_decide_eq_false h2
    omega
  · have h3 := of_decide_eq_true h1
    have h4 := of_decide_eq_true h2
    omega
set_option maxRecDepth 100000 in
set_option maxHeartbeats 4000000 in
theorem move_calls (a0 : Option Addr) (n c0 : Nat) (l : List (Int × Int)) (d : Int × Int) (hn : l.length = n) (h1k : n ≤ 1000) (hpl : Pts l) (hd : Pt d) (w : World) (h : ptsAt w (.slice a0 n c0) l) :
    Calls Tryz.prog 17 #[.slice a0 n c0, .agg #[.int .i64 d.1, .int .i64 d.2]] w (Moved w n l d) := by
  obtain ⟨i0, hi, hz0, hz1, hz2⟩ := info_parts infoP2
  have HP := Lib.hid h
  have HN := Lib.hid hn
  have HPL := Lib.hid hpl
  have HD := Lib.hid hd
  clear h hn hpl hd
  go_enter Tryz.func17, Tryz.ntmps17
  go_upto_region 1 with fail
  obtain ⟨w1, hw1⟩ : ∃ w1, w.alloc (.cells #[.int .i64 d.1, .int .i64 d.2] 35) = w1 := ⟨_, rfl⟩
  obtain ⟨g1, hg1⟩ : ∃ g, w.heap.size = g := ⟨_, rfl⟩
  have hg := heap_alloc_new w (.cells #[.int .i64 d.1, .int .i64 d.2] 35)
  have hk1 : Keeps (fun _ => False) w w1 := by rw [← hw1]; exact (Keeps.refl _ w).alloc _
  rw [hw1, hg1] at hg
  rw [hw1]
  try rw [hg1]
  have hB : w.heap.size ≤ g1 := by omega
  have HG := Lib.hid hg
  have hl1 : g1 < w1.heap.size := (Array.getElem?_eq_some_iff.1 hg).1
  have HK1 := Lib.hid hk1
  clear hw1 hg1 hg hk1
  go_wp2_with fail
  go_loopw [6, 8, 9, 12] (fun s _ _ i wr => ∃ k : Nat, k ≤ n ∧ i = .int .i64 k ∧ ∃ a c, s = .slice a k c ∧ RowKit.Hid (wr.ownsRow w1.heap.size 35 2 (.slice a k c) k (mapV (mv d) l k)) ∧ RowKit.Hid (Keeps (fun _ => False) w1 wr) ∧ RowKit.Hid (∀ i, i < k → Pt (mv d (pt l i)))) (fun _ _ _ i _ => n - (intOf i).toNat)
  case atStart => exact ⟨0, Nat.zero_le _, rfl, _, _, rfl, Lib.hid (World.ownsRow_nil w1 _ _ _), Lib.hid (Keeps.refl _ _), Lib.hid (fun i hi => absurd hi (Nat.not_lt_zero _))⟩
  case round =>
    obtain ⟨k, hk, rfl, a, c, rfl, HRW, HW, HOK⟩ := hrel
    by_cases hkl : k < n
    · have hkI : (k : Int) < (n : Int) := by omega
      have hk0 : (0 : Int) ≤ (k : Int) := by omega
      obtain ⟨pb, po, pc, hpv, hpb, hpc⟩ := ptsAt.block (ptsAt.kept HP.out HK1.out) (show k < l.length by rw [HN.out]; exact hkl)
      injection hpv with hp1 hp2 hp3
      subst hp1
      have hpc2 := hpc k (by rw [HN.out]; exact hkl)
      have e0 := (HW.out.cell (p := ⟨pb, po + k * 2, none⟩) hpb (fun h => h)).trans hpc2.1
      have e1 := (HW.out.cell (p := ⟨pb, po + k * 2 + 1, none⟩) hpb (fun h => h)).trans hpc2.2
      have hst := mapV_step (mv d) (l := l) (show k < l.length by rw [HN.out]; exact hkl)
      have hpp := HPL.out.at k
      obtain ⟨p, hp⟩ : ∃ p, pt l k = p := ⟨_, rfl⟩
      rw [hp] at e0 e1 hst hpp
      have HST := Lib.hid hst
      have HPE := Lib.hid hp
      have hsz := HW.out.size
      obtain ⟨q1, hq1⟩ : ∃ q, IntKind.i64.wrap (p.1 + d.1) = q := ⟨_, rfl⟩
      obtain ⟨q2, hq2⟩ : ∃ q, IntKind.i64.wrap (p.2 + d.2) = q := ⟨_, rfl⟩
      have HA1 := Lib.hid (add_ov hpp.1 HD.out.1 hq1)
      have HA2 := Lib.hid (add_ov hpp.2 HD.out.2 hq2)
      clear hp hst hpc hpc2 hp2 hp3 hpp
      go_upto_region 5 with fail
      obtain ⟨wa, hwa⟩ : ∃ wa, wr.alloc (.cells #[.int .i64 p.1, .int .i64 p.2] 35) = wa := ⟨_, rfl⟩
      obtain ⟨g5, hg5⟩ : ∃ g, wr.heap.size = g := ⟨_, rfl⟩
      have hga := heap_alloc_new wr (.cells #[.int .i64 p.1, .int .i64 p.2] 35)
      have hka : Keeps (fun _ => False) wr wa := by rw [← hwa]; exact (Keeps.refl _ wr).alloc _
      have HRA := Lib.hid (rowW_nil HRW.out hka)
      rw [hwa, hg5] at hga
      rw [hwa]
      try rw [hg5]
      have HWA := Lib.hid (knil HW.out hka)
      have hsa : w1.heap.size ≤ wa.heap.size := HWA.out.size
      have hgd := (HWA.out.block _ hl1 (fun h => h)).trans HG.out
      have c0 := cells_at hga 0
      have c1 := cells_at hga 1
      have d0 := cells_at hgd 0
      have d1 := cells_at hgd 1
      have H5 := Lib.hid hga
      have hl5 : g5 < wa.heap.size := (Array.getElem?_eq_some_iff.1 hga).1
      clear hwa hg5 hga e0 e1 hgd
      go_upto_region 6 with fail
      obtain ⟨wb, hwb⟩ : ∃ wb, wa.alloc (.cells #[.int .i64 q1, .int .i64 q2] 35) = wb := ⟨_, rfl⟩
      obtain ⟨g9, hg9⟩ : ∃ g, wa.heap.size = g := ⟨_, rfl⟩
      have hgb := heap_alloc_new wa (.cells #[.int .i64 q1, .int .i64 q2] 35)
      have hkb : Keeps (fun _ => False) wa wb := by rw [← hwb]; exact (Keeps.refl _ wa).alloc _
      have HRB := Lib.hid (rowW_nil HRA.out hkb)
      rw [hwb, hg9] at hgb
      rw [hwb]
      try rw [hg9]
      have HWB := Lib.hid (knil HWA.out hkb)
      have hsb : w1.heap.size ≤ wb.heap.size := HWB.out.size
      have hgd := (HWB.out.block _ hl1 (fun h => h)).trans HG.out
      have hga := (hkb.block _ hl5 (fun h => h)).trans H5.out
      have c0 := cells_at hga 0
      have c1 := cells_at hga 1
      have d0 := cells_at hgd 0
      have d1 := cells_at hgd 1
      have r0 := cells_at hgb 0
      have r1 := cells_at hgb 1
      clear hwb hg9 hga hgd hgb hq1 hq2
      obtain ⟨b1, hb1⟩ : ∃ b, decide (q1 < p.1) = b := ⟨_, rfl⟩
      obtain ⟨b2, hb2⟩ : ∃ b, decide (d.1 < 0) = b := ⟨_, rfl⟩
      obtain ⟨b3, hb3⟩ : ∃ b, decide (q2 < p.2) = b := ⟨_, rfl⟩
      obtain ⟨b4, hb4⟩ : ∃ b, decide (d.2 < 0) = b := ⟨_, rfl⟩
      by_cases hX : b1 = b2
      · subst hX
        by_cases hY : b3 = b4
        · subst hY
          obtain ⟨hs1, hp1⟩ := HA1.out b1 hb1 hb2
          obtain ⟨hs2, hp2⟩ := HA2.out b3 hb3 hb4
          have HQ := Lib.hid (show q1 = (mv d p).1 ∧ q2 = (mv d p).2 ∧ Pt (mv d p) from ⟨hs1, hs2, by unfold mv; rw [← hs1, ← hs2]; exact ⟨hp1, hp2⟩⟩)
          clear hs1 hs2 hp1 hp2
          go_upto_region 8 with fail
          clear c0 c1 d0 d1 hb1 hb2 hb3 hb4
          go_wp2_with (at_builtin; refine wpList_append_at rfl _ _ 38 rfl w1.heap.size 35 i0 (.agg #[.int .i64 0, .int .i64 0]) 2 16 Tryz.underlying38 hi hz0 hz1 hz2 rfl (by decide) _ _ _ rfl (HRB.out.alloc _) (some ⟨wb.heap.size, 0, none⟩) 1 1 [.int .i64 q1, .int .i64 q2] rfl (fun h => by cases h) rfl ?c1 ?c2 ?c3 ?c4 ?c5 ?_)
          case c1 =>
            intro ad had j u hj
            injection had with had
            subst had
            have hadd : (⟨wb.heap.size, 0, none⟩ : Addr).add j = ⟨wb.heap.size, 0 + j, none⟩ := by unfold Addr.add; split <;> simp_all
            rw [hadd, cell_of_row _ _ _ _ _ _ (heap_alloc_new wb _), Nat.zero_add]
            simpa using hj
          case c2 => first | (intro u hu; simp at hu; rcases hu with rfl | rfl <;> rfl) | rfl
          case c3 => unfold maxLen; omega
          case c4 => omega
          case c5 => first | omega | (simp; omega)
          intro v5 w5 hown5 hgrow5 hat5
          obtain ⟨a5, c5', rfl⟩ := shape_own hown5
          have HW5 := Lib.hid ((HWB.out.alloc _).grown hgrow5 (fun g hg hlt => by have := HRB.out.lt g hg; omega) : Keeps (fun _ => False) w1 w5)
          have HROW5 := Lib.hid (show w5.ownsRow w1.heap.size 35 2 (.slice a5 (k + 1) c5') (k + 1) (mapV (mv d) l (k + 1)) by rw [HST.out, ← HQ.out.1, ← HQ.out.2.1]; exact hown5)
          clear hown5 hgrow5 hat5 HRW HW r0 r1
          go_wp2_with fail
          go_roundw
          case rel => exact ⟨k + 1, by omega, by go_num, _, _, rfl, HROW5, HW5, Lib.hid (fun i hi => by
            by_cases hik : i < k
            · exact HOK.out i hik
            · obtain rfl : i = k := by omega
              rw [HPE.out]
              exact HQ.out.2.2)⟩
          case measure => simp [intOf]; omega
        · cases b3 <;> cases b4 <;> first | exact absurd rfl hY | skip
          all_goals
            go_wp2_with fail
            go_ret2
            exact ⟨.inr rfl, knil HK1.out HWB.out⟩
      · cases b1 <;> cases b2 <;> first | exact absurd rfl hX | skip
        all_goals
          go_wp2_with fail
          go_ret2
          exact ⟨.inr rfl, knil HK1.out HWB.out⟩
    · obtain rfl : n = k := by omega
      go_wp2_with fail
      go_ret2
      have hrow := HRW.out
      unfold mapV at hrow
      rw [List.take_of_length_le (by rw [HN.out]; exact Nat.le_refl _)] at hrow
      refine ⟨.inl ⟨_, rfl, ⟨_, _, rfl, ptsAt_row hrow (by rw [List.length_map, HN.out]), fun j hj => ⟨?_, (hrow.lt j hj).2⟩⟩, ?_⟩, knil HK1.out HW.out⟩
      · have := (hrow.lt j hj).1
        have := HK1.out.size
        omega
      · intro x hx
        obtain ⟨y, hy, rfl⟩ := List.mem_map.1 hx
        obtain ⟨i, hi, hy⟩ := List.getElem_of_mem hy
        have h2 := HOK.out i (by rw [← HN.out]; exact hi)
        unfold pt at h2
        rw [List.getD_eq_getElem?_getD, List.getElem?_eq_getElem hi] at h2
        rw [← hy]
        exact h2
end Go.Proofs.YtmoajobnhiopiaaGreatDoor.sv
set_option linter.unusedSimpArgs false
set_option linter.unusedVariables false
namespace Go.Proofs.YtmoajobnhiopiaaGreatDoor.sv
open Go Go.RowKit Go.Shelf Go.Maps Go.Proofs.YtmoajobnhiopiaaGreatDoor.mk Go.Proofs.YtmoajobnhiopiaaGreatDoor.tp Go.Proofs.YtmoajobnhiopiaaGreatDoor.rg Go.Proofs.YtmoajobnhiopiaaGreatDoor.lm Go.Proofs.YtmoajobnhiopiaaGreatDoor.gm Go.Proofs.YtmoajobnhiopiaaGreatDoor.po
def onR (f : Int × Int → Int × Int) (r : Reg) : Reg := (r.1, r.2.1, r.2.2.map f)
def onQ (f : Int × Int → Int × Int) (q : Qry) : Qry := (f q.1, q.2)
structure Same (f : Int × Int → Int × Int) (s : Int) : Prop where
  sgn : s = 1 ∨ s = -1
  dets : ∀ a b c, sgnI (det (f a) (f b) (f c)) = s * sgnI (det a b c)
  incs : ∀ a b c d, sgnI (inc (f a) (f b) (f c) (f d)) = s * sgnI (inc a b c d)
theorem same_mv (d : Int × Int) : Same (mv d) 1 := ⟨.inl rfl, fun a b c => by unfold mv; rw [det_move]; omega, fun a b c e => by unfold mv; rw [inc_move]; omega⟩
section
variable {f : Int × Int → Int × Int} {s : Int}
theorem Same.one (h : Same f s) (x y : Int) : (s * x) * (s * y) = x * y := by
  rcases h.sgn with rfl | rfl <;> grind
theorem Same.eq (h : Same f s) (x y : Int) : (s * x == s * y) = (x == y) := by
  rcases h.sgn with rfl | rfl
  · rw [Int.one_mul, Int.one_mul]
  · rw [Bool.eq_iff_iff]
    simp only [beq_iff_eq]
    omega
theorem Same.zero (h : Same f s) (x : Int) : (s * x == 0) = (x == 0) := by
  have := h.eq x 0
  rwa [Int.mul_zero] at this
theorem Same.poly (h : Same f s) {l : List (Int × Int)} (hl : 3 ≤ l.length) : polyS (l.map f) = s * polyS l := by
  unfold polyS
  rw [pt_map f (show 0 < l.length by omega), pt_map f (show 1 < l.length by omega), pt_map f (show 2 < l.length by omega), h.dets]
theorem Same.edge (h : Same f s) {l : List (Int × Int)} {i : Nat} (hi : i < l.length) (p : Int × Int) : sgnI (edgeD (l.map f) i (f p)) = s * sgnI (edgeD l i p) := by
  unfold edgeD
  rw [List.length_map, pt_map f hi, pt_map f (Nat.mod_lt _ (by omega)), h.dets]
theorem Same.sides (h : Same f s) {l : List (Int × Int)} (hl : 3 ≤ l.length) (p : Int × Int) : sides (l.map f) (l.map f).length (f p) = sides l l.length p := by
  unfold gm.sides
  rw [List.length_map]
  apply List.map_congr_left
  intro i hi
  rw [h.poly hl, h.edge (List.mem_range.1 hi), h.one]
theorem Same.val (h : Same f s) {l : List (Int × Int)} (hl : 3 ≤ l.length) : valB (l.map f) (l.map f).length = valB l l.length := by
  unfold valB
  rw [List.length_map, h.poly hl, h.zero]
  congr 1
  have e : ∀ i ∈ List.range l.length, rowB (l.map f) i l.length = rowB l i l.length := by
    intro i hi
    unfold rowB
    have e2 : ∀ j ∈ List.range l.length, okI (l.map f) i j = okI l i j := by
      intro j hj
      unfold okI
      rw [List.length_map, pt_map f (List.mem_range.1 hj), h.edge (List.mem_range.1 hi), h.poly hl, h.eq]
    rw [Bool.eq_iff_iff, List.all_eq_true, List.all_eq_true]
    exact ⟨fun k j hj => by rw [← e2 j hj]; exact k j hj, fun k j hj => by rw [e2 j hj]; exact k j hj⟩
  rw [Bool.eq_iff_iff, List.all_eq_true, List.all_eq_true]
  exact ⟨fun k i hi => by rw [← e i hi]; exact k i hi, fun k i hi => by rw [e i hi]; exact k i hi⟩
def Three (r : Reg) : Prop := 3 ≤ r.2.2.length
theorem Same.valR (h : Same f s) {r : Reg} (hr : Three r) : sv.valR (onR f r) = sv.valR r := by
  unfold sv.valR onR
  simp only
  rw [h.poly hr, h.zero, h.val hr]
theorem Same.locR (h : Same f s) {r : Reg} (hr : Three r) (p : Int × Int) : sv.locR (onR f r) (f p) = sv.locR r p := by
  unfold Three at hr
  unfold sv.locR onR
  simp only
  rw [h.poly hr, h.sides hr, pt_map f (show 0 < r.2.2.length by omega), pt_map f (show 1 < r.2.2.length by omega), pt_map f (show 2 < r.2.2.length by omega), h.incs, h.one]
theorem any_map_eq {α : Type} (g : α → α) {p q : α → Bool} : ∀ {l : List α}, (∀ x ∈ l, p (g x) = q x) → (l.map g).any p = l.any q := by
  intro l
  induction l with
  | nil => intro _; rfl
  | cons x l ih =>
    intro h
    rw [List.map_cons, List.any_cons, List.any_cons, h x List.mem_cons_self, ih (fun y hy => h y (List.mem_cons_of_mem _ hy))]
theorem all_map_eq {α : Type} (g : α → α) {p q : α → Bool} : ∀ {l : List α}, (∀ x ∈ l, p (g x) = q x) → (l.map g).all p = l.all q := by
  intro l
  induction l with
  | nil => intro _; rfl
  | cons x l ih =>
    intro h
    rw [List.map_cons, List.all_cons, List.all_cons, h x List.mem_cons_self, ih (fun y hy => h y (List.mem_cons_of_mem _ hy))]
theorem Same.valF (h : Same f s) {l : List Reg} (hl : ∀ r ∈ l, Three r) : sv.valF (l.map (onR f)) = sv.valF l := all_map_eq _ (fun r hr => h.valR (hl r hr))
theorem Same.memF (h : Same f s) {l : List Reg} (hl : ∀ r ∈ l, Three r) (p : Int × Int) : sv.memF (l.map (onR f)) (f p) = sv.memF l p := by
  unfold sv.memF inA inD
  rw [any_map_eq (onR f) (q := fun r => !r.1 && decide (0 ≤ sv.locR r p)) (fun r hr => by rw [h.locR (hl r hr)]; rfl), any_map_eq (onR f) (q := fun r => r.1 && decide (0 ≤ sv.locR r p)) (fun r hr => by rw [h.locR (hl r hr)]; rfl)]
theorem Same.fenI (h : Same f s) {l : List Reg} (hl : ∀ r ∈ l, Three r) (p : Int × Int) : sv.fenI (l.map (onR f)) (f p) = sv.fenI l p := by
  unfold sv.fenI
  rw [h.valF hl, h.memF hl]
theorem Same.recs (h : Same f s) {l : List Reg} (hl : ∀ r ∈ l, Three r) (qs : List Qry) : recsC (sv.valF (l.map (onR f))) (l.map (onR f)) (qs.map (onQ f)) = recsC (sv.valF l) l qs := by
  unfold recsC
  rw [List.map_map, h.valF hl]
  apply List.map_congr_left
  intro q _
  show recC _ _ (onQ f q) = _
  unfold recC onQ
  simp only
  rw [h.memF hl]
end
theorem three_of {l : List Reg} (h : SizedR l) (hw : l.any wrongR = false) : ∀ r ∈ l, Three r := by
  intro r hr
  have h1 := List.any_eq_false.1 hw r hr
  have h3 := h r hr
  unfold wrongR at h1
  have h2 : sizeR r.2.1 ≠ 0 := by simpa using h1
  unfold sizeR sizeC at h2 h3
  unfold Three
  split at h2
  · rename_i h0; rw [if_pos h0] at h3; omega
  · rename_i h0
    rw [if_neg h0] at h3
    split at h2
    · rename_i h4; rw [if_pos h4] at h3; omega
    · exact absurd rfl h2
theorem on_wrong (f : Int × Int → Int × Int) (l : List Reg) : (l.map (onR f)).any wrongR = l.any wrongR := any_map_eq _ (fun r _ => rfl)
theorem EncOk.on {op : Int} {l : List Reg} {ps : List (Int × Int)} {qs : List Qry} (h : EncOk op l ps qs) (f : Int × Int → Int × Int) (h1 : RegsOk (l.map (onR f))) (h2 : Pts (ps.map f)) (h3 : QsOk (qs.map (onQ f))) : EncOk op (l.map (onR f)) (ps.map f) (qs.map (onQ f)) := by
  refine ⟨?_, by rw [List.length_map]; exact h.len, ?_, by rw [on_wrong]; exact h.right, h1, h2, h3⟩
  · rcases h.op with ⟨k1, k2, rfl⟩ | ⟨k1, rfl, k2, k3⟩
    · exact .inl ⟨k1, by rw [List.length_map]; exact k2, rfl⟩
    · exact .inr ⟨k1, rfl, by rw [List.length_map]; exact ⟨k2, k3⟩⟩
  · intro r hr
    obtain ⟨x, hx, rfl⟩ := List.mem_map.1 hr
    show ((x.2.2.map f).length : Int) = sizeR x.2.1
    rw [List.length_map]
    exact h.size x hx
theorem EncOk.three {op : Int} {l : List Reg} {ps : List (Int × Int)} {qs : List Qry} (h : EncOk op l ps qs) : ∀ r ∈ l, Three r := three_of h.size h.right
theorem serv_same {op : Int} {l : List Reg} {ps : List (Int × Int)} {qs : List Qry} {f : Int × Int → Int × Int} {s : Int} (hs : Same f s) (h : EncOk op l ps qs) (h1 : RegsOk (l.map (onR f))) (h2 : Pts (ps.map f)) (h3 : QsOk (qs.map (onQ f))) :
    servI (encI op (l.map (onR f)) (ps.map f) (qs.map (onQ f))) = servI (encI op l ps qs) := by
  rw [enc_serv (h.on f h1 h2 h3), enc_serv h]
  rcases h.op with ⟨rfl, k2, rfl⟩ | ⟨rfl, rfl, k2, k3⟩
  · have e : pt (ps.map f) 0 = f (pt ps 0) := pt_map f (by omega)
    simp only [show ((4 : Int) = 5) = False from by decide, if_false]
    rw [e, hs.fenI h.three]
  · simp only [if_true]
    unfold batX batN batR
    rw [hs.recs h.three, hs.valF h.three]
theorem chk_ok {l : List Reg} (h : ChkOk l) : SizedR l ∧ l.any wrongR = false := by
  constructor
  · intro r hr
    obtain ⟨i, hi, rfl⟩ := List.getElem_of_mem hr
    have := (h.2 i hi).1
    unfold rg at this
    rwa [List.getD_eq_getElem?_getD, List.getElem?_eq_getElem hi] at this
  · rw [List.any_eq_false]
    intro r hr
    obtain ⟨i, hi, rfl⟩ := List.getElem_of_mem hr
    have := (h.2 i hi).2
    unfold rg at this
    rw [List.getD_eq_getElem?_getD, List.getElem?_eq_getElem hi] at this
    unfold wrongR
    simpa using this
theorem enc_5 {l : List Reg} (h : ChkOk l) (hr : RegsOk l) {qs : List Qry} (hq : QsOk qs) (h1 : 1 ≤ qs.length) (h2 : qs.length ≤ 4096) : EncOk 5 l [] qs :=
  ⟨.inr ⟨rfl, rfl, h1, h2⟩, h.1, (chk_ok h).1, (chk_ok h).2, hr, (fun x hx => by cases hx), hq⟩
end Go.Proofs.YtmoajobnhiopiaaGreatDoor.sv
set_option linter.unusedSimpArgs false
set_option linter.unusedVariables false
namespace Go.Proofs.YtmoajobnhiopiaaGreatDoor.sv
open Go Go.RowKit Go.Shelf Go.Maps Go.Proofs.YtmoajobnhiopiaaGreatDoor.mk Go.Proofs.YtmoajobnhiopiaaGreatDoor.tp Go.Proofs.YtmoajobnhiopiaaGreatDoor.rg Go.Proofs.YtmoajobnhiopiaaGreatDoor.lm Go.Proofs.YtmoajobnhiopiaaGreatDoor.gm Go.Proofs.YtmoajobnhiopiaaGreatDoor.po
theorem servI_nil : servI [] = [4] := by kernel_rfl
theorem servI_one : servI (1 :: bsA) = [0, 2] := by kernel_rfl
theorem by_nil {w : World} : byAt w (.slice none 0 0) [] := ⟨(fun x hx => by cases hx), .inl ⟨rfl, _, _, rfl⟩⟩
theorem by_bsA {w : World} {b : Nat} (h0 : w.cell? ⟨b, 0, none⟩ = some (.int .u8 1)) (h : BytesAt w b 1 bsA) : byAt w (.slice (some ⟨b, 0, none⟩) 49 49) (1 :: bsA) := by
  refine ⟨fun x hx => ?_, .inr ⟨b, 0, 49, rfl, by decide, h.1, fun i hi => ?_⟩⟩
  · rcases List.mem_cons.1 hx with rfl | hx
    · unfold IsB; decide
    · exact h.2.1 x hx
  · cases i with
    | zero => exact h0
    | succ i =>
      have h1 := h.2.2 i (by simpa using hi)
      rw [show 0 + (i + 1) = 1 + i by omega]
      exact h1
set_option maxRecDepth 100000 in
set_option maxHeartbeats 4000000 in
theorem servesG_calls (w : World) (hG : Gl w) : Calls Tryz.prog 9 #[] w fun e w' => e = .returned (.bool true) ∧ Keeps (fun _ => False) w w' := by
  have HG := Lib.hid hG
  clear hG
  go_enter Tryz.func9, Tryz.ntmps9
  have hmk := bsA_made
  go_upto_region 2 with fail
  have hg := heap_alloc_new w (.cells (Array.replicate 49 (Value.int .u8 0)) 5)
  obtain ⟨w1, hw1⟩ : ∃ w1, w.alloc (.cells (Array.replicate 49 (Value.int .u8 0)) 5) = w1 := ⟨_, rfl⟩
  have hk1 : Keeps (fun _ => False) w w1 := by rw [← hw1]; exact (Keeps.refl _ w).alloc _
  rw [hw1] at hg ⊢
  clear hw1 hmk
  have HG1 := Lib.hid hg
  have c0 : w1.cell? ⟨w.heap.size, 0, none⟩ = some (.int .u8 0) := cells_at hg 0
  have c17 : w1.cell? ⟨w.heap.size, 17, none⟩ = some (.int .u8 0) := cells_at hg 17
  have c41 : w1.cell? ⟨w.heap.size, 41, none⟩ = some (.int .u8 0) := cells_at hg 41
  have f0 := two_frozen hg 0
  have f17 := two_frozen hg 17
  have f41 := two_frozen hg 41
  clear hg
  go_upto_region 3 with fail
  obtain ⟨w2, hw2⟩ : ∃ w2, ((w1.setCell ⟨w.heap.size, 0, none⟩ (.int .u8 1)).setCell ⟨w.heap.size, 17, none⟩ (.int .u8 1)).setCell ⟨w.heap.size, 41, none⟩ (.int .u8 1) = w2 := ⟨_, rfl⟩
  have hn : ∀ i, (⟨w.heap.size, i, none⟩ : Addr).block < w.heap.size → False := fun i h => absurd h (Nat.lt_irrefl _)
  have hk2 : Keeps (fun _ => False) w w2 := by rw [← hw2]; exact ((hk1.setCell ⟨w.heap.size, 0, none⟩ (hn 0) _).setCell ⟨w.heap.size, 17, none⟩ (hn 17) _).setCell ⟨w.heap.size, 41, none⟩ (hn 41) _
  have hA := bsA_at (w := w2) (b := w.heap.size) (by rw [← hw2]; exact cells_put (cells_put (cells_put HG1.out 0 _) 17 _) 41 _)
  have HA := Lib.hid hA
  rw [hw2]
  clear hA hw2 c0 c17 c41 f0 f17 f41
  go_wp2_with fail
  have hsn := fun W (hk : Keeps (fun _ => False) w W) => serve_calls (.slice none 0 0) [] W (HG.out.kept hk) by_nil
  rw [servI_nil] at hsn
  have HSN := Lib.hid hsn
  clear hsn
  refine (HSN.out w2 hk2).mono ?_; rintro e w3 ⟨⟨v, rfl, hv⟩, hk3⟩
  obtain ⟨z0, z1, rfl⟩ : ∃ a c, v = .slice a 1 c := by
    rcases hv.2 with ⟨h, _⟩ | ⟨b, o, c, h, _⟩ <;> first | exact ⟨_, _, h⟩ | cases h
  clear hv
  have hk23 := knil hk2 hk3
  go_wp2_with fail
  have hs1 := serve_calls _ (1 :: bsA) w3 (HG.out.kept hk23) ((by_bsA HA.out.1 HA.out.2).kept hk3)
  rw [servI_one] at hs1
  refine hs1.mono ?_; rintro e w4 ⟨⟨v, rfl, hv⟩, hk4⟩
  obtain ⟨z0, z1, rfl⟩ : ∃ a c, v = .slice a 2 c := by
    rcases hv.2 with ⟨h, _⟩ | ⟨b, o, c, h, _⟩ <;> first | exact ⟨_, _, h⟩ | cases h
  have hk24 := knil hk23 hk4
  have HG4 := Lib.hid hv
  clear hv hs1
  go_wp2_with fail
  have hk5 : Keeps (fun _ => False) w4 (w4.alloc (.cells #[.int .u8 0, .int .u8 2] 5)) := (Keeps.refl _ w4).alloc _
  have hx := (HG4.out.kept hk5).bytes
  have hy := bytesAt_cells (bs := [0, 2]) (heap_alloc_new w4 (.cells #[.int .u8 0, .int .u8 2] 5)) (by unfold IsB; decide) rfl 2
  refine (equal_calls _ _ [0, 2] [0, 2] _ hx hy).mono ?_; rintro e w5 ⟨rfl, hw5⟩
  have hk25 : Keeps (fun _ => False) w w5 := by rw [hw5]; exact knil hk24 hk5
  clear hw5 hx hy
  rw [show decide (([0, 2] : List Int) = [0, 2]) = true from rfl]
  go_wp2_with fail
  refine (HSN.out w5 hk25).mono ?_; rintro e w6 ⟨⟨v, rfl, hv⟩, hk6⟩
  obtain ⟨z0, z1, rfl⟩ : ∃ a c, v = .slice a 1 c := by
    rcases hv.2 with ⟨h, _⟩ | ⟨b, o, c, h, _⟩ <;> first | exact ⟨_, _, h⟩ | cases h
  have hk26 := knil hk25 hk6
  have HG6 := Lib.hid hv
  clear hv
  go_wp2_with fail
  have hk7 : Keeps (fun _ => False) w6 (w6.alloc (.cells #[.int .u8 4] 5)) := (Keeps.refl _ w6).alloc _
  have hx := (HG6.out.kept hk7).bytes
  have hy := bytesAt_cells (bs := [4]) (heap_alloc_new w6 (.cells #[.int .u8 4] 5)) (by unfold IsB; decide) rfl 1
  refine (equal_calls _ _ [4] [4] _ hx hy).mono ?_; rintro e w8 ⟨rfl, hw8⟩
  have hk28 : Keeps (fun _ => False) w w8 := by rw [hw8]; exact knil hk26 hk7
  clear hw8 hx hy
  rw [show decide (([4] : List Int) = [4]) = true from rfl]
  go_wp2_with fail
  go_ret
  exact ⟨rfl, hk28⟩
end Go.Proofs.YtmoajobnhiopiaaGreatDoor.sv
set_option linter.unusedSimpArgs false
set_option linter.unusedVariables false
namespace Go.Proofs.YtmoajobnhiopiaaGreatDoor.sv
open Go Go.RowKit Go.Shelf Go.Maps Go.Proofs.YtmoajobnhiopiaaGreatDoor.mk Go.Proofs.YtmoajobnhiopiaaGreatDoor.tp Go.Proofs.YtmoajobnhiopiaaGreatDoor.rg Go.Proofs.YtmoajobnhiopiaaGreatDoor.lm Go.Proofs.YtmoajobnhiopiaaGreatDoor.gm Go.Proofs.YtmoajobnhiopiaaGreatDoor.po
def onL (f : Int × Int → Int × Int) (l : List Reg) (k : Nat) : List Reg := (l.take k).map (onR f)
theorem onL_step (f : Int × Int → Int × Int) {l : List Reg} {k : Nat} (h : k < l.length) : onL f l (k + 1) = onL f l k ++ [onR f (rg l k)] := by
  unfold onL
  rw [rg_take h, List.map_append, List.map_cons, List.map_nil]
end Go.Proofs.YtmoajobnhiopiaaGreatDoor.sv
set_option linter.unusedSimpArgs false
set_option linter.unusedVariables false
namespace Go.Proofs.YtmoajobnhiopiaaGreatDoor.sv
open Go Go.RowKit Go.Shelf Go.Maps Go.Proofs.YtmoajobnhiopiaaGreatDoor.mk Go.Proofs.YtmoajobnhiopiaaGreatDoor.tp Go.Proofs.YtmoajobnhiopiaaGreatDoor.rg Go.Proofs.YtmoajobnhiopiaaGreatDoor.lm Go.Proofs.YtmoajobnhiopiaaGreatDoor.gm Go.Proofs.YtmoajobnhiopiaaGreatDoor.po
open List renaming getElem_toArray → ga, getElem_cons_zero → gb, getElem_cons_succ → gc, setIfInBounds_toArray → gd, set_cons_zero → ge, set_cons_succ → gf
def qmV (f : Int × Int → Int × Int) (l : List Qry) (k : Nat) : List Value := qfl ((l.take k).map (onQ f))
theorem qfl_snoc (l : List Qry) (q : Qry) : qfl (l ++ [q]) = qfl l ++ [.int .i64 q.1.1, .int .i64 q.1.2, .int .u64 q.2] := by
  induction l with
  | nil => rfl
  | cons c L ih =>
    show Value.int .i64 c.1.1 :: .int .i64 c.1.2 :: .int .u64 c.2 :: qfl (L ++ [q]) = _
    rw [ih]
    rfl
theorem qmV_step (f : Int × Int → Int × Int) {l : List Qry} {k : Nat} (h : k < l.length) : qmV f l (k + 1) = qmV f l k ++ [.int .i64 (f (qy l k).1).1, .int .i64 (f (qy l k).1).2, .int .u64 (qy l k).2] := by
  have : l.take (k + 1) = l.take k ++ [qy l k] := by
    rw [List.take_add_one, List.getElem?_eq_getElem h]
    unfold qy
    rw [List.getD_eq_getElem?_getD, List.getElem?_eq_getElem h]
    rfl
  unfold qmV
  rw [this, List.map_append, List.map_cons, List.map_nil, qfl_snoc]
  rfl
set_option maxRecDepth 100000 in
set_option maxHeartbeats 8000000 in
theorem translates_calls (l : List Reg) (qs : List Qry) (d : Int × Int) (hd : Pt d) (ar aq : Option Addr) (n cr m0 cq : Nat) (hn : l.length = n) (hm0 : qs.length = m0) (hro : RegsOk l) (hqo : QsOk qs) (w : World) (hG : Gl w) (hr : regsAt w (.slice ar n cr) l) (hq : qsAt w (.slice aq m0 cq) qs) :
    Calls Tryz.prog 4 #[.slice ar n cr, .slice aq m0 cq, .agg #[.int .i64 d.1, .int .i64 d.2]] w fun e w' => e = .returned (.bool true) ∧ Keeps (fun _ => False) w w' := by
  obtain ⟨i0, hi, hz0, hz1, hz2⟩ := info_parts infoR
  obtain ⟨i1, hi1, hy0, hy1, hy2⟩ := info_parts infoQ
  have HG := Lib.hid hG
  have HN := Lib.hid hn
  have HNQ := Lib.hid hm0
  have HRO := Lib.hid hro
  have HQO := Lib.hid hqo
  have HR := Lib.hid hr
  have HQ := Lib.hid hq
  have HD := Lib.hid hd
  clear hG hn hm0 hro hqo hr hq hd
  go_enter Tryz.func4, Tryz.ntmps4
  go_upto_region 1 with fail
  obtain ⟨w1, hw1⟩ : ∃ w1, w.alloc (.cells #[.int .i64 d.1, .int .i64 d.2] 35) = w1 := ⟨_, rfl⟩
  obtain ⟨g1, hg1⟩ : ∃ g, w.heap.size = g := ⟨_, rfl⟩
  have hg := heap_alloc_new w (.cells #[.int .i64 d.1, .int .i64 d.2] 35)
  have hk1 : Keeps (fun _ => False) w w1 := by rw [← hw1]; exact (Keeps.refl _ w).alloc _
  rw [hw1, hg1] at hg
  rw [hw1]
  try rw [hg1]
  have hl1 : g1 < w1.heap.size := (Array.getElem?_eq_some_iff.1 hg).1
  have HGB := Lib.hid hg
  have HSK := Lib.hid (skip20_calls _ l aq m0 cq w1 (HR.out.kept hk1))
  clear hw1 hg1 hg
  go_wp2_with fail
  refine HSK.out.mono ?_; rintro e w3 ⟨⟨r3, rfl, hr3⟩, hk3⟩
  have hkw3 := knil hk1 hk3
  rcases hr3 with ⟨rfl, hq100⟩ | rfl
  rotate_left
  · go_wp2_with fail
    refine (servesG_calls w3 (HG.out.kept hkw3)).mono ?_; rintro e w9 ⟨rfl, hk9⟩
    go_wp2_with fail
    go_ret
    exact ⟨rfl, knil hkw3 hk9⟩
  have HCK := Lib.hid (rcheck_calls _ l w3 (HR.out.kept hkw3))
  go_wp2_with fail
  refine HCK.out.mono ?_; rintro e w3' ⟨⟨r, rfl, hr4⟩, hw⟩
  rw [hw]
  clear hw
  by_cases hr0 : r = 0
  rotate_left
  · have hrb : (r != 0) = true := by simp [hr0]
    go_wp2_with fail
    refine (servesG_calls w3 (HG.out.kept hkw3)).mono ?_; rintro e w9 ⟨rfl, hk9⟩
    go_wp2_with fail
    go_ret
    exact ⟨rfl, knil hkw3 hk9⟩
  subst hr0
  have HCH := Lib.hid (hr4 rfl)
  clear hr4
  by_cases hm0 : m0 = 0
  · subst hm0
    go_wp2_with fail
    refine (servesG_calls w3 (HG.out.kept hkw3)).mono ?_; rintro e w9 ⟨rfl, hk9⟩
    go_wp2_with fail
    go_ret
    exact ⟨rfl, knil hkw3 hk9⟩
  have hmb : ((m0 : Int) == 0) = false := by simp [hm0]
  have hlen := HCH.out.1
  rw [HN.out] at hlen
  have HK3 := Lib.hid hkw3
  have HKX := Lib.hid hk3
  go_wp2_with fail
  go_loopw [7, 9, 10, 11, 34] (fun s _ _ _ i wr => ∃ k : Nat, k ≤ n ∧ i = .int .i64 k ∧ ∃ ax cs, s = .slice ax k cs ∧ RowKit.Hid (RowsAt wr w3.heap.size (.slice ax k cs) (onL (mv d) l k) k) ∧ RowKit.Hid (Keeps (fun _ => False) w3 wr) ∧ RowKit.Hid (∀ i, i < k → Pts ((rg l i).2.2.map (mv d)))) (fun _ _ _ _ i _ => n - (intOf i).toNat)
  case atStart => exact ⟨0, Nat.zero_le _, rfl, _, _, rfl, Lib.hid (RowsAt.nil _ _), Lib.hid (Keeps.refl _ _), Lib.hid (fun i hi => absurd hi (Nat.not_lt_zero _))⟩
  case round =>
    obtain ⟨k, hk, rfl, ax, cs, rfl, HRW, HW, HMP⟩ := hrel
    have hkwr := knil HK3.out HW.out
    by_cases hkl : k < n
    · have hkI : (k : Int) < (n : Int) := by omega
      have hk0 : (0 : Int) ≤ (k : Int) := by omega
      obtain ⟨br, orr, hbr, har, hr1⟩ : ∃ br orr, br < w.heap.size ∧ ar = some ⟨br, orr, none⟩ ∧ regC w br (orr + k * 3) (rg l k) := by
        rcases HR.out with ⟨h0, _⟩ | ⟨b, o, c, he, hb, hc⟩
        · have := HN.out; rw [h0] at this; simp at this; omega
        · injection he with h1 h2 h3
          exact ⟨b, o, hb, h1, hc k (by rw [HN.out]; exact hkl)⟩
      subst har
      obtain ⟨e0, e1, an, ln, cn, e2, hpn⟩ := hr1.kept hbr hkwr
      have hst := onL_step (mv d) (l := l) (show k < l.length by rw [HN.out]; exact hkl)
      have hln : (rg l k).2.2.length ≤ 64 := by
        have h1 := (HCH.out.2 k (by rw [HN.out]; exact hkl)).1
        have h2 := sizeR_bound (rg l k).2.1
        omega
      obtain ⟨dn, hdn⟩ : ∃ x, (rg l k).1 = x := ⟨_, rfl⟩
      obtain ⟨m, hm⟩ : ∃ x, (rg l k).2.1 = x := ⟨_, rfl⟩
      obtain ⟨pl, hpl⟩ : ∃ x, (rg l k).2.2 = x := ⟨_, rfl⟩
      rw [hdn] at e0
      rw [hm] at e1
      rw [hpl] at hpn hln
      rw [show onR (mv d) (rg l k) = (dn, m, pl.map (mv d)) by unfold onR; rw [hdn, hm, hpl]] at hst
      have hlp : pl.length = ln := by
        obtain ⟨_, _, hsh⟩ := ptsAt.shape hpn
        injection hsh with _ h2 _
        exact h2.symm
      rw [hlp] at hln
      have HST := Lib.hid hst
      have HPN := Lib.hid hpn
      have HLP := Lib.hid hlp
      have HPE := Lib.hid hpl
      clear hdn hm hpl hst hpn hlp hr1
      go_upto_region 7 with fail
      obtain ⟨wa, hwa⟩ : ∃ wa, wr.alloc (.cells #[.bool dn, .int .i64 m, .slice an ln cn] 40) = wa := ⟨_, rfl⟩
      obtain ⟨g8, hg8⟩ : ∃ g, wr.heap.size = g := ⟨_, rfl⟩
      have hga := heap_alloc_new wr (.cells #[.bool dn, .int .i64 m, .slice an ln cn] 40)
      have hka : Keeps (fun _ => False) wr wa := by rw [← hwa]; exact (Keeps.refl _ wr).alloc _
      rw [hwa, hg8] at hga
      rw [hwa]
      try rw [hg8]
      have hl8 : g8 < wa.heap.size := (Array.getElem?_eq_some_iff.1 hga).1
      have HGA := Lib.hid hga
      have HG8 := Lib.hid hg8
      have HKA := Lib.hid hka
      have c2 := cells_at hga 2
      have hpp : Pts pl := by rw [← HPE.out]; exact HRO.out _ (rg_mem (by rw [HN.out]; exact hkl))
      have HTC := Lib.hid (move_calls an ln cn pl d HLP.out (by omega) hpp HD.out wa (ptsAt.kept HPN.out hka))
      have hgd := ((knil hkwr hka).trans (Keeps.refl _ wa) (fun i hi h => h) |> fun (_ : Keeps (fun _ => False) w wa) => (knil HKX.out (knil HW.out hka)).block _ hl1 (fun h => h)).trans HGB.out
      have d0 := cells_at hgd 0
      have d1 := cells_at hgd 1
      clear hwa hg8 hga hka e0 e1 e2 hgd
      go_wp2_with fail
      refine HTC.out.mono ?_; rintro e w5 ⟨hmv, hk5⟩
      rcases hmv with ⟨v, rfl, ⟨ap, cp, rfl, hpv, hpb⟩, hpm⟩ | rfl
      rotate_left
      · have hk05 : Keeps (fun _ => False) w w5 := knil hkwr (knil HKA.out hk5)
        go_wp2_with fail
        refine (servesG_calls w5 (HG.out.kept hk05)).mono ?_; rintro e w9 ⟨rfl, hk9⟩
        go_wp2_with fail
        go_ret
        exact ⟨rfl, knil hk05 hk9⟩
      have H5 := Lib.hid ((hk5.block _ hl8 (fun h => h)).trans HGA.out)
      have HPV := Lib.hid hpv
      have HPB := Lib.hid hpb
      have hk5' := hk5
      have c2' := cells_at H5.out 2
      have f2 := two_frozen H5.out 2
      have HPM := Lib.hid hpm
      clear c2 hpv hpb hpm HTC d0 d1 hpp
      go_upto_region 11 with fail
      obtain ⟨w6, hw6⟩ : ∃ w6, w5.setCell ⟨g8, 2, none⟩ (.slice ap ln cp) = w6 := ⟨_, rfl⟩
      have H6 := Lib.hid (show w6.heap[g8]? = some (.cells #[.bool dn, .int .i64 m, .slice ap ln cp] 40 (0, 0)) by rw [← hw6]; exact cells_put H5.out 2 _)
      have hks : Keeps (fun j => j = g8) w5 w6 := by rw [← hw6]; exact (Keeps.refl (fun j => j = g8) w5).setCell ⟨g8, 2, none⟩ (fun _ => rfl) _
      have hkr6 : Keeps (fun _ => False) wr w6 := (knil HKA.out hk5').trans hks (fun i hi h => by have := HG8.out; omega)
      have HP6 := Lib.hid (pts_off HPV.out hks (fun j hj he => by have := (HPB.out j hj).1; omega))
      have hls := hks.size
      obtain ⟨hrn, L, hL, hrow, hL4⟩ := HRW.out.off hkr6 (fun _ _ _ h => h)
      have hs6 : w3.heap.size ≤ w6.heap.size := by have := HW.out.size; have := hkr6.size; omega
      rw [hw6]
      clear hw6 c2' f2
      have HROW := Lib.hid hrow
      have HL := Lib.hid hL
      have HL4 := Lib.hid hL4
      have HRN := Lib.hid hrn
      have HK6 := Lib.hid hkr6
      have c0 := cells_at H6.out 0
      have c1 := cells_at H6.out 1
      have c2 := cells_at H6.out 2
      clear hrow hL hL4 hrn hks
      go_wp2_with (at_builtin; refine wpList_append_at rfl _ _ 25 rfl w3.heap.size 40 i0 (.agg #[.bool false, .int .i64 0, .slice none 0 0]) 3 40 Tryz.underlying25 hi hz0 hz1 hz2 rfl (by decide) _ _ _ rfl (HROW.out.alloc _) (some ⟨w6.heap.size, 0, none⟩) 1 1 [.bool dn, .int .i64 m, .slice ap ln cp] rfl (fun h => by cases h) rfl ?c1 ?c2 ?c3 ?c4 ?c5 ?_)
      case c1 =>
        intro ad had j u hj
        injection had with had
        subst had
        have hadd : (⟨w6.heap.size, 0, none⟩ : Addr).add j = ⟨w6.heap.size, 0 + j, none⟩ := by unfold Addr.add; split <;> simp_all
        rw [hadd, cell_of_row _ _ _ _ _ _ (heap_alloc_new w6 _), Nat.zero_add]
        simpa using hj
      case c2 => first | (intro u hu; simp at hu; rcases hu with rfl | rfl | rfl <;> rfl) | rfl
      case c3 => unfold maxLen; omega
      case c4 => omega
      case c5 => first | omega | (simp; omega)
      intro v5 w7 hown5 hgrow5 hat5
      obtain ⟨a5, c5', rfl⟩ := shape_own hown5
      have hkde : Keeps (fun j => some j = (Value.slice ax k cs).ownBlock) w6 w7 := ((Keeps.refl _ w6).alloc _).grown hgrow5 (fun g hg _ => hg.symm)
      have hvr : ∀ j, (Value.slice ax k cs).ownBlock = some j → w3.heap.size ≤ j ∧ j < wr.heap.size := fun j hj => by
        obtain ⟨_, L', _, hrow', _⟩ := HRW.out
        exact hrow'.lt j hj
      have HRS7 := Lib.hid (show RowsAt w7 w3.heap.size (.slice a5 (k + 1) c5') (onL (mv d) l (k + 1)) (k + 1) by
        rw [HST.out]
        refine RowsAt.snoc (r := (dn, m, pl.map (mv d))) HRN.out HL.out HL4.out hown5 hkde ?_ ⟨_, _, _, rfl⟩ HP6.out (fun j hj => ?_)
        · rcases hat5 with h1 | h1
          · exact .inl h1
          · exact .inr ⟨_, h1, by simp⟩
        · have h1 := HPB.out j hj
          have h2 := HKA.out.size
          have h3 := HW.out.size
          refine ⟨by omega, by omega, fun he => ?_⟩
          have := hvr j he
          omega)
      have HW7 := Lib.hid (show Keeps (fun _ => False) w3 w7 from (knil HW.out HK6.out).trans hkde (fun i hi h => by have := hvr i h.symm; omega))
      clear hown5 hgrow5 hat5 hkde hvr c0 c1 c2
      go_wp2_with fail
      go_roundw
      case rel => exact ⟨k + 1, by omega, by go_num, _, _, rfl, HRS7, HW7, Lib.hid (fun i hi => by
        by_cases hik : i < k
        · exact HMP.out i hik
        · obtain rfl : i = k := by omega
          rw [HPE.out]
          exact HPM.out)⟩
      case measure => simp [intOf]; omega
    · obtain rfl : n = k := by omega
      obtain ⟨wA, hwA⟩ : ∃ x, wr = x := ⟨_, rfl⟩
      rw [hwA] at HRW HW hkwr ⊢
      clear hwA
      have HRM := Lib.hid (show regsAt wA (.slice ax n cs) (l.map (onR (mv d))) by
        have h := HRW.out.regs
        unfold onL at h
        rwa [List.take_of_length_le (by rw [HN.out]; exact Nat.le_refl _)] at h)
      have HKA := Lib.hid hkwr
      have HK1A := Lib.hid (knil HKX.out HW.out)
      clear HRW HW hkwr
      go_wp2_with fail
      go_loopw [12, 14, 15, 16, 57] (fun s _ _ _ i wr => ∃ k : Nat, k ≤ m0 ∧ i = .int .i64 k ∧ ∃ aq2 cq2, s = .slice aq2 k cq2 ∧ RowKit.Hid (wr.ownsRow wA.heap.size 45 3 (.slice aq2 k cq2) k (qmV (mv d) qs k)) ∧ RowKit.Hid (Keeps (fun _ => False) wA wr) ∧ RowKit.Hid (∀ i, i < k → Pt (mv d (qy qs i).1))) (fun _ _ _ _ i _ => m0 - (intOf i).toNat)
      case atStart => exact ⟨0, Nat.zero_le _, rfl, _, _, rfl, Lib.hid (World.ownsRow_nil wA _ _ _), Lib.hid (Keeps.refl _ _), Lib.hid (fun i hi => absurd hi (Nat.not_lt_zero _))⟩
      case round =>
        obtain ⟨k, hk, rfl, aq2, cq2, rfl, HRW, HW, HQP⟩ := hrel
        have hkwr := knil HKA.out HW.out
        by_cases hkl : k < m0
        · have hkI : (k : Int) < (m0 : Int) := by omega
          have hk0 : (0 : Int) ≤ (k : Int) := by omega
          obtain ⟨qb, qo, haq, hqb, hqc⟩ : ∃ qb qo, aq = some ⟨qb, qo, none⟩ ∧ qb < w.heap.size ∧ w.cell? ⟨qb, qo + k * 3, none⟩ = some (.int .i64 (qy qs k).1.1) ∧ w.cell? ⟨qb, qo + k * 3 + 1, none⟩ = some (.int .i64 (qy qs k).1.2) ∧ w.cell? ⟨qb, qo + k * 3 + 2, none⟩ = some (.int .u64 (qy qs k).2) := by
            rcases HQ.out with ⟨h0, _⟩ | ⟨b, o, c, he, hb, hc⟩
            · have := HNQ.out; rw [h0] at this; simp at this; omega
            · injection he with h1 h2 h3
              exact ⟨b, o, h1, hb, hc k (by rw [HNQ.out]; exact hkl)⟩
          subst haq
          have q0 := (hkwr.cell (p := ⟨qb, qo + k * 3, none⟩) hqb (fun h => h)).trans hqc.1
          have q1 := (hkwr.cell (p := ⟨qb, qo + k * 3 + 1, none⟩) hqb (fun h => h)).trans hqc.2.1
          have q2 := (hkwr.cell (p := ⟨qb, qo + k * 3 + 2, none⟩) hqb (fun h => h)).trans hqc.2.2
          have HST := Lib.hid (qmV_step (mv d) (l := qs) (show k < qs.length by rw [HNQ.out]; exact hkl))
          have HQI := Lib.hid (HQO.out.at k).1
          obtain ⟨qp, hqp⟩ : ∃ x, (qy qs k).1 = x := ⟨_, rfl⟩
          obtain ⟨qi, hqi⟩ : ∃ x, (qy qs k).2 = x := ⟨_, rfl⟩
          rw [hqp] at q0 q1 HQI HST
          rw [hqi] at q2 HST
          have HQE := Lib.hid hqp
          clear hqc hqp hqi
          go_upto_region 17 with fail
          obtain ⟨wa, hwa⟩ : ∃ wa, wr.alloc (.cells #[.int .i64 qp.1, .int .i64 qp.2, .int .u64 qi] 45) = wa := ⟨_, rfl⟩
          obtain ⟨g14, hg14⟩ : ∃ g, wr.heap.size = g := ⟨_, rfl⟩
          have hga := heap_alloc_new wr (.cells #[.int .i64 qp.1, .int .i64 qp.2, .int .u64 qi] 45)
          have hka : Keeps (fun _ => False) wr wa := by rw [← hwa]; exact (Keeps.refl _ wr).alloc _
          rw [hwa, hg14] at hga
          rw [hwa]
          try rw [hg14]
          have hl14 : g14 < wa.heap.size := (Array.getElem?_eq_some_iff.1 hga).1
          have HGA := Lib.hid hga
          have HG14 := Lib.hid hg14
          have HKAA := Lib.hid hka
          have c0 := cells_at hga 0
          have c1 := cells_at hga 1
          have hgd := ((knil HK1A.out (knil HW.out hka)).block _ hl1 (fun h => h)).trans HGB.out
          have d0 := cells_at hgd 0
          have d1 := cells_at hgd 1
          have hkb : Keeps (fun _ => False) wa (wa.alloc (.cells #[.int .i64 qp.1, .int .i64 qp.2] 35)) := (Keeps.refl _ wa).alloc _
          have HKB := Lib.hid hkb
          have HMV := Lib.hid (move_calls (some ⟨wa.heap.size, 0, none⟩) 1 1 [qp] d rfl (by omega) (fun x hx => by rw [List.mem_singleton.1 hx]; exact HQI.out) HD.out _ (one_pt (p := qp) (heap_alloc_new wa (.cells #[.int .i64 qp.1, .int .i64 qp.2] 35))))
          have d0' := (hkb.cell (p := ⟨g1, 0, none⟩) (Array.getElem?_eq_some_iff.1 hgd).1 (fun h => h)).trans d0
          have d1' := (hkb.cell (p := ⟨g1, 1, none⟩) (Array.getElem?_eq_some_iff.1 hgd).1 (fun h => h)).trans d1
          clear hwa hg14 hga hka q0 q1 q2 hgd hkb d0 d1
          go_wp2_with fail
          refine HMV.out.mono ?_; rintro e w5 ⟨hmv, hk5⟩
          have HK5 := Lib.hid (knil HKAA.out (knil HKB.out hk5))
          have hkw5 : Keeps (fun _ => False) w w5 := knil hkwr HK5.out
          rcases hmv with ⟨v, rfl, ⟨ap, cp, rfl, hpv, hpb⟩, hpm⟩ | rfl
          rotate_left
          · go_wp2_with fail
            refine (servesG_calls w5 (HG.out.kept hkw5)).mono ?_; rintro e w9 ⟨rfl, hk9⟩
            go_wp2_with fail
            go_ret
            exact ⟨rfl, knil hkw5 hk9⟩
          obtain ⟨bp, op, hape, hbp, hpc⟩ : ∃ bp op, ap = some ⟨bp, op, none⟩ ∧ bp < w5.heap.size ∧ w5.cell? ⟨bp, op, none⟩ = some (.int .i64 (mv d qp).1) ∧ w5.cell? ⟨bp, op + 1, none⟩ = some (.int .i64 (mv d qp).2) := by
            rcases hpv with ⟨h0, _⟩ | ⟨b, o, c, he, hb, hc⟩
            · simp at h0
            · injection he with h1 h2 h3
              exact ⟨b, o, h1, hb, hc 0 (by simp)⟩
          subst hape
          have hbp0 := (hpb bp rfl).1
          have hG5 := (hk5.block _ (Nat.lt_of_lt_of_le hl14 HKB.out.size) (fun h => h)).trans ((HKB.out.block _ hl14 (fun h => h)).trans HGA.out)
          have q2 := cells_at hG5 2
          have HPM := Lib.hid (show Pt (mv d qp) from hpm _ (List.mem_cons_self))
          obtain ⟨pm, hpe⟩ : ∃ x, mv d qp = x := ⟨_, rfl⟩
          rw [hpe] at hpc HST HPM
          have HR5 := Lib.hid (rowW_nil HRW.out HK5.out)
          have HRL := Lib.hid (fun j (hj : (Value.slice aq2 k cq2).ownBlock = some j) => HRW.out.lt j hj)
          have HPE := Lib.hid hpe
          have hl14' : g14 < w5.heap.size := (Array.getElem?_eq_some_iff.1 hG5).1
          obtain ⟨hpc0, hpc1⟩ := hpc
          have hsA : wA.heap.size ≤ w5.heap.size := by have := HW.out.size; have := HK5.out.size; omega
          have hnb : ¬ some bp = (Value.slice aq2 k cq2).ownBlock := fun h => by
            have h1 := HRL.out bp h.symm
            have h2 := HKAA.out.size
            have h3 := HKB.out.size
            omega
          have hng : ¬ some g14 = (Value.slice aq2 k cq2).ownBlock := fun h => by
            have h1 := HRL.out g14 h.symm
            have h2 := HG14.out
            omega
          clear hpv hpb hpm hpe hG5 c0 c1 d0' d1' hbp0 HMV
          go_upto_region 20 with fail
          refine wp_region_late (fun W => W.cell? ⟨bp, op, none⟩ = some (.int .i64 pm.1) ∧ W.cell? ⟨bp, op + 1, none⟩ = some (.int .i64 pm.2) ∧ W.cell? ⟨g14, 2, none⟩ = some (.int .u64 qi)) [] (by kernel_rfl) ?_
          have hS : w5.drew.cell? ⟨bp, op, none⟩ = some (.int .i64 pm.1) ∧ w5.drew.cell? ⟨bp, op + 1, none⟩ = some (.int .i64 pm.2) ∧ w5.drew.cell? ⟨g14, 2, none⟩ = some (.int .u64 qi) := ⟨hpc0, hpc1, q2⟩
          have HRD := Lib.hid (show w5.drew.ownsRow wA.heap.size 45 3 (.slice aq2 k cq2) k (qmV (mv d) qs k) from HR5.out)
          have HKD := Lib.hid (show Keeps (fun _ => False) wr w5.drew from HK5.out.drewN 1)
          have hbpd : bp < w5.drew.heap.size := hbp
          have hg14d : g14 < w5.drew.heap.size := hl14'
          have hsAd : wA.heap.size ≤ w5.drew.heap.size := hsA
          clear hpc0 hpc1 q2 hbp hl14' hsA
          generalize w5.drew = wd at hS HRD HKD hbpd hg14d hsAd ⊢
          refine tkA 0 (.slice aq2 k cq2) rfl (by kernel_rfl) (fun _ _ _ h => (h : False).elim) (by kernel_rfl) (fun _ => ‹_›) ?_ ?_
          · intro w _; go_simp
          try simp only [ga, gb, gc, Act.put, gd, ge, gf]
          refine tkA 1 (.slice (some ⟨bp, op, none⟩) 1 cp) rfl (by kernel_rfl) (fun _ _ _ h => (h : False).elim) (by kernel_rfl) (fun _ => ‹_›) ?_ ?_
          · intro w _; go_simp
          try simp only [ga, gb, gc, Act.put, gd, ge, gf]
          refine tkA 2 (.pointer (some ⟨bp, op, none⟩)) rfl (by kernel_rfl) (fun _ _ _ h => (h : False).elim) (by kernel_rfl) (fun _ => ‹_›) ?_ ?_
          · intro w _; go_simp
          try simp only [ga, gb, gc, Act.put, gd, ge, gf]
          refine tkL 3 (.agg #[.int .i64 pm.1, .int .i64 pm.2]) rfl (by kernel_rfl) (fun _ _ _ h => (h : False).elim) (by kernel_rfl) ‹_› ?_ ?_
          · intro w hSw
            obtain ⟨s0, s1, s2⟩ := hSw
            go_simp
          try simp only [ga, gb, gc, Act.put, gd, ge, gf]
          refine tkA 4 (.pointer (some ⟨g14, 2, none⟩)) rfl (by kernel_rfl) (fun _ _ _ h => (h : False).elim) (by kernel_rfl) (fun _ => ‹_›) ?_ ?_
          · intro w _; go_simp
          try simp only [ga, gb, gc, Act.put, gd, ge, gf]
          refine tkL 5 (.int .u64 qi) rfl (by kernel_rfl) (fun _ _ _ h => (h : False).elim) (by kernel_rfl) ‹_› ?_ ?_
          · intro w hSw
            obtain ⟨s0, s1, s2⟩ := hSw
            go_simp
          try simp only [ga, gb, gc, Act.put, gd, ge, gf]
          refine tkA 6 (.agg #[.int .i64 pm.1, .int .i64 pm.2, .int .u64 qi]) rfl (by kernel_rfl) (fun _ _ _ h => (h : False).elim) (by kernel_rfl) (fun _ => ‹_›) ?_ ?_
          · intro w _; go_simp
          try simp only [ga, gb, gc, Act.put, gd, ge, gf]
          refine wpAnyL_next (i := 7) (by kernel_rfl) rfl (fun K hK => ?_)
          go_simp
          go_wp2_with fail
          obtain ⟨y1, hye1⟩ : ∃ y1, wd.alloc (.cells #[.int .i64 pm.1, .int .i64 pm.2, .int .u64 qi] 45) = y1 := ⟨_, rfl⟩
          obtain ⟨gy, hgy⟩ : ∃ gy, wd.heap.size = gy := ⟨_, rfl⟩
          have hky : Keeps (fun _ => False) wd y1 := by rw [← hye1]; exact (Keeps.refl _ _).alloc _
          have hgc : y1.heap[gy]? = some (.cells #[.int .i64 pm.1, .int .i64 pm.2, .int .u64 qi] 45 (0, 0)) := by rw [← hye1, ← hgy]; exact heap_alloc_new _ _
          have hry : y1.ownsRow wA.heap.size 45 3 (.slice aq2 k cq2) k (qmV (mv d) qs k) := by rw [← hye1]; exact HRD.out.alloc _
          have hsy : y1.heap.size = gy + 1 := by rw [← hye1, ← hgy]; simp
          rw [hye1]
          try rw [hgy]
          have hSy : y1.cell? ⟨bp, op, none⟩ = some (.int .i64 pm.1) ∧ y1.cell? ⟨bp, op + 1, none⟩ = some (.int .i64 pm.2) ∧ y1.cell? ⟨g14, 2, none⟩ = some (.int .u64 qi) := ⟨((hky).cell (p := ⟨bp, op, none⟩) hbpd (fun h => h)).trans hS.1, ((hky).cell (p := ⟨bp, op + 1, none⟩) hbpd (fun h => h)).trans hS.2.1, ((hky).cell (p := ⟨g14, 2, none⟩) hg14d (fun h => h)).trans hS.2.2⟩
          refine hK.out _ _ hSy (fun hHeld => ?_)
          clear hK K
          try simp only [ga, gb, gc, Act.put, gd, ge, gf]
          refine wpAnyL_next (i := 8) (by kernel_rfl) rfl (fun K hK => ?_)
          rw [if_pos (by rfl)]
          refine wp_append_atW (.tmp 72) (.tmp 79) 33 rfl wA.heap.size 45 i1 (.agg #[.int .i64 0, .int .i64 0, .int .u64 0]) 3 24 Tryz.underlying33 hi1 hy0 hy1 hy2 rfl (by decide) (.slice aq2 k cq2) k (qmV (mv d) qs k) rfl hry (some ⟨gy, 0, none⟩) 1 1 [.int .i64 pm.1, .int .i64 pm.2, .int .u64 qi] rfl (fun h => by cases h) rfl ?_ ?_ (by unfold maxLen; omega) (by omega) (by omega) ?_
          · intro ad had j u hj
            injection had with had
            subst had
            have hadd : (⟨gy, 0, none⟩ : Addr).add j = ⟨gy, 0 + j, none⟩ := by unfold Addr.add; split <;> simp_all
            rw [hadd, cell_of_row _ _ _ _ _ _ hgc, Nat.zero_add]
            simpa using hj
          · intro u hu; simp at hu; rcases hu with rfl | rfl | rfl <;> rfl
          intro v6 w9 r6 hg6 hat6
          obtain ⟨ao6, c6, rfl⟩ := shape_own r6
          have hk9 : Keeps (fun j => some j = (Value.slice aq2 k cq2).ownBlock) y1 w9 := (Keeps.refl (fun j => some j = (Value.slice aq2 k cq2).ownBlock) y1).grown hg6 (fun j h1 _ => h1.symm)
          have hS9 : w9.cell? ⟨bp, op, none⟩ = some (.int .i64 pm.1) ∧ w9.cell? ⟨bp, op + 1, none⟩ = some (.int .i64 pm.2) ∧ w9.cell? ⟨g14, 2, none⟩ = some (.int .u64 qi) := ⟨((hk9).cell (p := ⟨bp, op, none⟩) (show bp < y1.heap.size by omega) (fun h => hnb h)).trans hSy.1, ((hk9).cell (p := ⟨bp, op + 1, none⟩) (show bp < y1.heap.size by omega) (fun h => hnb h)).trans hSy.2.1, ((hk9).cell (p := ⟨g14, 2, none⟩) (show g14 < y1.heap.size by omega) (fun h => hng h)).trans hSy.2.2⟩
          refine hK.out _ _ hS9 (fun hHeld => ?_)
          clear hK K
          try simp only [ga, gb, gc, Act.put, gd, ge, gf]
          refine tkA 9 (.slice ao6 (k + 1) c6) rfl (by kernel_rfl) (fun _ _ _ h => (h : False).elim) (by kernel_rfl) (fun _ => ‹_›) ?_ ?_
          · intro w _; go_simp
          try simp only [ga, gb, gc, Act.put, gd, ge, gf]
          refine wpAnyL_done (by kernel_rfl) ?_ _
          refine NoPanic.normal ?_
          have HR9 := Lib.hid (show w9.ownsRow wA.heap.size 45 3 (.slice ao6 (k + 1) c6) (k + 1) (qmV (mv d) qs (k + 1)) by rw [HST.out]; exact r6)
          have HW9 := Lib.hid (show Keeps (fun _ => False) wA w9 from (knil HW.out (knil HKD.out hky)).trans hk9 (fun i hi h => by have := (HRL.out i h.symm).1; omega))
          clear hS hSy hS9 r6 hg6 hat6 hk9 hry hgc hsy hgy hye1
          go_wp2_with fail
          go_roundw
          case rel => exact ⟨k + 1, by omega, by go_num, _, _, rfl, HR9, HW9, Lib.hid (fun i hi => by
            by_cases hik : i < k
            · exact HQP.out i hik
            · obtain rfl : i = k := by omega
              rw [HQE.out, HPE.out]
              exact HPM.out)⟩
          case measure => simp [intOf]; omega
        · obtain rfl : m0 = k := by omega
          have hqm : qsAt wr (.slice aq2 m0 cq2) (qs.map (onQ (mv d))) := by
            have h := HRW.out
            unfold qmV at h
            rw [List.take_of_length_le (by rw [HNQ.out]; exact Nat.le_refl _)] at h
            exact qsAt_row h (by rw [List.length_map, HNQ.out])
          have hrom : RegsOk (l.map (onR (mv d))) := by
            intro r hr
            obtain ⟨x, hx, rfl⟩ := List.mem_map.1 hr
            obtain ⟨i, hi, rfl⟩ := List.getElem_of_mem hx
            have h := HMP.out i (by rw [← HN.out]; exact hi)
            unfold rg at h
            rwa [List.getD_eq_getElem?_getD, List.getElem?_eq_getElem hi] at h
          have hqom : QsOk (qs.map (onQ (mv d))) := by
            intro q hq
            obtain ⟨x, hx, rfl⟩ := List.mem_map.1 hq
            obtain ⟨i, hi, rfl⟩ := List.getElem_of_mem hx
            have h := HQP.out i (by rw [← HNQ.out]; exact hi)
            unfold qy at h
            rw [List.getD_eq_getElem?_getD, List.getElem?_eq_getElem hi] at h
            exact ⟨h, (HQO.out _ hx).2⟩
          have he1 := enc_5 HCH.out HRO.out HQO.out (by rw [HNQ.out]; omega) (by rw [HNQ.out]; omega)
          have he2 : EncOk 5 (l.map (onR (mv d))) [] (qs.map (onQ (mv d))) := he1.on (mv d) hrom (fun x hx => by cases hx) hqom
          have hsv : servI (encI 5 (l.map (onR (mv d))) [] (qs.map (onQ (mv d)))) = servI (encI 5 l [] qs) := serv_same (same_mv d) he1 hrom (fun x hx => by cases hx) hqom
          have hb1 := fun W (hk : Keeps (fun _ => False) wr W) => batch_calls l qs he1 ar aq n m0 cr cq HN.out HNQ.out W (HR.out.kept (knil hkwr hk)) (HQ.out.kept (knil hkwr hk))
          have hb2 := fun W (hk : Keeps (fun _ => False) wr W) => batch_calls (l.map (onR (mv d))) (qs.map (onQ (mv d))) he2 ax aq2 n m0 cs cq2 (by rw [List.length_map, HN.out]) (by rw [List.length_map, HNQ.out]) W (HRM.out.kept (knil HW.out hk)) (hqm.kept hk)
          generalize encI 5 (l.map (onR (mv d))) [] (qs.map (onQ (mv d))) = L2 at hsv hb2
          generalize encI 5 l [] qs = L1 at hsv hb1
          have HB1 := Lib.hid hb1
          have HB2 := Lib.hid hb2
          have HSV := Lib.hid hsv
          have HGD := Lib.hid (fun W (hk : Keeps (fun _ => False) wr W) => HG.out.kept (knil hkwr hk))
          clear hqm hrom hqom he1 he2 hsv hb1 hb2
          go_wp2_with fail
          refine (servesG_calls wr (HG.out.kept hkwr)).mono ?_; rintro e x1 ⟨rfl, hx1⟩
          go_wp2_with fail
          refine (HB1.out x1 hx1).mono ?_; rintro e x2 ⟨⟨v, rfl, hv⟩, hkc⟩
          have hx2 := knil hx1 hkc
          obtain ⟨z0, z1, z2, hz⟩ : ∃ a m c, v = .slice a m c := by
            rcases hv.2 with ⟨_, a, c, h⟩ | ⟨b, o, c, h, _⟩ <;> exact ⟨_, _, _, h⟩
          subst hz
          have HV1 := Lib.hid hv
          clear hv hkc
          go_wp2_with fail
          refine (serve_calls _ L1 x2 (HGD.out _ hx2) HV1.out).mono ?_; rintro e x3 ⟨⟨v, rfl, hv⟩, hkc⟩
          have hx3 := knil hx2 hkc
          obtain ⟨z0, z1, z2, hz⟩ : ∃ a m c, v = .slice a m c := by
            rcases hv.2 with ⟨_, a, c, h⟩ | ⟨b, o, c, h, _⟩ <;> exact ⟨_, _, _, h⟩
          subst hz
          have HU1 := Lib.hid hv
          clear hv hkc
          go_wp2_with fail
          refine (HB2.out x3 hx3).mono ?_; rintro e x4 ⟨⟨v, rfl, hv⟩, hkc⟩
          have hx4 := knil hx3 hkc
          have hk34 := hkc
          obtain ⟨z0, z1, z2, hz⟩ : ∃ a m c, v = .slice a m c := by
            rcases hv.2 with ⟨_, a, c, h⟩ | ⟨b, o, c, h, _⟩ <;> exact ⟨_, _, _, h⟩
          subst hz
          have HV2 := Lib.hid hv
          clear hv hkc
          go_wp2_with fail
          refine (serve_calls _ L2 x4 (HGD.out _ hx4) HV2.out).mono ?_; rintro e x5 ⟨⟨v, rfl, hv⟩, hkc⟩
          have hx5 := knil hx4 hkc
          have hk35 := knil hk34 hkc
          obtain ⟨z0, z1, z2, hz⟩ : ∃ a m c, v = .slice a m c := by
            rcases hv.2 with ⟨_, a, c, h⟩ | ⟨b, o, c, h, _⟩ <;> exact ⟨_, _, _, h⟩
          subst hz
          have HU2 := Lib.hid hv
          clear hv hkc
          go_wp2_with fail
          refine (sv.equal_calls _ _ (servI L1) (servI L2) x5 (HU1.out.kept hk35).bytes HU2.out.bytes).mono ?_; rintro e x6 ⟨rfl, hw⟩
          rw [hw, decide_eq_true HSV.out.symm]
          clear hw
          go_wp2_with fail
          go_ret
          exact ⟨rfl, knil hkwr hx5⟩
end Go.Proofs.YtmoajobnhiopiaaGreatDoor.sv
set_option linter.unusedSimpArgs false
set_option linter.unusedVariables false
set_option maxRecDepth 100000
namespace Go.Proofs.YtmoajobnhiopiaaGreatDoor.to
open Go Go.RowKit Go.ChangeShapes Go.WideShapes Go.ChangeAt Go.Deep Go.Proofs.YtmoajobnhiopiaaGreatDoor.mk Go.Proofs.YtmoajobnhiopiaaGreatDoor.tp Go.Proofs.YtmoajobnhiopiaaGreatDoor.lm Go.Proofs.YtmoajobnhiopiaaGreatDoor.gm Go.Proofs.YtmoajobnhiopiaaGreatDoor.po
theorem own : ownKnob Tryz.prog.godebug = none := by kernel_rfl
theorem laidOut : laidOutB Tryz.prog = true := by kernel_rfl
theorem cellsPt : Tryz.prog.cellsOf 35 = 2 := by kernel_rfl
theorem cellsI : Tryz.prog.cellsOf 2 = 1 := by kernel_rfl
theorem wf_isS {n : Int} (h : (Lit.int .i64 n).wf = true) : IsS n := by
  have := bounds_i64 h
  unfold IsS
  omega
theorem list_of' {α : Type} {Q : Nat → α → Prop} : ∀ n : Nat, (∀ i, i < n → ∃ e, Q i e) → ∃ l : List α, l.length = n ∧ ∀ i e, l[i]? = some e → Q i e
  | 0, _ => ⟨[], rfl, fun i e h => by simp at h⟩
  | n + 1, h => by
    obtain ⟨l, hl, hq⟩ := list_of' n (fun i hi => h i (by omega))
    obtain ⟨x, hx⟩ := h n (by omega)
    refine ⟨l ++ [x], by simp [hl], fun i e he => ?_⟩
    by_cases hi : i < l.length
    · rw [List.getElem?_append_left hi] at he
      exact hq i e he
    · rw [List.getElem?_append_right (by omega)] at he
      have h0 : i - l.length = 0 := by
        by_cases h1 : i - l.length = 0
        · exact h1
        · rw [List.getElem?_eq_none (by simp; omega)] at he; cases he
      rw [h0] at he
      simp at he
      subst he
      have : i = n := by omega
      rw [this]; exact hx
theorem pt_cs {H : Type} {enc : TypeId × Value → H} {W : World} {fuel : Nat} {cs : List Value} {x : DataW H × List MemPlace} (hf : DataW.trod enc Tryz.prog W 0 (fun _ => true) true fuel 35 cs = some x) :
    ∃ r : Int × Int, Pt r ∧ cs = [.int .i64 r.1, .int .i64 r.2] := by
  obtain ⟨y0, y1, n, _, hl, h0, h1⟩ := trod_struct2 Tryz.underlying35 hf
  rw [cellsPt] at hl
  match cs, hl with
  | [c0, c1], _ =>
    have e0 : DataW.trod enc Tryz.prog W 0 (fun _ => true) true n 2 [c0] = some y0 := by simpa [cellsI] using h0
    have e1 : DataW.trod enc Tryz.prog W 0 (fun _ => true) true n 2 [c1] = some y1 := by simpa [cellsI] using h1
    obtain ⟨a0, q0, _, w0⟩ := DataW.trod_int Tryz.underlying2 e0
    obtain ⟨a1, q1, _, w1⟩ := DataW.trod_int Tryz.underlying2 e1
    simp at q0 q1
    exact ⟨(a0, a1), ⟨wf_isS w0, wf_isS w1⟩, by rw [q0, q1]⟩
theorem open_pt {H : Type} {enc : TypeId × Value → H} {W : World} {r : Reach} {b0 : Nat} {v : Value} {d : DataW H} {p : List MemPlace} (hv : Value.okWide Tryz.prog W r b0 35 v) (h : DataW.Trod enc Tryz.prog W 0 (fun _ => true) true 35 v d p) :
    ∃ x y : Int, IsS x ∧ IsS y ∧ v = .agg #[.int .i64 x, .int .i64 y] := by
  obtain ⟨cs, rfl, hsz⟩ := okWide_struct Tryz.underlying35 hv
  obtain ⟨fuel, hf⟩ := h
  obtain ⟨r, hr, hc⟩ := pt_cs hf
  refine ⟨r.1, r.2, hr.1, hr.2, ?_⟩
  have : (Value.agg cs).cells = cs := rfl
  rw [this] at hc
  have hcs : cs = #[.int .i64 r.1, .int .i64 r.2] := by rw [← Array.toList_inj]; exact hc
  rw [hcs]
theorem open_pts {H : Type} {enc : TypeId × Value → H} {W : World} {fuel : Nat} {a0 : Option Addr} {len cap : Nat} {x : DataW H × List MemPlace}
    (h : DataW.trod enc Tryz.prog W 0 (fun _ => true) true fuel 38 (Value.slice a0 len cap).cells.toList = some x) :
    ∃ l : List (Int × Int), (ptsAt W (.slice a0 len cap) l ∧ ∀ n c, Value.slice a0 len cap = .slice none n c → n = 0 ∧ c = 0) ∧ Pts l ∧ len = l.length ∧ l.length ≤ 9223372036854775807 := by
  rcases open_slice Tryz.underlying38 h with ⟨hcs, _⟩ | ⟨a, len', cap', m, n, D, Pl, hcs, _, hl, hm, hmm, _, hi⟩
  · simp [Value.cells] at hcs
    obtain ⟨rfl, rfl, rfl⟩ := hcs
    exact ⟨[], ⟨.inl ⟨rfl, _, _, rfl⟩, fun n c e => by cases e; exact ⟨rfl, rfl⟩⟩, fun e he => by simp at he, rfl, by simp⟩
  · simp [Value.cells] at hcs
    obtain ⟨rfl, rfl, rfl⟩ := hcs
    simp only [if_true] at hmm
    subst hmm
    have each : ∀ i, i < len → ∃ e : Int × Int, Pt e ∧ W.cell? (a.add (i * 2)) = some (.int .i64 e.1) ∧ W.cell? ((a.add (i * 2)).add 1) = some (.int .i64 e.2) := by
      intro i hil
      obtain ⟨cs', hc, ht⟩ := hi i (by omega)
      rw [cellsPt] at hc
      obtain ⟨_, _, hat⟩ := World.cells?_some hc
      obtain ⟨e, he, rfl⟩ := pt_cs ht
      refine ⟨e, he, ?_, hat 1 (by omega)⟩
      have := hat 0 (by omega)
      simpa [Addr.add] using this
    obtain ⟨l, hll, hq⟩ := list_of' len each
    have hok : Pts l := fun e he => by
      obtain ⟨i, hi'⟩ := List.getElem?_of_mem he
      exact (hq i e hi').1
    refine ⟨l, ⟨?_, fun n c e => by cases e⟩, hok, hll.symm, by unfold maxLen at hm; omega⟩
    subst hll
    by_cases hne : l = []
    · subst hne; exact .inl ⟨rfl, _, _, rfl⟩
    · have hlp : 0 < l.length := List.length_pos_iff.2 hne
      have h00 := (hq 0 l[0] (by simp [hlp])).2.1
      have hsp := World.cell?_spot h00
      have hlt := World.block_lt_of_cell? W _ h00
      obtain ⟨b, off, spot⟩ := a
      have hspot : spot = none := by simpa [Addr.add] using hsp
      subst hspot
      refine .inr ⟨b, off, _, rfl, by simpa [Addr.add] using hlt, fun i hi => ?_⟩
      have hpt : pt l i = l[i] := by unfold pt; rw [List.getD_eq_getElem?_getD, List.getElem?_eq_getElem hi]; rfl
      rw [hpt]
      obtain ⟨_, q1, q2⟩ := hq i l[i] (List.getElem?_eq_getElem hi)
      have add_at : ∀ (o k : Nat), (⟨b, o, none⟩ : Addr).add k = ⟨b, o + k, none⟩ := by intro o k; unfold Addr.add; split <;> simp_all
      rw [add_at] at q1 q2
      rw [add_at] at q2
      exact ⟨q1, q2⟩
theorem gWords : Tryz.prog.globalNamed "geofence/mask.words" = some 0 := by kernel_rfl
theorem gWordsT : (Tryz.prog.globals[0]?).map (·.type) = some 138 := by kernel_rfl
theorem gFixed : Tryz.prog.globalNamed "geofence/header.fixed" = some 1 := by kernel_rfl
theorem gFixedT : (Tryz.prog.globals[1]?).map (·.type) = some 209 := by kernel_rfl
theorem cellsW2 : Tryz.prog.cellsOf 138 = 2 := by kernel_rfl
theorem cellsU1 : Tryz.prog.cellsOf 43 = 1 := by kernel_rfl
theorem cellsF6 : Tryz.prog.cellsOf 209 = 6 := by kernel_rfl
theorem cellsI1 : Tryz.prog.cellsOf 3 = 1 := by kernel_rfl
theorem laid_tail {P : Program} {W : World} {x : String × DataW Unit} {rest : List (String × DataW Unit)} (h : laidMet P (x :: rest) W) : laidMet P rest W := by
  obtain ⟨n, d⟩ := x
  obtain ⟨ps, ⟨g, t, cs, fuel, p, q, _, _, _, _, h2, rfl⟩, hn, hc⟩ := h
  exact ⟨q, h2, (List.nodup_append.1 hn).2.1, fun k off hm => hc k off (List.mem_append_right _ hm)⟩
theorem gl_of {W : World} (h : laidMetH Tryz.prog [("geofence/mask.words", Rows.laid_geofence_mask_words), ("geofence/header.fixed", Rows.laid_geofence_header_fixed)] W) : Gl W := by
  have t0 : Lib.TabIs Tryz.prog W "geofence/mask.words" .u64 [9223372036854775808, 18446744073709551615] :=
    Lib.tabIs_of_head gWords gWordsT Tryz.underlying138 Tryz.underlying43 cellsU1 cellsW2 h
  have t1 : Lib.TabIs Tryz.prog W "geofence/header.fixed" .i64 [0, 3, 4, 1, 1, 0] :=
    Lib.tabIs_of_head (rest := []) gFixed gFixedT Tryz.underlying209 Tryz.underlying3 cellsI1 cellsF6 (laid_tail h)
  exact ⟨t0.cell gWords 0 (by decide), t0.cell gWords 1 (by decide), t1.cell gFixed 0 (by decide), t1.cell gFixed 1 (by decide), t1.cell gFixed 2 (by decide), t1.cell gFixed 3 (by decide), t1.cell gFixed 4 (by decide), t1.cell gFixed 5 (by decide)⟩
def putWords : Obj → Obj
  | .cells _ t frozen => .cells #[.int .u64 9223372036854775808, .int .u64 18446744073709551615] t frozen
  | o => o
def putFixed : Obj → Obj
  | .cells _ t frozen => .cells #[.int .i64 0, .int .i64 3, .int .i64 4, .int .i64 1, .int .i64 1, .int .i64 0] t frozen
  | o => o
noncomputable def laidWorld (os : Os) : World :=
  { World.holding Tryz.prog os ⟨#[], #[], []⟩ with heap := ((World.holding Tryz.prog os ⟨#[], #[], []⟩).heap.modify 0 putWords).modify 1 putFixed }
end Go.Proofs.YtmoajobnhiopiaaGreatDoor.to
set_option linter.unusedSimpArgs false
set_option linter.unusedVariables false
set_option maxRecDepth 100000
namespace Go.Proofs.YtmoajobnhiopiaaGreatDoor.to
open Go Go.RowKit Go.ChangeShapes Go.WideShapes Go.ChangeAt Go.Deep Go.Proofs.YtmoajobnhiopiaaGreatDoor.mk Go.Proofs.YtmoajobnhiopiaaGreatDoor.tp Go.Proofs.YtmoajobnhiopiaaGreatDoor.lm Go.Proofs.YtmoajobnhiopiaaGreatDoor.gm Go.Proofs.YtmoajobnhiopiaaGreatDoor.po Go.Proofs.YtmoajobnhiopiaaGreatDoor.sv
theorem cellsRg : Tryz.prog.cellsOf 40 = 3 := by kernel_rfl
theorem cellsBool : Tryz.prog.cellsOf 4 = 1 := by kernel_rfl
theorem cellsInt : Tryz.prog.cellsOf 3 = 1 := by kernel_rfl
theorem cellsPts : Tryz.prog.cellsOf 38 = 1 := by kernel_rfl
theorem add_plain' (b o k : Nat) : (⟨b, o, none⟩ : Addr).add k = ⟨b, o + k, none⟩ := by unfold Addr.add; split <;> simp_all
theorem pts_cs {H : Type} {enc : TypeId × Value → H} {W : World} {fuel : Nat} {cs : List Value} {x : DataW H × List MemPlace} (h : DataW.trod enc Tryz.prog W 0 (fun _ => true) true fuel 38 cs = some x) :
    ∃ a n c l, cs = [.slice a n c] ∧ ptsAt W (.slice a n c) l ∧ Pts l := by
  rcases open_slice Tryz.underlying38 h with ⟨rfl, _⟩ | ⟨a, len, cap, _, _, _, _, rfl, _⟩
  · obtain ⟨l, h1, h2, _⟩ := open_pts (a0 := none) (len := 0) (cap := 0) h
    exact ⟨_, _, _, l, rfl, h1.1, h2⟩
  · obtain ⟨l, h1, h2, _⟩ := open_pts (a0 := some a) (len := len) (cap := cap) h
    exact ⟨_, _, _, l, rfl, h1.1, h2⟩
theorem rg_cs {H : Type} {enc : TypeId × Value → H} {W : World} {fuel : Nat} {cs : List Value} {x : DataW H × List MemPlace} (hf : DataW.trod enc Tryz.prog W 0 (fun _ => true) true fuel 40 cs = some x) :
    ∃ (r : Reg) (a : Option Addr) (n c : Nat), Pts r.2.2 ∧ cs = [.bool r.1, .int .i64 r.2.1, .slice a n c] ∧ ptsAt W (.slice a n c) r.2.2 := by
  obtain ⟨y0, y1, y2, n, _, hl, h0, h1, h2⟩ := trod_struct3 Tryz.underlying40 hf
  rw [cellsRg] at hl
  match cs, hl with
  | [c0, c1, c2], _ =>
    have e0 : DataW.trod enc Tryz.prog W 0 (fun _ => true) true n 4 [c0] = some y0 := by simpa [cellsBool] using h0
    have e1 : DataW.trod enc Tryz.prog W 0 (fun _ => true) true n 3 [c1] = some y1 := by simpa [cellsInt] using h1
    have e2 : DataW.trod enc Tryz.prog W 0 (fun _ => true) true n 38 [c2] = some y2 := by simpa [cellsPts] using h2
    obtain ⟨a0, q0, _⟩ := DataW.trod_bool Tryz.underlying4 e0
    obtain ⟨a1, q1, _, w1⟩ := DataW.trod_int Tryz.underlying3 e1
    obtain ⟨a, m, c, l, q2, hp, hpp⟩ := pts_cs e2
    simp at q0 q1 q2
    exact ⟨(a0, a1, l), a, m, c, hpp, by rw [q0, q1, q2], hp⟩
theorem open_regs {H : Type} {enc : TypeId × Value → H} {W : World} {fuel : Nat} {a0 : Option Addr} {len cap : Nat} {x : DataW H × List MemPlace}
    (h : DataW.trod enc Tryz.prog W 0 (fun _ => true) true fuel 25 (Value.slice a0 len cap).cells.toList = some x) :
    ∃ l : List Reg, regsAt W (.slice a0 len cap) l ∧ RegsOk l ∧ l.length = len := by
  rcases open_slice Tryz.underlying25 h with ⟨hcs, _⟩ | ⟨a, len', cap', m, n, D, Pl, hcs, _, hl, hm, hmm, _, hi⟩
  · simp [Value.cells] at hcs
    obtain ⟨rfl, rfl, rfl⟩ := hcs
    exact ⟨[], .inl ⟨rfl, _, _, rfl⟩, fun e he => by simp at he, rfl⟩
  · simp [Value.cells] at hcs
    obtain ⟨rfl, rfl, rfl⟩ := hcs
    simp only [if_true] at hmm
    subst hmm
    have each : ∀ i, i < len → ∃ e : Reg, Pts e.2.2 ∧ W.cell? (a.add (i * 3)) = some (.bool e.1) ∧ W.cell? ((a.add (i * 3)).add 1) = some (.int .i64 e.2.1) ∧ ∃ p n c, W.cell? ((a.add (i * 3)).add 2) = some (.slice p n c) ∧ ptsAt W (.slice p n c) e.2.2 := by
      intro i hil
      obtain ⟨cs', hc, ht⟩ := hi i (by omega)
      rw [cellsRg] at hc
      obtain ⟨_, _, hat⟩ := World.cells?_some hc
      obtain ⟨e, p, n, c, he, rfl, hp⟩ := rg_cs ht
      refine ⟨e, he, ?_, hat 1 (by omega), p, n, c, hat 2 (by omega), hp⟩
      have := hat 0 (by omega)
      simpa [Addr.add] using this
    obtain ⟨l, hll, hq⟩ := list_of' len each
    have hok : RegsOk l := fun e he => by
      obtain ⟨i, hi'⟩ := List.getElem?_of_mem he
      exact (hq i e hi').1
    refine ⟨l, ?_, hok, hll⟩
    subst hll
    by_cases hne : l = []
    · subst hne; exact .inl ⟨rfl, _, _, rfl⟩
    · have hlp : 0 < l.length := List.length_pos_iff.2 hne
      have h00 := (hq 0 l[0] (by simp [hlp])).2.1
      have hsp := World.cell?_spot h00
      have hlt := World.block_lt_of_cell? W _ h00
      obtain ⟨b, off, spot⟩ := a
      have hspot : spot = none := by simpa [Addr.add] using hsp
      subst hspot
      refine .inr ⟨b, off, _, rfl, by simpa [Addr.add] using hlt, fun i hi => ?_⟩
      have hpt : rg l i = l[i] := by unfold rg; rw [List.getD_eq_getElem?_getD, List.getElem?_eq_getElem hi]; rfl
      rw [hpt]
      obtain ⟨_, q1, q2, p, n, c, q3, q4⟩ := hq i l[i] (List.getElem?_eq_getElem hi)
      rw [add_plain'] at q1 q2 q3
      rw [add_plain'] at q2 q3
      exact ⟨q1, q2, p, n, c, q3, q4⟩
theorem cellsQ : Tryz.prog.cellsOf 45 = 3 := by kernel_rfl
theorem cellsU : Tryz.prog.cellsOf 43 = 1 := by kernel_rfl
theorem wf_isU {n : Int} (h : (Lit.int .u64 n).wf = true) : IsU n := by
  have := bounds_u64 h
  unfold IsU
  omega
theorem qy_cs {H : Type} {enc : TypeId × Value → H} {W : World} {fuel : Nat} {cs : List Value} {x : DataW H × List MemPlace} (hf : DataW.trod enc Tryz.prog W 0 (fun _ => true) true fuel 45 cs = some x) :
    ∃ q : Qry, (Pt q.1 ∧ IsU q.2) ∧ cs = [.int .i64 q.1.1, .int .i64 q.1.2, .int .u64 q.2] := by
  obtain ⟨y0, y1, n, _, hl, h0, h1⟩ := trod_struct2 Tryz.underlying45 hf
  rw [cellsQ] at hl
  match cs, hl with
  | [c0, c1, c2], _ =>
    have e0 : DataW.trod enc Tryz.prog W 0 (fun _ => true) true n 35 [c0, c1] = some y0 := by simpa [cellsPt] using h0
    have e1 : DataW.trod enc Tryz.prog W 0 (fun _ => true) true n 43 [c2] = some y1 := by simpa [cellsU] using h1
    obtain ⟨p, hp, q0⟩ := pt_cs e0
    obtain ⟨a1, q1, _, w1⟩ := DataW.trod_int Tryz.underlying43 e1
    simp at q0 q1
    exact ⟨(p, a1), ⟨hp, wf_isU w1⟩, by rw [q0.1, q0.2, q1]⟩
theorem open_qs {H : Type} {enc : TypeId × Value → H} {W : World} {fuel : Nat} {a0 : Option Addr} {len cap : Nat} {x : DataW H × List MemPlace}
    (h : DataW.trod enc Tryz.prog W 0 (fun _ => true) true fuel 33 (Value.slice a0 len cap).cells.toList = some x) :
    ∃ l : List Qry, qsAt W (.slice a0 len cap) l ∧ QsOk l ∧ l.length = len := by
  rcases open_slice Tryz.underlying33 h with ⟨hcs, _⟩ | ⟨a, len', cap', m, n, D, Pl, hcs, _, hl, hm, hmm, _, hi⟩
  · simp [Value.cells] at hcs
    obtain ⟨rfl, rfl, rfl⟩ := hcs
    exact ⟨[], .inl ⟨rfl, _, _, rfl⟩, fun e he => by simp at he, rfl⟩
  · simp [Value.cells] at hcs
    obtain ⟨rfl, rfl, rfl⟩ := hcs
    simp only [if_true] at hmm
    subst hmm
    have each : ∀ i, i < len → ∃ e : Qry, (Pt e.1 ∧ IsU e.2) ∧ W.cell? (a.add (i * 3)) = some (.int .i64 e.1.1) ∧ W.cell? ((a.add (i * 3)).add 1) = some (.int .i64 e.1.2) ∧ W.cell? ((a.add (i * 3)).add 2) = some (.int .u64 e.2) := by
      intro i hil
      obtain ⟨cs', hc, ht⟩ := hi i (by omega)
      rw [cellsQ] at hc
      obtain ⟨_, _, hat⟩ := World.cells?_some hc
      obtain ⟨e, he, rfl⟩ := qy_cs ht
      refine ⟨e, he, ?_, hat 1 (by omega), hat 2 (by omega)⟩
      have := hat 0 (by omega)
      simpa [Addr.add] using this
    obtain ⟨l, hll, hq⟩ := list_of' len each
    have hok : QsOk l := fun e he => by
      obtain ⟨i, hi'⟩ := List.getElem?_of_mem he
      exact (hq i e hi').1
    refine ⟨l, ?_, hok, hll⟩
    subst hll
    by_cases hne : l = []
    · subst hne; exact .inl ⟨rfl, _, _, rfl⟩
    · have hlp : 0 < l.length := List.length_pos_iff.2 hne
      have h00 := (hq 0 l[0] (by simp [hlp])).2.1
      have hsp := World.cell?_spot h00
      have hlt := World.block_lt_of_cell? W _ h00
      obtain ⟨b, off, spot⟩ := a
      have hspot : spot = none := by simpa [Addr.add] using hsp
      subst hspot
      refine .inr ⟨b, off, _, rfl, by simpa [Addr.add] using hlt, fun i hi => ?_⟩
      have hpt : qy l i = l[i] := by unfold qy; rw [List.getD_eq_getElem?_getD, List.getElem?_eq_getElem hi]; rfl
      rw [hpt]
      obtain ⟨_, q1, q2, q3⟩ := hq i l[i] (List.getElem?_eq_getElem hi)
      rw [add_plain'] at q1 q2 q3
      rw [add_plain'] at q2 q3
      exact ⟨q1, q2, q3⟩
end Go.Proofs.YtmoajobnhiopiaaGreatDoor.to
set_option linter.unusedSimpArgs false
set_option linter.unusedVariables false
set_option maxRecDepth 100000
namespace Go.Proofs.YtmoajobnhiopiaaGreatDoor.to
open Go Go.RowKit Go.ChangeShapes Go.WideShapes Go.ChangeAt Go.Deep Go.Proofs.YtmoajobnhiopiaaGreatDoor.mk Go.Proofs.YtmoajobnhiopiaaGreatDoor.tp Go.Proofs.YtmoajobnhiopiaaGreatDoor.lm Go.Proofs.YtmoajobnhiopiaaGreatDoor.gm Go.Proofs.YtmoajobnhiopiaaGreatDoor.po Go.Proofs.YtmoajobnhiopiaaGreatDoor.sv
theorem laid_met_topTranslates (os : Os) : laidMet Tryz.prog Rows.topTranslatesRow.laid ((laidWorld os).forCall (fun _ _ => 0) ⟨#[], #[.slice none 0 0, .slice none 0 0, .agg #[.int .i64 0, .int .i64 0]], []⟩).memory :=
  laidMet_of_run' 8 (by kernel_rfl) (by kernel_rfl)
theorem reads_topTranslates (os : Os) {H : Type} (enc : TypeId × Value → H) : ∃ places, DataW.whole enc Tryz.prog ((laidWorld os).forCall (fun _ _ => 0) ⟨#[], #[.slice none 0 0, .slice none 0 0, .agg #[.int .i64 0, .int .i64 0]], []⟩).memory Tryz.f4.params.toList Rows.topTranslatesSpec.vars false #[Value.slice none 0 0, .slice none 0 0, .agg #[.int .i64 0, .int .i64 0]].toList 8 = some ([.nil, .nil, .agg [.lit (.int .i64 0), .lit (.int .i64 0)]], [], places) :=
  ⟨[], by kernel_rfl⟩
theorem contract_topTranslates (H : Type) (enc : TypeId × Value → H) (W : World) (base : Nat) (args : Array Value) (ds gs : List (DataW H)) (before : List MemPlace)
    (hval : ∀ (j : Nat) t v, Tryz.f4.params[j]? = some t → args[j]? = some v → Value.okWide Tryz.prog W .any base t v)
    (hW : DataW.Whole enc Tryz.prog Tryz.f4.params.toList Rows.topTranslatesSpec.vars false W args.toList ds gs before) (hL : laidMetH Tryz.prog Rows.topTranslatesRow.laid W) :
    Calls Tryz.prog 4 args W fun e W' => ∃ v, e = .returned v ∧ Rows.topTranslatesSpec.post enc Tryz.prog Tryz.f4 false true false false W args v W' := by
  have hW' := hW
  obtain ⟨p, q, hA0, hV, rfl, hfz, hnd⟩ := hW
  have hA : DataW.TrodAll enc Tryz.prog W 0 (fun _ => true) true Tryz.f4.params.toList args.toList ds p := hA0
  rw [Tryz.params4] at hA hval
  obtain ⟨v0, vs0, d0, ds0, p0, q0, hargs, rfl, rfl, h0, r0⟩ := trodAll_cons hA
  obtain ⟨v1, vs1, d1, ds1, p1, q1, rfl, rfl, rfl, h1, r1⟩ := trodAll_cons r0
  obtain ⟨v2, vs2, d2, ds2, p2, q2, rfl, rfl, rfl, h2, r2⟩ := trodAll_cons r1
  obtain ⟨rfl, rfl, rfl⟩ := trodAll_nil r2
  obtain rfl : args = #[v0, v1, v2] := by cases args; simp_all
  obtain ⟨rfl, rfl⟩ := trodVars_none hV
  clear hA0
  simp only [List.append_nil] at hW'
  have hG := gl_of hL
  have hlt0 : ∀ x ∈ p0, x.block < W.heap.size := fun x hx => by simpa using hW'.lt x (by simp [hx])
  have hk0 : ∀ (W' : World), Below W.heap.size W W' → DataW.Trod enc Tryz.prog W' 0 (fun b => decide (b < W.heap.size)) true 25 v0 d0 p0 := fun W' hn => Below.trod laidOut (by kernel_rfl) (of_decide_eq_true (by kernel_rfl)) h0 hn hlt0
  have hlt1 : ∀ x ∈ p1, x.block < W.heap.size := fun x hx => by simpa using hW'.lt x (by simp [hx])
  have hk1 : ∀ (W' : World), Below W.heap.size W W' → DataW.Trod enc Tryz.prog W' 0 (fun b => decide (b < W.heap.size)) true 33 v1 d1 p1 := fun W' hn => Below.trod laidOut (by kernel_rfl) (of_decide_eq_true (by kernel_rfl)) h1 hn hlt1
  have hlt2 : ∀ x ∈ p2, x.block < W.heap.size := fun x hx => by simpa using hW'.lt x (by simp [hx])
  have hk2 : ∀ (W' : World), Below W.heap.size W W' → DataW.Trod enc Tryz.prog W' 0 (fun b => decide (b < W.heap.size)) true 35 v2 d2 p2 := fun W' hn => Below.trod laidOut (by kernel_rfl) (of_decide_eq_true (by kernel_rfl)) h2 hn hlt2
  obtain ⟨a0, len0, cap0, rfl⟩ := okWide_slice Tryz.underlying25 (hval 0 25 v0 rfl rfl)
  obtain ⟨fuel0, hf0⟩ := h0
  obtain ⟨l0, ha0, hok0, hn0⟩ := open_regs hf0
  obtain ⟨a1, len1, cap1, rfl⟩ := okWide_slice Tryz.underlying33 (hval 1 33 v1 rfl rfl)
  obtain ⟨fuel1, hf1⟩ := h1
  obtain ⟨l1, ha1, hok1, hn1⟩ := open_qs hf1
  obtain ⟨x2, y2, wx2, wy2, rfl⟩ := open_pt (hval 2 35 v2 rfl rfl) h2
  refine (translates_calls l0 l1 (x2, y2) ⟨wx2, wy2⟩ a0 a1 len0 cap0 len1 cap1 hn0 hn1 hok0 hok1 W hG ha0 ha1).mono fun e W' he => ?_
  have hb : Below W.heap.size W W' := he.2.below (Nat.le_refl _) (fun _ _ h => h.elim)
  obtain ⟨he1, _⟩ := he
  subst he1
  refine ⟨_, rfl, _, _, _, [] ++ [], (p0 ++ (p1 ++ (p2 ++ []))), [], hW', ?_, ?_, rfl, hb.frame _, fun h => by cases h⟩
  · exact trodAll_cons_mk (shut_bool Tryz.underlying4 _) trodAll_mk0
  · exact (trodAll_cons_mk (hk0 _ hb) (trodAll_cons_mk (hk1 _ hb) (trodAll_cons_mk (hk2 _ hb) trodAll_mk0)))
theorem lifted_topTranslates (os : Os) (started : os.Started) (H : Type) (enc : TypeId × Value → H) (F : Stop.Interp) :
    ReturnsInHanded {} Tryz.checked os 4 .any ((OpenSpec.ofChange Rows.topTranslatesSpec).preRow enc Tryz.prog Tryz.f4 Rows.topTranslatesRow.domain false Rows.topTranslatesRow.laid) (((OpenSpec.ofChange Rows.topTranslatesSpec).at F).post enc Tryz.prog Tryz.f4 false true false false) := by
  obtain ⟨places, hx⟩ := reads_topTranslates os enc
  refine returnsInHanded_of_row (C := Tryz.checked) (s := OpenSpec.ofChange Rows.topTranslatesSpec) own started (by kernel_rfl) Tryz.func4
    (witness_row_at (enc := enc) (C := Tryz.checked) false (laidWorld os) #[.slice none 0 0, .slice none 0 0, .agg #[.int .i64 0, .int .i64 0]] rfl (by kernel_rfl) (by kernel_rfl) (by kernel_rfl)
      (OpenSpec.preRow_of_cond 8 hx (by kernel_rfl) (fun k hk => by cases hk) (by kernel_rfl) (laid_met_topTranslates os))) ?_
  intro W base args ds gs before hval hW _ _ _ hL _ _
  exact contract_topTranslates H enc W base args ds gs before hval hW hL
theorem said_topTranslates : Rows.TopTranslatesSaid :=
  OpenClaim.holds_of_cond 4 Tryz.f4 rfl rfl rfl rfl rfl rfl rfl ⟨rfl, rfl, rfl, rfl, rfl⟩ rfl rfl rfl rfl rfl (by kernel_rfl) Tryz.func4 (by kernel_rfl)
    (of_decide_eq_true (by kernel_rfl)) (by unfold Func.isWrapper; first | (rw [if_pos (by decide +kernel)]; kernel_rfl) | (rw [if_neg (by decide +kernel)]; exact ⟨rfl, rfl⟩))
    (fun os started H enc _ F => by rw [OpenClaim.pre_eq_preRow]; exact lifted_topTranslates os started H enc F)
theorem plain_topTranslates (f : FuncId) (fn : Func) (hf : Tryz.pinned.checked.prog.funcNamed "geofence/geofencetop.TopTranslates" = some f) (hfn : Tryz.pinned.checked.prog.funcs[f]? = some fn) :
    false = Tryz.pinned.checked.prog.looks [] ∧ ∀ (j : Nat) t, fn.params[j]? = some t → Tryz.pinned.checked.prog.wantsStandIn t = false := by
  obtain rfl : f = 4 := Option.some.inj ((show Tryz.prog.funcNamed "geofence/geofencetop.TopTranslates" = some 4 by kernel_rfl).symm.trans hf) |>.symm
  obtain rfl : fn = Tryz.f4 := (Option.some.inj (Tryz.func4.symm.trans hfn)).symm
  refine ⟨by kernel_rfl, fun j t ht => ?_⟩
  rw [Tryz.params4] at ht
  have hm := Array.mem_of_getElem? ht
  have hw : ∀ t ∈ #[25, 33, 35], Tryz.prog.wantsStandIn t = false := by
    intro t ht
    simp only [List.mem_toArray, List.mem_cons, List.not_mem_nil, or_false] at ht
    rcases ht with rfl | rfl | rfl <;> kernel_rfl
  exact hw t hm
theorem card_topTranslates : Rows.TopTranslatesCardSaid :=
  Claim7.holds_tied_plain_at .later [] _ _ _ _ said_topTranslates (fun _ h => by cases h) (by kernel_rfl) (fun _ h => by cases h) topTranslates_row_tie rfl ⟨rfl, rfl⟩ (by kernel_rfl) rfl plain_topTranslates (by kernel_rfl)
end Go.Proofs.YtmoajobnhiopiaaGreatDoor.to

import Derived.Test.YtmoajobnhiopiaaGreatDoorTsA2
import Derived.Stop.RegionWithIn
set_option linter.unusedSimpArgs false
set_option linter.unusedVariables false
namespace Go.Proofs.YtmoajobnhiopiaaGreatDoor.sv
open Go Go.RowKit Go.Shelf Go.Maps Go.Proofs.YtmoajobnhiopiaaGreatDoor.mk Go.Proofs.YtmoajobnhiopiaaGreatDoor.tp Go.Proofs.YtmoajobnhiopiaaGreatDoor.rg Go.Proofs.YtmoajobnhiopiaaGreatDoor.lm Go.Proofs.YtmoajobnhiopiaaGreatDoor.gm Go.Proofs.YtmoajobnhiopiaaGreatDoor.po
def decR (l : List Reg) (body : List Int) : List Reg := (List.range l.length).map (fun i => ((rg l i).1, (rg l i).2.1, ptsB (body.drop (16 * (totR (l.take i)).toNat)) (sizeR (rg l i).2.1).toNat))
theorem decR_length (l : List Reg) (body : List Int) : (decR l body).length = l.length := by unfold decR; simp
theorem decR_step {l : List Reg} {body : List Int} {k : Nat} (h : k < l.length) : (decR l body).take (k + 1) = (decR l body).take k ++ [((rg l k).1, (rg l k).2.1, ptsB (body.drop (16 * (totR (l.take k)).toNat)) (sizeR (rg l k).2.1).toNat)] := by
  rw [rg_take (by rw [decR_length]; exact h)]
  unfold rg decR
  rw [List.getD_eq_getElem?_getD, List.getElem?_map, List.getElem?_range h]
  rfl
def bodyB (bs : List Int) : List Int := bs.drop (parN bs)
def reqR (bs : List Int) : List Reg := decR (parH bs).rs (bodyB bs)
def reqP (bs : List Int) : List (Int × Int) := ptsB ((bodyB bs).drop (16 * (totR (parH bs).rs).toNat)) (cntP (parH bs)).toNat
def reqQ (bs : List Int) : List Qry := qsB ((bodyB bs).drop (16 * (totR (parH bs).rs).toNat + 16 * (cntP (parH bs)).toNat)) (cntQ (parH bs)).toNat
def capOk (v : Value) : Prop := ∀ a n c, v = .slice a n c → n ≤ c
theorem row_cap {w : World} {base n size k c : Nat} {e : TypeId} {a : Option Addr} {xs : List Value} (h : w.ownsRow base e size (.slice a k c) n xs) : capOk (.slice a k c) := by
  intro a' n' c' he
  injection he with h1 h2 h3
  subst h2
  subst h3
  rcases h.2 with ⟨h4, _⟩ | ⟨g, cap, cur, h4, _, _, h5, _⟩
  · injection h4 with _ h6 h7; omega
  · injection h4 with _ h6 h7; omega
def RqAt (w : World) (v : Value) (h : Hd) (rs : List Reg) (ps : List (Int × Int)) (qs : List Qry) : Prop :=
  ∃ ah ch vr vp vq, v = .agg #[.int .i64 h.op, .int .i64 h.vt, .slice ah h.rs.length ch, .int .i64 h.pts, vr, vp, vq] ∧ regsAt w (.slice ah h.rs.length ch) h.rs ∧ (h.rs = [] → ah = none ∧ ch = 0) ∧ regsAt w vr rs ∧ ptsAt w vp ps ∧ qsAt w vq qs ∧ capOk vp
theorem RqAt.kept {w w' : World} {v : Value} {h : Hd} {rs : List Reg} {ps : List (Int × Int)} {qs : List Qry} (hv : RqAt w v h rs ps qs) (hk : Keeps (fun _ => False) w w') : RqAt w' v h rs ps qs := by
  obtain ⟨ah, ch, vr, vp, vq, h1, h2, h3, h4, h5, h6, h7⟩ := hv
  exact ⟨ah, ch, vr, vp, vq, h1, h2.kept hk, h3, h4.kept hk, h5.kept hk, h6.kept hk, h7⟩
theorem pts_off {w w' : World} {v : Value} {l : List (Int × Int)} {S : Nat → Prop} (h : ptsAt w v l) (hk : Keeps S w w') (hS : ∀ b, v.ownBlock = some b → ¬ S b) : ptsAt w' v l := by
  rcases h with h | ⟨b, off, cap, hv, hb, hc⟩
  · exact .inl h
  · have hb' : ¬ S b := hS b (by rw [hv]; rfl)
    have k : ∀ i, w'.cell? ⟨b, i, none⟩ = w.cell? ⟨b, i, none⟩ := fun i => hk.cell (p := ⟨b, i, none⟩) hb hb'
    exact .inr ⟨b, off, cap, hv, Nat.lt_of_lt_of_le hb hk.size, fun i hi => ⟨(k _).trans (hc i hi).1, (k _).trans (hc i hi).2⟩⟩
theorem qs_off {w w' : World} {v : Value} {l : List Qry} {S : Nat → Prop} (h : qsAt w v l) (hk : Keeps S w w') (hS : ∀ b, v.ownBlock = some b → ¬ S b) : qsAt w' v l := by
  rcases h with h | ⟨b, off, cap, hv, hb, hc⟩
  · exact .inl h
  · have hb' : ¬ S b := hS b (by rw [hv]; rfl)
    have k : ∀ i, w'.cell? ⟨b, i, none⟩ = w.cell? ⟨b, i, none⟩ := fun i => hk.cell (p := ⟨b, i, none⟩) hb hb'
    exact .inr ⟨b, off, cap, hv, Nat.lt_of_lt_of_le hb hk.size, fun i hi => ⟨(k _).trans (hc i hi).1, (k _).trans (hc i hi).2.1, (k _).trans (hc i hi).2.2⟩⟩
theorem row_off {w w' : World} {base n size : Nat} {e : TypeId} {v : Value} {xs : List Value} {S : Nat → Prop} (h : w.ownsRow base e size v n xs) (hk : Keeps S w w') (hS : ∀ b, v.ownBlock = some b → ¬ S b) : w'.ownsRow base e size v n xs := by
  refine ⟨h.1, ?_⟩
  rcases h.2 with h0 | ⟨g, cap, cur, he, h1, h2, h3⟩
  · exact .inl h0
  · exact .inr ⟨g, cap, cur, he, h1, (hk.block g (Array.getElem?_eq_some_iff.1 h2).1 (hS g (by rw [he]; rfl))).trans h2, h3⟩
def rcvl (L : List (Reg × Value)) : List Value := L.flatMap fun x => [.bool x.1.1, .int .i64 x.1.2.1, x.2]
theorem rcvl_get (L : List (Reg × Value)) : ∀ (i : Nat) (x : Reg × Value), L[i]? = some x → (rcvl L)[i * 3]? = some (.bool x.1.1) ∧ (rcvl L)[i * 3 + 1]? = some (.int .i64 x.1.2.1) ∧ (rcvl L)[i * 3 + 2]? = some x.2 := by
  induction L with
  | nil => intro i x h; simp at h
  | cons d L ih =>
    intro i x h
    have e : rcvl (d :: L) = Value.bool d.1.1 :: .int .i64 d.1.2.1 :: d.2 :: rcvl L := rfl
    rw [e]
    cases i with
    | zero => simp at h; subst h; exact ⟨rfl, rfl, rfl⟩
    | succ i =>
      have h' := ih i x (by simpa using h)
      rw [show (i + 1) * 3 = i * 3 + 1 + 1 + 1 by omega]
      exact h'
def RowsAt (w : World) (base : Nat) (v : Value) (l : List Reg) (n : Nat) : Prop := n = l.length ∧ ∃ L : List (Reg × Value), L.map Prod.fst = l ∧ w.ownsRow base 40 3 v n (rcvl L) ∧
  ∀ x ∈ L, (∃ a k c, x.2 = .slice a k c) ∧ ptsAt w x.2 x.1.2.2 ∧ ∀ b, x.2.ownBlock = some b → b < w.heap.size ∧ base ≤ b ∧ v.ownBlock ≠ some b
theorem RowsAt.nil (w : World) (base : Nat) : RowsAt w base (.slice none 0 0) [] 0 := ⟨rfl, [], rfl, World.ownsRow_nil w base _ _, fun x hx => by cases hx⟩
theorem RowsAt.off {w w' : World} {base n : Nat} {v : Value} {l : List Reg} {S : Nat → Prop} (h : RowsAt w base v l n) (hk : Keeps S w w') (hS : ∀ b, base ≤ b → b < w.heap.size → ¬ S b) : RowsAt w' base v l n := by
  obtain ⟨h1, L, h2, h3, h4⟩ := h
  refine ⟨h1, L, h2, row_off h3 hk (fun b hb => hS b (h3.lt b hb).1 (h3.lt b hb).2), fun x hx => ?_⟩
  obtain ⟨k1, k2, k3⟩ := h4 x hx
  exact ⟨k1, pts_off k2 hk (fun b hb => hS b (k3 b hb).2.1 (k3 b hb).1), fun b hb => ⟨Nat.lt_of_lt_of_le (k3 b hb).1 hk.size, (k3 b hb).2.1, (k3 b hb).2.2⟩⟩
theorem RowsAt.snoc {w w' : World} {base n : Nat} {v v' pv : Value} {l : List Reg} {r : Reg} {L : List (Reg × Value)} (hn : n = l.length) (hL : L.map Prod.fst = l)
    (h4 : ∀ x ∈ L, (∃ a k c, x.2 = .slice a k c) ∧ ptsAt w x.2 x.1.2.2 ∧ ∀ b, x.2.ownBlock = some b → b < w.heap.size ∧ base ≤ b ∧ v.ownBlock ≠ some b)
    (hr : w'.ownsRow base 40 3 v' (n + 1) (rcvl L ++ [.bool r.1, .int .i64 r.2.1, pv])) (hk : Keeps (fun j => some j = v.ownBlock) w w') (hat : v'.ownBlock = v.ownBlock ∨ ∃ j, v'.ownBlock = some j ∧ w.heap.size ≤ j)
    (hs : ∃ a k c, pv = .slice a k c) (hp : ptsAt w pv r.2.2) (hb : ∀ b, pv.ownBlock = some b → b < w.heap.size ∧ base ≤ b ∧ v.ownBlock ≠ some b) : RowsAt w' base v' (l ++ [r]) (n + 1) := by
  have hne : ∀ u : Value, (∀ b, u.ownBlock = some b → b < w.heap.size ∧ base ≤ b ∧ v.ownBlock ≠ some b) → ∀ b, u.ownBlock = some b → b < w'.heap.size ∧ base ≤ b ∧ v'.ownBlock ≠ some b := by
    intro u hu b hub
    obtain ⟨k1, k2, k3⟩ := hu b hub
    refine ⟨Nat.lt_of_lt_of_le k1 hk.size, k2, ?_⟩
    rcases hat with h | ⟨j, h, hj⟩
    · rw [h]; exact k3
    · rw [h]; intro he; injection he with he; omega
  refine ⟨by rw [List.length_append]; simp; omega, L ++ [(r, pv)], by rw [List.map_append, hL]; rfl, ?_, fun x hx => ?_⟩
  · rw [show rcvl (L ++ [(r, pv)]) = rcvl L ++ [.bool r.1, .int .i64 r.2.1, pv] by unfold rcvl; rw [List.flatMap_append]; rfl]
    exact hr
  · rcases List.mem_append.1 hx with hx | hx
    · obtain ⟨k1, k2, k3⟩ := h4 x hx
      exact ⟨k1, pts_off k2 hk (fun b hb he => (k3 b hb).2.2 he.symm), hne _ k3⟩
    · rw [List.mem_singleton.1 hx]
      exact ⟨hs, pts_off hp hk (fun b hb' he => (hb b hb').2.2 he.symm), hne _ hb⟩
theorem RowsAt.regs {w : World} {base n : Nat} {v : Value} {l : List Reg} (h : RowsAt w base v l n) : regsAt w v l := by
  obtain ⟨rfl, L, hL, h3, h4⟩ := h
  rcases id h3.2 with ⟨rfl, h0⟩ | ⟨g, cap, cur, rfl, hb, hg, hle, hcap, hcur, htake⟩
  · have e := List.eq_nil_of_length_eq_zero h0
    subst e
    exact .inl ⟨rfl, none, 0, rfl⟩
  · refine .inr ⟨g, 0, cap, rfl, (Array.getElem?_eq_some_iff.1 hg).1, fun i hi => ?_⟩
    have hlL : L.length = l.length := by rw [← hL, List.length_map]
    have hx : L[i]? = some L[i] := List.getElem?_eq_getElem (by omega)
    have hge := rcvl_get L i _ hx
    have hrg : rg l i = (L[i]'(by omega)).1 := by
      have e : l[i]? = (L.map Prod.fst)[i]? := by rw [hL]
      unfold rg
      rw [List.getD_eq_getElem?_getD, e, List.getElem?_map, hx]
      rfl
    obtain ⟨⟨a, k, c, hv⟩, hp, _⟩ := h4 _ (List.getElem_mem (show i < L.length by omega))
    rw [hv] at hp
    rw [Nat.zero_add, hrg]
    refine ⟨(h3.cellAt (i * 3) (by omega)).trans hge.1, (h3.cellAt (i * 3 + 1) (by omega)).trans hge.2.1, a, k, c, ?_, hp⟩
    rw [← hv]
    exact (h3.cellAt (i * 3 + 2) (by omega)).trans hge.2.2
theorem wpList_append_at {P : Program} {w : World} {ops : Array Oper} {rest : List Oper} {o : Oper} {a : Act} {Q : Exit → Act → World → Prop} (hgd : o.guard = none) (s x : Operand) (t : TypeId)
    (ho : o.op = .call { callee := .builtin .append, args := #[s, x], argTypes := #[t, t] })
    (base : Nat) (e : TypeId) (i : TypeInfo) (z : Value) (size bytes : Nat) (ht : P.underlying t = some (.slice e)) (hi : P.info? e = some i) (hz : i.zero = some z)
    (hsize : i.size = size) (hby : i.bytes = bytes) (hzs : z.cells.size = size) (hsz : 0 < size)
    (v : Value) (n : Nat) (xs : List Value) (hs : a.eval s = v) (hown : w.ownsRow base e size v n xs)
    (ao : Option Addr) (m c : Nat) (news : List Value) (hx : a.eval x = .slice ao m c) (hnone : ao = none → m = 0 ∧ c = 0) (hl : news.length = m * size) (hnews : ∀ ad, ao = some ad → ∀ j u, news[j]? = some u → w.cell? (ad.add j) = some u) (h1 : ∀ u ∈ news, u.oneCell' = true)
    (h63 : n + m ≤ maxLen) (hbytes : (n + m) * bytes ≤ 140737488355328) (hbase : base ≤ w.heap.size)
    (h : ∀ v' w', w'.ownsRow base e size v' (n + m) (xs ++ news) → w.grownBy w' v.ownBlock → (v'.ownBlock = v.ownBlock ∨ v'.ownBlock = some w.heap.size) → wpList P ops Q rest (a.put o.dst v') w') : wpList P ops Q (o :: rest) a w :=
  wpList_plain hgd fun K hK => wp_append_atW s x t ho base e i z size bytes ht hi hz hsize hby hzs hsz v n xs hs hown ao m c news hx hnone hl hnews h1 h63 hbytes hbase fun v' w' h2 h3 h4 => hK _ _ (h v' w' h2 h3 h4)
set_option maxRecDepth 100000 in
set_option maxHeartbeats 4000000 in
theorem decode_bad (v : Value) (bs : List Int) (w : World) (hG : Gl w) (hv : byAt w v bs) (hE : clsE bs ≠ 0) : Calls Tryz.prog 60 #[v] w fun e w' => e = .returned (.tuple #[.agg #[.int .i64 0, .int .i64 0, .slice none 0 0, .int .i64 0, .slice none 0 0, .slice none 0 0, .slice none 0 0], .int .i64 (clsE bs)]) ∧ Keeps (fun _ => False) w w' := by
  have HC := Lib.hid (fun W (hk : Keeps (fun _ => False) w W) => classify_calls v bs W (hG.kept hk) (hv.kept hk))
  obtain ⟨ao, cp, rfl⟩ : ∃ ao cp, v = .slice ao bs.length cp := by
    rcases hv.2 with ⟨rfl, ao, cap, rfl⟩ | ⟨b, off, cap, rfl, _⟩
    · exact ⟨ao, cap, rfl⟩
    · exact ⟨_, _, rfl⟩
  clear hv hG
  generalize clsE bs = q at HC hE ⊢
  generalize bs.length = n at HC ⊢
  have hq1 : (q == 0) = false := by simp [hE]
  have hq2 : (q != 0) = true := by simp [hE]
  clear hE
  go_enter Tryz.func60, Tryz.ntmps60
  go_upto_region 1 with fail
  obtain ⟨w0, hw0⟩ : ∃ w0, w.alloc (.cells #[.int .i64 0, .int .i64 0, .slice none 0 0, .int .i64 0, .slice none 0 0, .slice none 0 0, .slice none 0 0] 105) = w0 := ⟨_, rfl⟩
  have hg0 := heap_alloc_new w (.cells #[.int .i64 0, .int .i64 0, .slice none 0 0, .int .i64 0, .slice none 0 0, .slice none 0 0, .slice none 0 0] 105)
  have hk0 : Keeps (fun _ => False) w w0 := by rw [← hw0]; exact (Keeps.refl _ w).alloc _
  rw [hw0] at hg0 ⊢
  clear hw0
  have hl0 : w.heap.size < w0.heap.size := (Array.getElem?_eq_some_iff.1 hg0).1
  have HG0 := Lib.hid hg0
  clear hg0
  go_wp2_with fail
  refine (HC.out w0 hk0).mono ?_; rintro e w1 ⟨rfl, hk1⟩
  have hg1 := (hk1.block _ hl0 (fun h => h)).trans HG0.out
  have e0 := two_frozen hg1 0
  have e1 := two_frozen hg1 1
  have e2 := two_frozen hg1 2
  have e3 := two_frozen hg1 3
  have e4 := two_frozen hg1 4
  have e5 := two_frozen hg1 5
  have e6 := two_frozen hg1 6
  have f0 := cells_at hg1 0
  have f1 := cells_at hg1 1
  have f2 := cells_at hg1 2
  have f3 := cells_at hg1 3
  have f4 := cells_at hg1 4
  have f5 := cells_at hg1 5
  have f6 := cells_at hg1 6
  have HG1 := Lib.hid hg1
  clear hg1
  go_wp2_with fail
  exact bodyPost_ret (results_req rfl _ _ _ _ _ _ _ _ _ _ _ _ rfl (cells_seven HG1.out)) rfl ⟨rfl, keeps_seven (knil hk0 hk1) (Nat.le_refl _) _ _ _ _ _ _ _⟩
theorem clsE_zero {bs : List Int} (h : clsE bs = 0) : parE bs = 0 ∧ (bs.length : Int) = parN bs + payH (parH bs) := by
  unfold clsE at h
  by_cases h1 : parE bs = 0 ∧ (bs.length : Int) ≠ parN bs + payH (parH bs)
  · rw [if_pos h1] at h; omega
  · rw [if_neg h1] at h
    refine ⟨h, ?_⟩
    by_cases h2 : (bs.length : Int) = parN bs + payH (parH bs)
    · exact h2
    · exact absurd ⟨h, h2⟩ h1
theorem payH_parts {h : Hd} (ho : HdOk h) : payH h = 16 * totR h.rs + 16 * cntP h + 24 * cntQ h ∧ 0 ≤ cntP h ∧ cntP h ≤ 65 ∧ 0 ≤ cntQ h ∧ cntQ h ≤ 4096 ∧ 0 < payH h := by
  have hB := totR_bound h.rs
  unfold payH cntP cntQ
  rcases ho with ⟨h1 | h1, h2, h3, h4⟩ | ⟨h1, ⟨h2, h2'⟩, h3, h4⟩ | ⟨⟨h1, h4⟩ | ⟨h1, h4, h4'⟩, h2, ⟨h3, h3'⟩, h5, h6⟩ <;> rw [h1] <;> (try rw [h3]) <;> (try simp [totR]) <;> (try omega)
theorem totR_take (l : List Reg) (k : Nat) : totR (l.take k) ≤ totR l := by
  have h := totR_append (l.take k) (l.drop k)
  rw [List.take_append_drop] at h
  have := (totR_bound (l.drop k)).1
  omega
theorem hdOk_empty {h : Hd} (ho : HdOk h) : ∀ r ∈ h.rs, r.2.2 = [] := by
  have e : h.rs.any holdsR = false := by
    rcases ho with ⟨_, _, h3, _⟩ | ⟨_, _, h3, _⟩ | ⟨_, _, _, _, h6⟩
    · rw [h3]; rfl
    · rw [h3]; rfl
    · exact h6
  intro r hr
  have h1 := List.any_eq_false.1 e r hr
  unfold holdsR at h1
  simp at h1
  exact h1
theorem rg_mem {l : List Reg} {i : Nat} (h : i < l.length) : rg l i ∈ l := by
  unfold rg
  rw [List.getD_eq_getElem?_getD, List.getElem?_eq_getElem h]
  exact List.getElem_mem h
theorem regs_off {w w' : World} {v : Value} {l : List Reg} {S : Nat → Prop} (h : regsAt w v l) (he : ∀ r ∈ l, r.2.2 = []) (hk : Keeps S w w') (hS : ∀ b, v.ownBlock = some b → ¬ S b) : regsAt w' v l := by
  rcases h with h | ⟨b, off, cap, hv, hb, hc⟩
  · exact .inl h
  · have hb' : ¬ S b := hS b (by rw [hv]; rfl)
    refine .inr ⟨b, off, cap, hv, Nat.lt_of_lt_of_le hb hk.size, fun i hi => ?_⟩
    have k : ∀ i, w'.cell? ⟨b, i, none⟩ = w.cell? ⟨b, i, none⟩ := fun i => hk.cell (p := ⟨b, i, none⟩) hb hb'
    obtain ⟨h1, h2, ao, n, c, h3, h4⟩ := hc i hi
    refine ⟨(k _).trans h1, (k _).trans h2, ao, n, c, (k _).trans h3, ?_⟩
    obtain ⟨ao', c', h5⟩ := ptsAt.shape h4
    have hnil := he _ (rg_mem hi)
    rw [hnil] at h4 h5 ⊢
    exact .inl ⟨rfl, ao', c', h5⟩
theorem regC_off {w w' : World} {b off : Nat} {r : Reg} {S : Nat → Prop} (hb : b < w.heap.size) (h : regC w b off r) (hk : Keeps S w w') (hS : ¬ S b) : w'.cell? ⟨b, off, none⟩ = some (.bool r.1) ∧ w'.cell? ⟨b, off + 1, none⟩ = some (.int .i64 r.2.1) ∧ ∃ ao n c, w'.cell? ⟨b, off + 2, none⟩ = some (.slice ao n c) := by
  obtain ⟨h1, h2, ao, n, c, h3, _⟩ := h
  have k : ∀ i, w'.cell? ⟨b, i, none⟩ = w.cell? ⟨b, i, none⟩ := fun i => hk.cell (p := ⟨b, i, none⟩) hb hS
  exact ⟨(k _).trans h1, (k _).trans h2, ao, n, c, (k _).trans h3⟩
set_option maxRecDepth 100000 in
set_option maxHeartbeats 8000000 in
theorem decode_good (v : Value) (bs : List Int) (w : World) (hG : Gl w) (hv : byAt w v bs) (hE : clsE bs = 0) : Calls Tryz.prog 60 #[v] w fun e w' => (∃ v', e = .returned (.tuple #[v', .int .i64 0]) ∧ RqAt w' v' (parH bs) (reqR bs) (reqP bs) (reqQ bs)) ∧ Keeps (fun _ => False) w w' := by
  obtain ⟨i0, hi, hz0, hz1, hz2⟩ := info_parts infoR
  obtain ⟨hpE, hlen⟩ := clsE_zero hE
  have ho := hdOk_parse hpE
  obtain ⟨hpay, hp0, hp1, hq0, hq1, hpp⟩ := payH_parts ho
  have hB := totR_bound (parH bs).rs
  have hnl := parN_le hpE
  rw [hpay] at hlen hpp
  have HC := Lib.hid (fun W (hk : Keeps (fun _ => False) w W) => classify_calls v bs W (hG.kept hk) (hv.kept hk))
  have HPC := Lib.hid (fun W (hk : Keeps (fun _ => False) w W) => parse_calls v bs W (hv.kept hk))
  rw [hE] at HC
  rw [hpE] at HPC
  have hbs := hv.1
  obtain ⟨b, off, cap, rfl, hcap, hb, hc⟩ : ∃ b off cap, v = .slice (some ⟨b, off, none⟩) bs.length cap ∧ bs.length ≤ cap ∧ b < w.heap.size ∧ ∀ i, i < bs.length → w.cell? ⟨b, off + i, none⟩ = some (.int .u8 (bt bs i)) := by
    rcases hv.2 with ⟨rfl, _⟩ | h
    · simp at hnl; omega
    · exact h
  have hbody : BytesAt w b (off + parN bs) (bodyB bs) := BytesAt.drop ⟨hb, hbs, hc⟩ (parN bs)
  have hbl : (bodyB bs).length = bs.length - parN bs := by unfold bodyB; rw [List.length_drop]
  unfold reqR reqP reqQ
  generalize parN bs = at0 at HPC hlen hnl hbody hbl
  generalize parH bs = h at HPC ho hlen hp0 hp1 hq0 hq1 hB hpp ⊢
  generalize bodyB bs = body at hbody hbl ⊢
  generalize bs.length = n at HC HPC hlen hnl hbl hcap
  obtain ⟨T, hT⟩ : ∃ T : Nat, totR h.rs = T := ⟨(totR h.rs).toNat, by omega⟩
  obtain ⟨NP, hNP⟩ : ∃ N : Nat, cntP h = N := ⟨(cntP h).toNat, by omega⟩
  obtain ⟨NQ, hNQ⟩ : ∃ N : Nat, cntQ h = N := ⟨(cntQ h).toNat, by omega⟩
  rw [hT, hNP, hNQ] at hlen hpp
  rw [hNP] at hp0 hp1
  rw [hNQ] at hq0 hq1
  rw [hT, hNP, hNQ]
  simp only [Int.toNat_natCast]
  have HCT := Lib.hid (fun v w (hv : HdAt w v h) => counts_calls v h ho w hv)
  rw [hNP, hNQ] at HCT
  have hbl2 : body.length = 16 * T + 16 * NP + 24 * NQ := by omega
  have hat0 : at0 < n := by omega
  have hatc : at0 < cap := by omega
  have hatI : (at0 : Int) ≤ (n : Int) := by omega
  have hatJ : (at0 : Int) ≤ (cap : Int) := by omega
  have hat1 : ¬ at0 = cap := by omega
  have hneg : (0 : Int) ≤ (at0 : Int) := by omega
  have hTT := Lib.hid hT
  have HO := Lib.hid ho
  have HBY := Lib.hid hbody
  obtain ⟨K, hK⟩ : ∃ K, h.rs.length = K := ⟨_, rfl⟩
  have hK64 : K ≤ 64 := by
    rcases ho with ⟨_, _, h3, _⟩ | ⟨_, _, h3, _⟩ | ⟨_, _, ⟨_, h3⟩, _⟩
    · rw [h3] at hK; simp at hK; omega
    · rw [h3] at hK; simp at hK; omega
    · omega
  have HK := Lib.hid hK
  clear hE hpE ho hv hc hG hbs hbody hNP hNQ hpay hT hB hK
  go_enter Tryz.func60, Tryz.ntmps60
  go_upto_region 1 with fail
  obtain ⟨w0, hw0⟩ : ∃ w0, w.alloc (.cells #[.int .i64 0, .int .i64 0, .slice none 0 0, .int .i64 0, .slice none 0 0, .slice none 0 0, .slice none 0 0] 105) = w0 := ⟨_, rfl⟩
  have hg0 := heap_alloc_new w (.cells #[.int .i64 0, .int .i64 0, .slice none 0 0, .int .i64 0, .slice none 0 0, .slice none 0 0, .slice none 0 0] 105)
  have hk0 : Keeps (fun _ => False) w w0 := by rw [← hw0]; exact (Keeps.refl _ w).alloc _
  rw [hw0] at hg0 ⊢
  clear hw0
  have hl0 : w.heap.size < w0.heap.size := (Array.getElem?_eq_some_iff.1 hg0).1
  have HG0 := Lib.hid hg0
  clear hg0
  go_wp2_with fail
  refine (HC.out w0 hk0).mono ?_; rintro e w1 ⟨rfl, hk1⟩
  have hk01 := knil hk0 hk1
  go_wp2_with fail
  refine (HPC.out w1 hk01).mono ?_; rintro e w2 ⟨⟨hv, rfl, hh, hfr⟩, hk2⟩
  have hk02 := knil hk01 hk2
  obtain ⟨ah, ch, rfl, hr, hz⟩ := hh
  rw [HK.out] at hr hfr ⊢
  have HRS := Lib.hid hr
  have HZ := Lib.hid hz
  have HFR := Lib.hid (fun a (ha : ah = some a) => hfr (.int .i64 h.op) (.int .i64 h.vt) a K ch (.int .i64 h.pts) (by rw [ha]))
  clear hr hz hfr
  obtain ⟨xo, hxo⟩ : ∃ xo, h.op = xo := ⟨_, rfl⟩
  obtain ⟨xv, hxv⟩ : ∃ xv, h.vt = xv := ⟨_, rfl⟩
  obtain ⟨xp, hxp⟩ : ∃ xp, h.pts = xp := ⟨_, rfl⟩
  rw [hxo, hxv, hxp]
  have HXX := Lib.hid (And.intro hxo (And.intro hxv hxp))
  clear hxo hxv hxp
  go_upto_region 7 with fail
  obtain ⟨w3, hw3⟩ : ∃ w3, ((w2.alloc (.cells #[.int .i64 xo, .int .i64 xv, .slice ah K ch, .int .i64 xp] 27)).alloc (.cells #[.int .i64 xo, .int .i64 xv, .slice ah K ch, .int .i64 xp, .slice none 0 0, .slice none 0 0, .slice none 0 0] 105)).alloc (.cells #[.slice (some ⟨b, off + at0, none⟩) (n - at0) (cap - at0)] 144) = w3 := ⟨_, rfl⟩
  obtain ⟨q, hq⟩ : ∃ q, w2.heap.size = q := ⟨_, rfl⟩
  have hg := heap3 w2 (.cells #[.int .i64 xo, .int .i64 xv, .slice ah K ch, .int .i64 xp] 27) (.cells #[.int .i64 xo, .int .i64 xv, .slice ah K ch, .int .i64 xp, .slice none 0 0, .slice none 0 0, .slice none 0 0] 105) (.cells #[.slice (some ⟨b, off + at0, none⟩) (n - at0) (cap - at0)] 144)
  have hk3 : Keeps (fun _ => False) w2 w3 := by rw [← hw3]; exact (((Keeps.refl _ w2).alloc _).alloc _).alloc _
  rw [hw3, hq] at hg
  have hsz3 : w3.heap.size = q + 3 := by rw [← hw3, ← hq]; simp
  have hqq : w0.heap.size ≤ q := by rw [← hq]; exact (knil hk1 hk2).size
  have HQ2 := Lib.hid hq
  rw [hw3]
  try rw [hq]
  clear hw3 hq
  obtain ⟨g0, g1, g2⟩ := hg
  have hk03 := knil hk02 hk3
  have HB3 := Lib.hid (HBY.out.kept hk03 (fun h => h))
  have hbq : b < q := by rw [← HQ2.out]; exact Nat.lt_of_lt_of_le hb hk02.size
  have HRD := Lib.hid (show RdAt w3 (q + 1 + 1) b (off + at0 + 16 * (totR (h.rs.take 0)).toNat) (16 * (T - (totR (h.rs.take 0)).toNat) + (16 * NP + 24 * NQ)) from ⟨some ⟨b, off + at0, none⟩, cap - at0, by rw [show n - at0 = 16 * (T - (totR (h.rs.take 0)).toNat) + (16 * NP + 24 * NQ) by simp [totR]; omega] at g2; exact g2, by simp [totR]; omega, fun _ => by simp [totR]⟩)
  have HRC := Lib.hid (fun k (hk : k < K) => show ∃ bh oh, ah = some ⟨bh, oh, none⟩ ∧ bh < q ∧ regC w3 bh (oh + k * 3) (rg h.rs k) by
    rcases HRS.out with ⟨h0, _⟩ | ⟨bh, oh, cc, he, hbh, hcc⟩
    · rw [← HK.out, h0] at hk; simp at hk
    · injection he with h1 h2 h3
      refine ⟨bh, oh, h1, by rw [← HQ2.out]; exact hbh, ?_⟩
      exact (hcc k (by rw [HK.out]; exact hk)).kept hbh hk3)
  have HTL := Lib.hid (totR_take h.rs)
  have c0 := cells_at g0 0
  have c1 := cells_at g0 1
  have c2 := cells_at g0 2
  have c3 := cells_at g0 3
  have G0 := Lib.hid g0
  have G1 := Lib.hid g1
  clear g0 g1 g2
  go_wp2_with fail
  go_loopw [11, 36] (fun _ i wr => ∃ k : Nat, k ≤ K ∧ i = .int .i64 k ∧ ∃ vr : Value, wr.heap[q + 1]? = some (.cells #[.int .i64 xo, .int .i64 xv, .slice ah K ch, .int .i64 xp, vr, .slice none 0 0, .slice none 0 0] 105 (0, 0)) ∧ RowKit.Hid (RowsAt wr (q + 3) vr ((decR h.rs body).take k) k) ∧ RowKit.Hid (RdAt wr (q + 1 + 1) b (off + at0 + 16 * (totR (h.rs.take k)).toNat) (16 * (T - (totR (h.rs.take k)).toNat) + (16 * NP + 24 * NQ))) ∧ RowKit.Hid (Keeps (fun j => j = q + 1 ∨ j = q + 1 + 1) w3 wr)) (fun _ i _ => K - (intOf i).toNat)
  case atStart => exact ⟨0, Nat.zero_le _, rfl, _, G1.out, Lib.hid (by rw [List.take_zero]; exact RowsAt.nil _ _), HRD, Lib.hid (Keeps.refl _ _)⟩
  case round =>
    clear c0 c1 c2 c3 G1 HRD
    obtain ⟨k, hk, rfl, vr, hg1, HR, HRD, HW⟩ := hrel
    by_cases hkl : k < K
    · have hkI : (k : Int) < (K : Int) := by omega
      have hk0 : (0 : Int) ≤ (k : Int) := by omega
      obtain ⟨bh, oh, rfl, hbh, hrc⟩ := HRC.out k hkl
      obtain ⟨e0, e1, ao', n', c', e2⟩ := regC_off (by omega) hrc HW.out (by show ¬ (bh = q + 1 ∨ bh = q + 1 + 1); omega)
      obtain ⟨d, hd⟩ : ∃ d, (rg h.rs k).1 = d := ⟨_, rfl⟩
      obtain ⟨m, hm⟩ : ∃ m, (rg h.rs k).2.1 = m := ⟨_, rfl⟩
      rw [hd] at e0
      rw [hm] at e1
      have HD := Lib.hid hd
      have HM := Lib.hid hm
      have HG1 := Lib.hid hg1
      have hq1l : q + 1 < wr.heap.size := (Array.getElem?_eq_some_iff.1 hg1).1
      have hq2l : q + 1 + 1 < wr.heap.size := by have := HW.out.size; omega
      clear hrc hd hm hg1
      go_upto_region 10 with fail
      obtain ⟨gb, hgb⟩ : ∃ gb, wr.heap.size = gb := ⟨_, rfl⟩
      obtain ⟨wa, hwa⟩ : ∃ wa, wr.alloc (.cells #[.bool d, .int .i64 m, .slice ao' n' c'] 40) = wa := ⟨_, rfl⟩
      have hga := heap_alloc_new wr (.cells #[.bool d, .int .i64 m, .slice ao' n' c'] 40)
      have hka : Keeps (fun _ => False) wr wa := by rw [← hwa]; exact (Keeps.refl _ wr).alloc _
      rw [hwa, hgb] at hga
      rw [hwa]
      try rw [hgb]
      rw [hgb] at hq1l hq2l
      have HGB := Lib.hid hgb
      clear hwa hgb e0 e1 e2
      have c0 := cells_at hga 0
      have c1 := cells_at hga 1
      have c2 := cells_at hga 2
      have HGA := Lib.hid hga
      clear hga
      go_wp2_with fail
      refine (size_calls _ _ _ _ _ _).mono ?_; rintro e wb ⟨rfl, hkb⟩
      have hsb := sizeR_bound m
      obtain ⟨s, hs⟩ : ∃ s : Nat, sizeR m = s := ⟨(sizeR m).toNat, by omega⟩
      rw [hs] at hsb ⊢
      have hkab := knil hka hkb
      have HS := Lib.hid hs
      obtain ⟨tk, htk⟩ : ∃ tk : Nat, totR (h.rs.take k) = tk := ⟨(totR (h.rs.take k)).toNat, by have := (totR_bound (h.rs.take k)).1; omega⟩
      have htk1 : totR (h.rs.take (k + 1)) = ((tk + s : Nat) : Int) := by rw [totR_step (by rw [HK.out]; exact hkl), HM.out, hs, htk]; rfl
      have htT : tk + s ≤ T := by have h1 := HTL.out (k + 1); rw [htk1, hTT.out] at h1; omega
      have hrdb := HRD.out.kept hkab (fun h => h)
      rw [htk, Int.toNat_natCast, show 16 * (T - tk) + (16 * NP + 24 * NQ) = 16 * s + (16 * (T - (tk + s)) + (16 * NP + 24 * NQ)) by omega] at hrdb
      have HRDB := Lib.hid hrdb
      have HBB := Lib.hid (((HB3.out.kept HW.out (by show ¬ (b = q + 1 ∨ b = q + 1 + 1); omega)).kept hkab (fun h => h)).drop (16 * tk))
      have HTK := Lib.hid htk
      have HTK1 := Lib.hid htk1
      have hsbn := hkb.size
      have hsan := hka.size
      have hga1 : gb < wa.heap.size := (Array.getElem?_eq_some_iff.1 HGA.out).1
      clear c0 c1 c2 hs htk htk1 hrdb
      go_wp2_with fail
      refine (take_calls (q + 1 + 1) b (off + at0 + 16 * tk) _ s (body.drop (16 * tk)) (by omega) (by rw [List.length_drop]; omega) wb HRDB.out (by omega) HBB.out).mono ?_; rintro e wc ⟨pv, rfl, hpv, hrdc, hkc⟩
      obtain ⟨ap, cp, rfl⟩ := shape_own hpv
      have hpb : ∀ j, (Value.slice ap s cp).ownBlock = some j → wb.heap.size ≤ j ∧ j < wc.heap.size := fun j hj => hpv.lt j hj
      have hpts := ptsAt_row hpv (by unfold ptsB; simp)
      have hkbc : Keeps (fun j => j = q + 1 + 1) wr wc := (hkab.mono (fun _ _ h => h.elim)).trans hkc (fun _ _ h => h)
      have hgc := (hkc.block gb (by omega) (by omega)).trans ((hkb.block gb hga1 (fun h => h)).trans HGA.out)
      have h1c := (hkbc.block (q + 1) (by have := HGB.out; omega) (by omega)).trans HG1.out
      have HRC' := Lib.hid (HR.out.off hkbc (fun j hj _ => by show ¬ j = q + 1 + 1; omega))
      have HRDC := Lib.hid hrdc
      have HPT := Lib.hid hpts
      have HPB := Lib.hid hpb
      have c0 := cells_at hgc 0
      have c1 := cells_at hgc 1
      have c2 := cells_at hgc 2
      have f0 := two_frozen hgc 0
      have f1 := two_frozen hgc 1
      have f2 := two_frozen hgc 2
      have HGC := Lib.hid hgc
      have H1C := Lib.hid h1c
      have hwbs := hkb.size
      have hwcs := hkc.size
      clear hpv hrdc hpts hpb hgc h1c
      go_upto_region 11 with fail
      obtain ⟨wd, hwd⟩ : ∃ wd, wc.setCell ⟨gb, 2, none⟩ (.slice ap s cp) = wd := ⟨_, rfl⟩
      have hgd : wd.heap[gb]? = some (.cells #[.bool d, .int .i64 m, .slice ap s cp] 40 (0, 0)) := by rw [← hwd]; exact cells_put HGC.out 2 _
      have hkd : Keeps (fun j => j = gb) wc wd := by rw [← hwd]; exact (Keeps.refl (fun j => j = gb) wc).setCell ⟨gb, 2, none⟩ (fun _ => rfl) _
      rw [hwd]
      clear hwd c0 c1 c2 f0 f1 f2
      have hgbw : wr.heap.size ≤ gb := by rw [HGB.out]; exact Nat.le_refl _
      have hpne : ∀ j, (Value.slice ap s cp).ownBlock = some j → ¬ j = gb := fun j hj => by have := HPB.out j hj; omega
      have h1d := (hkd.block (q + 1) (by omega) (by omega)).trans H1C.out
      have hrd := HRDC.out.kept hkd (by omega)
      have hptd := pts_off HPT.out hkd hpne
      have hkbd : Keeps (fun j => j = q + 1 + 1) wr wd := hkbc.trans hkd (fun i hi h => by omega)
      have hgbs := hkd.size
      obtain ⟨hrn, L, hL, hrow, hL4⟩ := HR.out.off hkbd (fun j hj _ => by omega)
      obtain ⟨aov, cpv, rfl⟩ := shape_own hrow
      have HROW := Lib.hid hrow
      have HL4 := Lib.hid hL4
      have HL := Lib.hid hL
      have HRN := Lib.hid hrn
      have H1D := Lib.hid h1d
      have HPTD := Lib.hid hptd
      have HRDD := Lib.hid hrd
      have c4 := cells_at h1d 4
      have f4 := two_frozen h1d 4
      have c0 := cells_at hgd 0
      have c1 := cells_at hgd 1
      have c2 := cells_at hgd 2
      clear hrow hL4 hL hrn h1d hptd hrd hgd hkbc HRC' HRDC HPT H1C HGC HGA
      go_wp2_with (at_builtin; refine wpList_append_at rfl _ _ 25 rfl (q + 3) 40 i0 (.agg #[.bool false, .int .i64 0, .slice none 0 0]) 3 40 Tryz.underlying25 hi hz0 hz1 hz2 rfl (by decide) _ _ _ rfl (HROW.out.alloc _) (some ⟨wd.heap.size, 0, none⟩) 1 1 [.bool d, .int .i64 m, .slice ap s cp] rfl (fun h => by cases h) rfl ?c1 ?c2 ?c3 ?c4 ?c5 ?_)
      case c1 =>
        intro ad had j u hj
        injection had with had
        subst had
        have hadd : (⟨wd.heap.size, 0, none⟩ : Addr).add j = ⟨wd.heap.size, 0 + j, none⟩ := by unfold Addr.add; split <;> simp_all
        rw [hadd, cell_of_row _ _ _ _ _ _ (heap_alloc_new wd _), Nat.zero_add]
        simpa using hj
      case c2 => first | (intro u hu; simp at hu; rcases hu with rfl | rfl | rfl <;> rfl) | rfl
      case c3 => unfold maxLen; omega
      case c4 => omega
      case c5 => first | omega | (simp; omega)
      intro v2 we hown2 hgrow2 hat2
      have hkde : Keeps (fun j => some j = (Value.slice aov k cpv).ownBlock) wd we := ((Keeps.refl _ wd).alloc _).grown hgrow2 (fun g hg _ => hg.symm)
      have hvr : ∀ j, (Value.slice aov k cpv).ownBlock = some j → q + 3 ≤ j ∧ j < wr.heap.size := fun j hj => by
        obtain ⟨_, L', _, hrow', _⟩ := HR.out
        exact hrow'.lt j hj
      have hrs2 : RowsAt we (q + 3) v2 ((decR h.rs body).take (k + 1)) (k + 1) := by
        rw [decR_step (by rw [HK.out]; exact hkl), HD.out, HM.out, HS.out, HTK.out, Int.toNat_natCast, Int.toNat_natCast]
        refine RowsAt.snoc (r := (d, m, ptsB (body.drop (16 * tk)) s)) HRN.out HL.out HL4.out hown2 hkde ?_ ⟨_, _, _, rfl⟩ HPTD.out (fun j hj => ?_)
        · rcases hat2 with h1 | h1
          · exact .inl h1
          · exact .inr ⟨_, h1, by simp⟩
        · have h1 := HPB.out j hj
          refine ⟨by omega, by omega, fun he => ?_⟩
          have := hvr j he
          omega
      obtain ⟨ao6, cp6, rfl⟩ := shape_own hown2
      have h1e := (hkde.block (q + 1) (by have := HGB.out; omega) (fun he => by have := hvr _ he.symm; omega)).trans H1D.out
      have HRD2 := Lib.hid (HRDD.out.kept hkde (fun he => by have := hvr _ he.symm; omega))
      have HRS2 := Lib.hid hrs2
      have HWE := Lib.hid ((HW.out.trans hkbd (fun i hi h => .inr h)).trans hkde (fun i hi h => by have := hvr _ h.symm; omega))
      have H1E := Lib.hid h1e
      have HHV := Lib.hid hvr
      clear c0 c1 c2 c4 f4 hown2 hgrow2 hat2 hkde hvr hrs2 h1e hkbd
      have c4 := cells_at H1E.out 4
      have f4 := two_frozen H1E.out 4
      go_wp2_with fail
      go_roundw
      case rel =>
        have hkf : Keeps (fun j => j = q + 1) we (we.setCell ⟨q + 1, 4, none⟩ (.slice ao6 (k + 1) cp6)) := (Keeps.refl (fun j => j = q + 1) we).setCell ⟨q + 1, 4, none⟩ (fun _ => rfl) _
        refine ⟨k + 1, by omega, by go_num, _, cells_put H1E.out 4 _, Lib.hid (HRS2.out.off hkf (fun j hj _ => by omega)), Lib.hid ?_, Lib.hid (HWE.out.trans hkf (fun i hi h => .inl h))⟩
        have h1 := HRD2.out.kept hkf (by omega)
        rw [HTK1.out, Int.toNat_natCast]
        rwa [show off + at0 + 16 * tk + 16 * s = off + at0 + 16 * (tk + s) by omega] at h1
      case measure => simp [intOf]; omega
    · obtain rfl : k = K := by omega
      have hkw : Keeps (fun _ => False) w2 wr := hk3.trans HW.out (fun i hi h => by rw [HQ2.out] at hi; omega)
      have hta : h.rs.take k = h.rs := List.take_of_length_le (by rw [HK.out]; omega)
      have htb : (decR h.rs body).take k = decR h.rs body := List.take_of_length_le (by rw [decR_length, HK.out]; omega)
      have hrd := HRD.out
      have hrr := HR.out
      rw [hta, hTT.out, Int.toNat_natCast, Nat.sub_self, Nat.mul_zero, Nat.zero_add] at hrd
      rw [htb] at hrr
      have HRD := Lib.hid hrd
      have HR := Lib.hid hrr
      have HREG := Lib.hid (HRS.out.kept hkw)
      have hg0 := (HW.out.block q (by omega) (by omega)).trans G0.out
      have c0 := cells_at hg0 0
      have c1 := cells_at hg0 1
      have c2 := cells_at hg0 2
      have c3 := cells_at hg0 3
      have HG1 := Lib.hid hg1
      have hq1l : q + 1 < wr.heap.size := (Array.getElem?_eq_some_iff.1 hg1).1
      have hq2l : q + 1 + 1 < wr.heap.size := by have := HW.out.size; omega
      clear hg0 hg1 hta htb hrd hrr
      go_wp2_with fail
      refine (HCT.out _ _ ⟨ah, ch, by rw [HXX.out.1, HXX.out.2.1, HXX.out.2.2, HK.out], by rw [HK.out]; exact HREG.out, HZ.out⟩).mono ?_; rintro e w4 ⟨rfl, hk4⟩
      clear c0 c1 c2 c3
      have hs4 := hk4.size
      go_wp2_with fail
      refine (take_calls (q + 1 + 1) b (off + at0 + 16 * T) (24 * NQ) NP (body.drop (16 * T)) (by omega) (by rw [List.length_drop]; omega) w4 (HRD.out.kept hk4 (fun h => h)) (by omega) (((HB3.out.kept HW.out (by show ¬ (b = q + 1 ∨ b = q + 1 + 1); omega)).kept hk4 (fun h => h)).drop (16 * T))).mono ?_; rintro e w5 ⟨vp, rfl, hvp, hrd5, hk5⟩
      obtain ⟨ap, cp, rfl⟩ := shape_own hvp
      have hpb : ∀ j, (Value.slice ap NP cp).ownBlock = some j → w4.heap.size ≤ j ∧ j < w5.heap.size := fun j hj => hvp.lt j hj
      have hkr5 : Keeps (fun j => j = q + 1 + 1) wr w5 := (hk4.mono (fun _ _ h => h.elim)).trans hk5 (fun _ _ h => h)
      have h15 := (hkr5.block (q + 1) hq1l (by omega)).trans HG1.out
      have HR5 := Lib.hid (HR.out.off hkr5 (fun j hj _ => by omega))
      have HCP := Lib.hid (row_cap hvp)
      have HP5 := Lib.hid (ptsAt_row hvp (by unfold ptsB; simp))
      have HPB := Lib.hid hpb
      have HRD5 := Lib.hid hrd5
      have c5 := cells_at h15 5
      have f5 := two_frozen h15 5
      have H15 := Lib.hid h15
      clear hvp hpb hrd5 h15
      go_upto_region 15 with fail
      obtain ⟨w6, hw6⟩ : ∃ w6, w5.setCell ⟨q + 1, 5, none⟩ (.slice ap NP cp) = w6 := ⟨_, rfl⟩
      have h16 : w6.heap[q + 1]? = some (.cells #[.int .i64 xo, .int .i64 xv, .slice ah k ch, .int .i64 xp, vr, .slice ap NP cp, .slice none 0 0] 105 (0, 0)) := by rw [← hw6]; exact cells_put H15.out 5 _
      have hk6 : Keeps (fun j => j = q + 1) w5 w6 := by rw [← hw6]; exact (Keeps.refl (fun j => j = q + 1) w5).setCell ⟨q + 1, 5, none⟩ (fun _ => rfl) _
      rw [hw6]
      clear hw6 c5 f5
      have hs5 := hk5.size
      have hs6 := hk6.size
      have hs0 := hk0.size
      have hkr6 : Keeps (fun j => j = q + 1 ∨ j = q + 1 + 1) wr w6 := (hkr5.mono (fun _ _ h => .inr h)).trans hk6 (fun i hi h => .inl h)
      have hb6 := ((HB3.out.kept HW.out (by show ¬ (b = q + 1 ∨ b = q + 1 + 1); omega)).kept hkr6 (by show ¬ (b = q + 1 ∨ b = q + 1 + 1); omega)).drop (16 * T + 16 * NP)
      have hrd6 := HRD5.out.kept hk6 (by omega)
      rw [← Nat.add_zero (24 * NQ), show off + at0 + 16 * T + 16 * NP = off + at0 + (16 * T + 16 * NP) by omega] at hrd6
      have HB6 := Lib.hid hb6
      have HRD6 := Lib.hid hrd6
      have H16 := Lib.hid h16
      have HR6 := Lib.hid (HR5.out.off hk6 (fun j hj _ => by omega))
      have HP6 := Lib.hid (pts_off HP5.out hk6 (fun j hj => by have := HPB.out j hj; omega))
      clear hb6 hrd6 h16
      go_wp2_with fail
      refine (takeq_calls (q + 1 + 1) b (off + at0 + (16 * T + 16 * NP)) 0 NQ (body.drop (16 * T + 16 * NP)) (by omega) (by rw [List.length_drop]; omega) w6 HRD6.out (by omega) HB6.out).mono ?_; rintro e w7 ⟨vq, rfl, hvq, _, hk7⟩
      obtain ⟨aq, cq, rfl⟩ := shape_own hvq
      have hqb : ∀ j, (Value.slice aq NQ cq).ownBlock = some j → w6.heap.size ≤ j ∧ j < w7.heap.size := fun j hj => hvq.lt j hj
      have h17 := (hk7.block (q + 1) (by omega) (by omega)).trans H16.out
      have HR7 := Lib.hid (HR6.out.off hk7 (fun j hj _ => by omega))
      have HP7 := Lib.hid (pts_off HP6.out hk7 (fun j hj => by have := HPB.out j hj; omega))
      have HQ7 := Lib.hid (qsAt_row hvq (by rw [qsB_length]))
      have HQB := Lib.hid hqb
      have c6 := cells_at h17 6
      have f6 := two_frozen h17 6
      have H17 := Lib.hid h17
      clear hvq hqb h17
      go_upto_region 16 with fail
      obtain ⟨w8, hw8⟩ : ∃ w8, w7.setCell ⟨q + 1, 6, none⟩ (.slice aq NQ cq) = w8 := ⟨_, rfl⟩
      have h18 : w8.heap[q + 1]? = some (.cells #[.int .i64 xo, .int .i64 xv, .slice ah k ch, .int .i64 xp, vr, .slice ap NP cp, .slice aq NQ cq] 105 (0, 0)) := by rw [← hw8]; exact cells_put H17.out 6 _
      have hk8 : Keeps (fun j => j = q + 1) w7 w8 := by rw [← hw8]; exact (Keeps.refl (fun j => j = q + 1) w7).setCell ⟨q + 1, 6, none⟩ (fun _ => rfl) _
      rw [hw8]
      clear hw8 c6 f6
      have hs7 := hk7.size
      have hkr8 : Keeps (fun j => j = q + 1 ∨ j = q + 1 + 1) wr w8 := ((hkr6.trans hk7 (fun i hi h => .inr h)).trans hk8 (fun i hi h => .inl h))
      have hkw8 : Keeps (fun _ => False) w2 w8 := hkw.trans hkr8 (fun i hi h => by rw [HQ2.out] at hi; omega)
      have hk08 : Keeps (fun _ => False) w w8 := knil hk02 hkw8
      have rh := (hkw8.block w.heap.size (by rw [HQ2.out]; omega) (fun h => h)).trans ((knil hk1 hk2).block w.heap.size hl0 (fun h => h) |>.trans HG0.out)
      have c0 := cells_at h18 0
      have c1 := cells_at h18 1
      have c2 := cells_at h18 2
      have c3 := cells_at h18 3
      have c4 := cells_at h18 4
      have c5 := cells_at h18 5
      have c6 := cells_at h18 6
      have d0 := cells_at rh 0
      have d1 := cells_at rh 1
      have d2 := cells_at rh 2
      have d3 := cells_at rh 3
      have d4 := cells_at rh 4
      have d5 := cells_at rh 5
      have d6 := cells_at rh 6
      have f0 := two_frozen rh 0
      have f1 := two_frozen rh 1
      have f2 := two_frozen rh 2
      have f3 := two_frozen rh 3
      have f4 := two_frozen rh 4
      have f5 := two_frozen rh 5
      have f6 := two_frozen rh 6
      have RH := Lib.hid rh
      have HR8 := Lib.hid (HR7.out.off hk8 (fun j hj _ => by omega))
      have HP8 := Lib.hid (pts_off HP7.out hk8 (fun j hj => by have := HPB.out j hj; omega))
      have HQ8 := Lib.hid (qs_off HQ7.out hk8 (fun j hj => by have := HQB.out j hj; omega))
      have HREG8 := Lib.hid (HRS.out.kept hkw8)
      have HK08 := Lib.hid hk08
      clear rh h18 hkr8 hkw8 hk08
      obtain ⟨aov, cpv, rfl⟩ : ∃ a c, vr = .slice a k c := by obtain ⟨_, L, _, hrow, _⟩ := HR8.out; exact shape_own hrow
      go_wp2_with fail
      have hkg := keepsG_seven w8 w.heap.size (.int .i64 xo) (.int .i64 xv) (.slice ah k ch) (.int .i64 xp) (.slice aov k cpv) (.slice ap NP cp) (.slice aq NQ cq)
      refine bodyPost_ret (results_req rfl _ _ _ _ _ _ _ _ _ _ _ _ rfl (cells_seven RH.out)) rfl ⟨⟨_, rfl, ah, ch, .slice aov k cpv, .slice ap NP cp, .slice aq NQ cq, ?_, ?_, HZ.out, ?_, ?_, ?_, HCP.out⟩, keeps_seven HK08.out (Nat.le_refl _) _ _ _ _ _ _ _⟩
      · rw [HXX.out.1, HXX.out.2.1, HXX.out.2.2, HK.out]
      · rw [HK.out]
        refine regs_off HREG8.out (hdOk_empty HO.out) hkg (fun j hj he => ?_)
        cases ah with
        | none => cases hj
        | some a =>
          have h1 := HFR.out a rfl
          have h2 : a.block = j := Option.some.inj hj
          have h3 := hk1.size
          omega
      · exact (HR8.out.off hkg (fun j hj _ => by omega)).regs
      · exact pts_off HP8.out hkg (fun j hj => by have := HPB.out j hj; omega)
      · exact qs_off HQ8.out hkg (fun j hj => by have := HQB.out j hj; omega)
end Go.Proofs.YtmoajobnhiopiaaGreatDoor.sv
set_option linter.unusedSimpArgs false
set_option linter.unusedVariables false
namespace Go.Proofs.YtmoajobnhiopiaaGreatDoor.sv
open Go Go.RowKit Go.Shelf Go.Maps Go.Proofs.YtmoajobnhiopiaaGreatDoor.mk Go.Proofs.YtmoajobnhiopiaaGreatDoor.tp Go.Proofs.YtmoajobnhiopiaaGreatDoor.rg Go.Proofs.YtmoajobnhiopiaaGreatDoor.lm Go.Proofs.YtmoajobnhiopiaaGreatDoor.gm Go.Proofs.YtmoajobnhiopiaaGreatDoor.po
theorem row_mono {w : World} {base base' n size : Nat} {e : TypeId} {v : Value} {xs : List Value} (h : w.ownsRow base e size v n xs) (hb : base' ≤ base) : w.ownsRow base' e size v n xs :=
  ⟨h.1, h.2.imp id fun ⟨g, cap, cur, he, h1, h2⟩ => ⟨g, cap, cur, he, Nat.le_trans hb h1, h2⟩⟩
def Formatted (w : World) (e : Ending) (w' : World) : Prop := (∃ v n l, e = .returned (.tuple #[v, .int .i64 0]) ∧ n ≤ 70 ∧ w'.ownsRow w.heap.size 5 1 v n l) ∧ Keeps (fun _ => False) w w'
set_option maxRecDepth 100000 in
set_option maxHeartbeats 4000000 in
theorem format_1 (w : World) (hck : ∀ W, Keeps (fun _ => False) w W → Calls Tryz.prog 128 #[.agg #[.int .i64 1, .int .i64 0, .slice none 0 0, .int .i64 0]] W fun e w' => e = .returned (.int .i64 0) ∧ Keeps (fun _ => False) W w') : Calls Tryz.prog 90 #[.agg #[.int .i64 1, .int .i64 0, .slice none 0 0, .int .i64 0]] w (Formatted w) := by
  obtain ⟨i0, hi, hz0, hz1, hz2⟩ := info_parts infoB
  have HCK := Lib.hid hck
  clear hck
  go_enter Tryz.func90, Tryz.ntmps90
  go_upto_region 1 with fail
  obtain ⟨w1, hw1⟩ : ∃ w1, w.alloc (.cells #[.int .i64 1, .int .i64 0, .slice none 0 0, .int .i64 0] 27) = w1 := ⟨_, rfl⟩
  have hg := heap_alloc_new w (.cells #[.int .i64 1, .int .i64 0, .slice none 0 0, .int .i64 0] 27)
  have hk1 : Keeps (fun _ => False) w w1 := by rw [← hw1]; exact (Keeps.refl _ w).alloc _
  rw [hw1] at hg ⊢
  clear hw1
  have hl : w.heap.size < w1.heap.size := (Array.getElem?_eq_some_iff.1 hg).1
  have c0 := cells_at hg 0
  have c1 := cells_at hg 1
  have c2 := cells_at hg 2
  have c3 := cells_at hg 3
  have HG := Lib.hid hg
  clear hg
  go_wp2_with fail
  refine (HCK.out w1 hk1).mono ?_; rintro e w2 ⟨rfl, hk2⟩
  have hg2 := (hk2.block _ hl (fun h => h)).trans HG.out
  have hl2 : w.heap.size < w2.heap.size := (Array.getElem?_eq_some_iff.1 hg2).1
  clear c0 c1 c2 c3
  have c0 := cells_at hg2 0
  have c1 := cells_at hg2 1
  have c2 := cells_at hg2 2
  have c3 := cells_at hg2 3
  have HG2 := Lib.hid hg2
  have HK2 := Lib.hid (knil hk1 hk2)
  clear hg2
  go_upto_region 5 with fail
  obtain ⟨w3, hw3⟩ : ∃ w3, w2.alloc (.cells #[.int .u8 1] 5) = w3 := ⟨_, rfl⟩
  have hk3 : Keeps (fun _ => False) w2 w3 := by rw [← hw3]; exact (Keeps.refl _ w2).alloc _
  have hrow : w3.ownsRow (w.heap.size + 1) 5 1 (.slice (some ⟨w2.heap.size, 0, none⟩) 1 1) 1 [.int .u8 1] := by
    rw [← hw3]
    exact ⟨rfl, .inr ⟨_, 1, #[.int .u8 1], rfl, by omega, heap_alloc_new w2 _, Nat.le_refl _, by unfold maxLen; omega, rfl, rfl⟩⟩
  have hg3 := (hk3.block _ hl2 (fun h => h)).trans HG2.out
  rw [hw3]
  obtain ⟨v3, hv3⟩ : ∃ v3, Value.slice (some ⟨w2.heap.size, 0, none⟩) 1 1 = v3 := ⟨_, rfl⟩
  rw [hv3] at hrow ⊢
  have HK3 := Lib.hid (knil HK2.out hk3)
  clear hw3 hv3 c0 c1 c2 c3
  have c0 := cells_at hg3 0
  have c1 := cells_at hg3 1
  have c2 := cells_at hg3 2
  have c3 := cells_at hg3 3
  have HG3 := Lib.hid hg3
  have hl3 : w.heap.size < w3.heap.size := (Array.getElem?_eq_some_iff.1 hg3).1
  clear hg3
  have HROW := Lib.hid (row_mono hrow (show w.heap.size ≤ w.heap.size + 1 by omega))
  have HKK := HK3
  clear hrow
  go_wp2_with fail
  go_loopw [5, 7, 8, 41] (fun s _ _ i wr => s = v3 ∧ i = .int .i64 0 ∧ wr = w3) (fun _ _ _ _ _ => 0)
  case atStart => exact ⟨rfl, rfl, rfl⟩
  case round =>
    obtain ⟨rfl, rfl, hwr⟩ := hrel
    rw [hwr]
    clear hwr wr
    go_wp2_with fail
    go_ret2
    exact ⟨⟨_, _, _, rfl, by omega, HROW.out⟩, HKK.out⟩
set_option maxRecDepth 100000 in
set_option maxHeartbeats 4000000 in
theorem format_2 (w : World) (hck : ∀ W, Keeps (fun _ => False) w W → Calls Tryz.prog 128 #[.agg #[.int .i64 2, .int .i64 0, .slice none 0 0, .int .i64 0]] W fun e w' => e = .returned (.int .i64 0) ∧ Keeps (fun _ => False) W w') : Calls Tryz.prog 90 #[.agg #[.int .i64 2, .int .i64 0, .slice none 0 0, .int .i64 0]] w (Formatted w) := by
  obtain ⟨i0, hi, hz0, hz1, hz2⟩ := info_parts infoB
  have HCK := Lib.hid hck
  clear hck
  go_enter Tryz.func90, Tryz.ntmps90
  go_upto_region 1 with fail
  obtain ⟨w1, hw1⟩ : ∃ w1, w.alloc (.cells #[.int .i64 2, .int .i64 0, .slice none 0 0, .int .i64 0] 27) = w1 := ⟨_, rfl⟩
  have hg := heap_alloc_new w (.cells #[.int .i64 2, .int .i64 0, .slice none 0 0, .int .i64 0] 27)
  have hk1 : Keeps (fun _ => False) w w1 := by rw [← hw1]; exact (Keeps.refl _ w).alloc _
  rw [hw1] at hg ⊢
  clear hw1
  have hl : w.heap.size < w1.heap.size := (Array.getElem?_eq_some_iff.1 hg).1
  have c0 := cells_at hg 0
  have c1 := cells_at hg 1
  have c2 := cells_at hg 2
  have c3 := cells_at hg 3
  have HG := Lib.hid hg
  clear hg
  go_wp2_with fail
  refine (HCK.out w1 hk1).mono ?_; rintro e w2 ⟨rfl, hk2⟩
  have hg2 := (hk2.block _ hl (fun h => h)).trans HG.out
  have hl2 : w.heap.size < w2.heap.size := (Array.getElem?_eq_some_iff.1 hg2).1
  clear c0 c1 c2 c3
  have c0 := cells_at hg2 0
  have c1 := cells_at hg2 1
  have c2 := cells_at hg2 2
  have c3 := cells_at hg2 3
  have HG2 := Lib.hid hg2
  have HK2 := Lib.hid (knil hk1 hk2)
  clear hg2
  go_upto_region 5 with fail
  obtain ⟨w3, hw3⟩ : ∃ w3, w2.alloc (.cells #[.int .u8 2] 5) = w3 := ⟨_, rfl⟩
  have hk3 : Keeps (fun _ => False) w2 w3 := by rw [← hw3]; exact (Keeps.refl _ w2).alloc _
  have hrow : w3.ownsRow (w.heap.size + 1) 5 1 (.slice (some ⟨w2.heap.size, 0, none⟩) 1 1) 1 [.int .u8 2] := by
    rw [← hw3]
    exact ⟨rfl, .inr ⟨_, 1, #[.int .u8 2], rfl, by omega, heap_alloc_new w2 _, Nat.le_refl _, by unfold maxLen; omega, rfl, rfl⟩⟩
  have hg3 := (hk3.block _ hl2 (fun h => h)).trans HG2.out
  rw [hw3]
  obtain ⟨v3, hv3⟩ : ∃ v3, Value.slice (some ⟨w2.heap.size, 0, none⟩) 1 1 = v3 := ⟨_, rfl⟩
  rw [hv3] at hrow ⊢
  have HK3 := Lib.hid (knil HK2.out hk3)
  clear hw3 hv3 c0 c1 c2 c3
  have c0 := cells_at hg3 0
  have c1 := cells_at hg3 1
  have c2 := cells_at hg3 2
  have c3 := cells_at hg3 3
  have HG3 := Lib.hid hg3
  have hl3 : w.heap.size < w3.heap.size := (Array.getElem?_eq_some_iff.1 hg3).1
  clear hg3
  have HROW := Lib.hid (row_mono hrow (show w.heap.size ≤ w.heap.size + 1 by omega))
  have HKK := HK3
  clear hrow
  go_wp2_with fail
  go_loopw [5, 7, 8, 41] (fun s _ _ i wr => s = v3 ∧ i = .int .i64 0 ∧ wr = w3) (fun _ _ _ _ _ => 0)
  case atStart => exact ⟨rfl, rfl, rfl⟩
  case round =>
    obtain ⟨rfl, rfl, hwr⟩ := hrel
    rw [hwr]
    clear hwr wr
    go_wp2_with fail
    go_ret2
    exact ⟨⟨_, _, _, rfl, by omega, HROW.out⟩, HKK.out⟩
set_option maxRecDepth 100000 in
set_option maxHeartbeats 4000000 in
theorem format_3 (vt : Int) (w : World) (hck : ∀ W, Keeps (fun _ => False) w W → Calls Tryz.prog 128 #[.agg #[.int .i64 3, .int .i64 vt, .slice none 0 0, .int .i64 0]] W fun e w' => e = .returned (.int .i64 0) ∧ Keeps (fun _ => False) W w') : Calls Tryz.prog 90 #[.agg #[.int .i64 3, .int .i64 vt, .slice none 0 0, .int .i64 0]] w (Formatted w) := by
  obtain ⟨i0, hi, hz0, hz1, hz2⟩ := info_parts infoB
  have HCK := Lib.hid hck
  clear hck
  go_enter Tryz.func90, Tryz.ntmps90
  go_upto_region 1 with fail
  obtain ⟨w1, hw1⟩ : ∃ w1, w.alloc (.cells #[.int .i64 3, .int .i64 vt, .slice none 0 0, .int .i64 0] 27) = w1 := ⟨_, rfl⟩
  have hg := heap_alloc_new w (.cells #[.int .i64 3, .int .i64 vt, .slice none 0 0, .int .i64 0] 27)
  have hk1 : Keeps (fun _ => False) w w1 := by rw [← hw1]; exact (Keeps.refl _ w).alloc _
  rw [hw1] at hg ⊢
  clear hw1
  have hl : w.heap.size < w1.heap.size := (Array.getElem?_eq_some_iff.1 hg).1
  have c0 := cells_at hg 0
  have c1 := cells_at hg 1
  have c2 := cells_at hg 2
  have c3 := cells_at hg 3
  have HG := Lib.hid hg
  clear hg
  go_wp2_with fail
  refine (HCK.out w1 hk1).mono ?_; rintro e w2 ⟨rfl, hk2⟩
  have hg2 := (hk2.block _ hl (fun h => h)).trans HG.out
  have hl2 : w.heap.size < w2.heap.size := (Array.getElem?_eq_some_iff.1 hg2).1
  clear c0 c1 c2 c3
  have c0 := cells_at hg2 0
  have c1 := cells_at hg2 1
  have c2 := cells_at hg2 2
  have c3 := cells_at hg2 3
  have HG2 := Lib.hid hg2
  have HK2 := Lib.hid (knil hk1 hk2)
  clear hg2
  go_upto_region 5 with fail
  obtain ⟨w3, hw3⟩ : ∃ w3, w2.alloc (.cells #[.int .u8 3] 5) = w3 := ⟨_, rfl⟩
  have hk3 : Keeps (fun _ => False) w2 w3 := by rw [← hw3]; exact (Keeps.refl _ w2).alloc _
  have hrow : w3.ownsRow (w.heap.size + 1) 5 1 (.slice (some ⟨w2.heap.size, 0, none⟩) 1 1) 1 [.int .u8 3] := by
    rw [← hw3]
    exact ⟨rfl, .inr ⟨_, 1, #[.int .u8 3], rfl, by omega, heap_alloc_new w2 _, Nat.le_refl _, by unfold maxLen; omega, rfl, rfl⟩⟩
  have hg3 := (hk3.block _ hl2 (fun h => h)).trans HG2.out
  rw [hw3]
  obtain ⟨v3, hv3⟩ : ∃ v3, Value.slice (some ⟨w2.heap.size, 0, none⟩) 1 1 = v3 := ⟨_, rfl⟩
  rw [hv3] at hrow ⊢
  have HK3 := Lib.hid (knil HK2.out hk3)
  clear hw3 hv3 c0 c1 c2 c3
  have c0 := cells_at hg3 0
  have c1 := cells_at hg3 1
  have c2 := cells_at hg3 2
  have c3 := cells_at hg3 3
  have HG3 := Lib.hid hg3
  have hl3 : w.heap.size < w3.heap.size := (Array.getElem?_eq_some_iff.1 hg3).1
  clear hg3
  obtain ⟨x3, hx3⟩ : ∃ x, IntKind.u8.wrap vt = x := ⟨_, rfl⟩
  go_wp2_with (at_builtin; refine wpList_append_at rfl _ _ 22 rfl (w.heap.size + 1) 5 i0 (.int .u8 0) 1 1 Tryz.underlying22 hi hz0 hz1 hz2 rfl (by decide) _ _ _ rfl (hrow.alloc _) (some ⟨w3.heap.size, 0, none⟩) 1 1 [.int .u8 x3] rfl (fun h => by cases h) rfl ?q11 ?q12 ?q13 ?q14 ?q15 ?_)
  try
   case q11 =>
    intro ad had j u hj
    injection had with had
    subst had
    have hadd : (⟨w3.heap.size, 0, none⟩ : Addr).add j = ⟨w3.heap.size, 0 + j, none⟩ := by unfold Addr.add; split <;> simp_all
    rw [hadd, cell_of_row _ _ _ _ _ _ (heap_alloc_new w3 _), Nat.zero_add]
    simpa using hj
  case q12 => first | (intro u hu; simp at hu; rw [hu]; rfl) | (intro u hu; simp at hu; rcases hu with rfl | rfl <;> rfl) | rfl
  case q13 => unfold maxLen; omega
  case q14 => omega
  case q15 => first | omega | (simp; omega)
  intro v4 w4 hown4 hgrow4 _
  have hK4 := Lib.hid ((HK3.out.alloc _).grown hgrow4 (fun g hg hlt => by have := hrow.lt g hg; omega) : Keeps (fun _ => False) w w4)
  have hKr4 : Keeps (fun j => some j = _) w3 w4 := ((Keeps.refl _ w3).alloc _).grown hgrow4 (fun g hg _ => hg.symm)
  have hg4 := (hKr4.block w.heap.size (by omega) (fun h => by have := hrow.lt _ h.symm; omega)).trans HG3.out
  have hl4 : w.heap.size < w4.heap.size := (Array.getElem?_eq_some_iff.1 hg4).1
  have HROW := Lib.hid (row_mono hown4 (show w.heap.size ≤ w.heap.size + 1 by omega))
  have HKK := hK4
  clear c0 c1 c2 c3 hx3
  have c0 := cells_at hg4 0
  have c1 := cells_at hg4 1
  have c2 := cells_at hg4 2
  have c3 := cells_at hg4 3
  obtain ⟨aov, cpv, rfl⟩ := shape_own hown4
  clear hg4 hKr4 hgrow4 hown4 hrow
  go_wp2_with fail
  go_loopw [5, 7, 8, 41] (fun s _ _ i wr => s = .slice aov 2 cpv ∧ i = .int .i64 0 ∧ wr = w4) (fun _ _ _ _ _ => 0)
  case atStart => exact ⟨rfl, rfl, rfl⟩
  case round =>
    obtain ⟨rfl, rfl, hwr⟩ := hrel
    rw [hwr]
    clear hwr wr
    go_wp2_with fail
    go_ret2
    exact ⟨⟨_, _, _, rfl, by omega, HROW.out⟩, HKK.out⟩
set_option maxRecDepth 100000 in
set_option maxHeartbeats 4000000 in
theorem format_4 (ao : Option Addr) (n cap : Nat) (l : List Reg) (hn : n = l.length) (h64 : n ≤ 64) (w : World) (hck : ∀ W, Keeps (fun _ => False) w W → Calls Tryz.prog 128 #[.agg #[.int .i64 4, .int .i64 0, .slice ao n cap, .int .i64 0]] W fun e w' => e = .returned (.int .i64 0) ∧ Keeps (fun _ => False) W w') (hr : regsAt w (.slice ao n cap) l) : Calls Tryz.prog 90 #[.agg #[.int .i64 4, .int .i64 0, .slice ao n cap, .int .i64 0]] w (Formatted w) := by
  obtain ⟨i0, hi, hz0, hz1, hz2⟩ := info_parts infoB
  have HCK := Lib.hid hck
  clear hck
  have HR := Lib.hid hr
  have HN := Lib.hid hn
  clear hr hn
  go_enter Tryz.func90, Tryz.ntmps90
  go_upto_region 1 with fail
  obtain ⟨w1, hw1⟩ : ∃ w1, w.alloc (.cells #[.int .i64 4, .int .i64 0, .slice ao n cap, .int .i64 0] 27) = w1 := ⟨_, rfl⟩
  have hg := heap_alloc_new w (.cells #[.int .i64 4, .int .i64 0, .slice ao n cap, .int .i64 0] 27)
  have hk1 : Keeps (fun _ => False) w w1 := by rw [← hw1]; exact (Keeps.refl _ w).alloc _
  rw [hw1] at hg ⊢
  clear hw1
  have hl : w.heap.size < w1.heap.size := (Array.getElem?_eq_some_iff.1 hg).1
  have c0 := cells_at hg 0
  have c1 := cells_at hg 1
  have c2 := cells_at hg 2
  have c3 := cells_at hg 3
  have HG := Lib.hid hg
  clear hg
  go_wp2_with fail
  refine (HCK.out w1 hk1).mono ?_; rintro e w2 ⟨rfl, hk2⟩
  have hg2 := (hk2.block _ hl (fun h => h)).trans HG.out
  have hl2 : w.heap.size < w2.heap.size := (Array.getElem?_eq_some_iff.1 hg2).1
  clear c0 c1 c2 c3
  have c0 := cells_at hg2 0
  have c1 := cells_at hg2 1
  have c2 := cells_at hg2 2
  have c3 := cells_at hg2 3
  have HG2 := Lib.hid hg2
  have HK2 := Lib.hid (knil hk1 hk2)
  clear hg2
  go_upto_region 5 with fail
  obtain ⟨w3, hw3⟩ : ∃ w3, w2.alloc (.cells #[.int .u8 4] 5) = w3 := ⟨_, rfl⟩
  have hk3 : Keeps (fun _ => False) w2 w3 := by rw [← hw3]; exact (Keeps.refl _ w2).alloc _
  have hrow : w3.ownsRow (w.heap.size + 1) 5 1 (.slice (some ⟨w2.heap.size, 0, none⟩) 1 1) 1 [.int .u8 4] := by
    rw [← hw3]
    exact ⟨rfl, .inr ⟨_, 1, #[.int .u8 4], rfl, by omega, heap_alloc_new w2 _, Nat.le_refl _, by unfold maxLen; omega, rfl, rfl⟩⟩
  have hg3 := (hk3.block _ hl2 (fun h => h)).trans HG2.out
  rw [hw3]
  obtain ⟨v3, hv3⟩ : ∃ v3, Value.slice (some ⟨w2.heap.size, 0, none⟩) 1 1 = v3 := ⟨_, rfl⟩
  rw [hv3] at hrow ⊢
  have HK3 := Lib.hid (knil HK2.out hk3)
  clear hw3 hv3 c0 c1 c2 c3
  have c0 := cells_at hg3 0
  have c1 := cells_at hg3 1
  have c2 := cells_at hg3 2
  have c3 := cells_at hg3 3
  have HG3 := Lib.hid hg3
  have hl3 : w.heap.size < w3.heap.size := (Array.getElem?_eq_some_iff.1 hg3).1
  clear hg3
  obtain ⟨x3, hx3⟩ : ∃ x, IntKind.u8.wrap (n : Int) = x := ⟨_, rfl⟩
  go_wp2_with (at_builtin; refine wpList_append_at rfl _ _ 22 rfl (w.heap.size + 1) 5 i0 (.int .u8 0) 1 1 Tryz.underlying22 hi hz0 hz1 hz2 rfl (by decide) _ _ _ rfl (hrow.alloc _) (some ⟨w3.heap.size, 0, none⟩) 1 1 [.int .u8 x3] rfl (fun h => by cases h) rfl ?q21 ?q22 ?q23 ?q24 ?q25 ?_)
  try
   case q21 =>
    intro ad had j u hj
    injection had with had
    subst had
    have hadd : (⟨w3.heap.size, 0, none⟩ : Addr).add j = ⟨w3.heap.size, 0 + j, none⟩ := by unfold Addr.add; split <;> simp_all
    rw [hadd, cell_of_row _ _ _ _ _ _ (heap_alloc_new w3 _), Nat.zero_add]
    simpa using hj
  case q22 => first | (intro u hu; simp at hu; rw [hu]; rfl) | (intro u hu; simp at hu; rcases hu with rfl | rfl <;> rfl) | rfl
  case q23 => unfold maxLen; omega
  case q24 => omega
  case q25 => first | omega | (simp; omega)
  intro v4 w4 hown4 hgrow4 _
  have hK4 := Lib.hid ((HK3.out.alloc _).grown hgrow4 (fun g hg hlt => by have := hrow.lt g hg; omega) : Keeps (fun _ => False) w w4)
  have hKr4 : Keeps (fun j => some j = _) w3 w4 := ((Keeps.refl _ w3).alloc _).grown hgrow4 (fun g hg _ => hg.symm)
  have hg4 := (hKr4.block w.heap.size (by omega) (fun h => by have := hrow.lt _ h.symm; omega)).trans HG3.out
  have hl4 : w.heap.size < w4.heap.size := (Array.getElem?_eq_some_iff.1 hg4).1
  clear c0 c1 c2 c3 hx3
  have c0 := cells_at hg4 0
  have c1 := cells_at hg4 1
  have c2 := cells_at hg4 2
  have c3 := cells_at hg4 3
  have HG4 := Lib.hid hg4
  obtain ⟨aov, cpv, rfl⟩ := shape_own hown4
  have HROW4 := Lib.hid hown4
  clear hg4 hKr4 hgrow4 hown4 hrow
  go_wp2_with fail
  go_loopw [5, 7, 8, 41] (fun s _ _ i wr => ∃ k : Nat, k ≤ n ∧ i = .int .i64 k ∧ ∃ a c L, s = .slice a (2 + k) c ∧ RowKit.Hid (wr.ownsRow (w.heap.size + 1) 5 1 (.slice a (2 + k) c) (2 + k) L) ∧ RowKit.Hid (wr.heap[w.heap.size]? = some (.cells #[.int .i64 4, .int .i64 0, .slice ao n cap, .int .i64 0] 27 (0, 0))) ∧ RowKit.Hid (Keeps (fun _ => False) w wr)) (fun _ _ _ i _ => n - (intOf i).toNat)
  case atStart => exact ⟨0, Nat.zero_le _, rfl, _, _, _, rfl, HROW4, HG4, hK4⟩
  case round =>
    clear c0 c1 c2 c3 HROW4 HG4 hK4
    obtain ⟨k, hk, rfl, a, c, L, rfl, HROW, HGR, HW⟩ := hrel
    by_cases hkl : k < n
    · have hkI : (k : Int) < (n : Int) := by omega
      have hk0 : (0 : Int) ≤ (k : Int) := by omega
      have hkL : k < l.length := by rw [← HN.out]; exact hkl
      have hr := HR.out.kept HW.out
      obtain ⟨he, _⟩ | ⟨b, off, cap', hv, hb, hc⟩ := hr
      · rw [he] at hkL; cases hkL
      cases hv
      obtain ⟨e0, e1, ao', n', c', e2, hp⟩ := hc k hkL
      obtain ⟨d, hd⟩ : ∃ d, (rg l k).1 = d := ⟨_, rfl⟩
      obtain ⟨m, hm⟩ : ∃ m, (rg l k).2.1 = m := ⟨_, rfl⟩
      rw [hd] at e0
      rw [hm] at e1
      have hlr : w.heap.size < wr.heap.size := (Array.getElem?_eq_some_iff.1 HGR.out).1
      clear hc hp hd hm
      go_upto_region 14 with fail
      obtain ⟨wa, hwa⟩ : ∃ wa, wr.alloc (.cells #[.bool d, .int .i64 m, .slice ao' n' c'] 40) = wa := ⟨_, rfl⟩
      obtain ⟨gb, hgb⟩ : ∃ gb, wr.heap.size = gb := ⟨_, rfl⟩
      have hga := heap_alloc_new wr (.cells #[.bool d, .int .i64 m, .slice ao' n' c'] 40)
      have hka : Keeps (fun _ => False) wr wa := by rw [← hwa]; exact (Keeps.refl _ wr).alloc _
      rw [hwa, hgb] at hga
      rw [hwa]
      try rw [hgb]
      have HA := Lib.hid (knil HW.out hka)
      have HGA := Lib.hid ((hka.block _ hlr (fun h => h)).trans HGR.out)
      have hrow := rowW_nil HROW.out hka
      have hla : w.heap.size < wa.heap.size := by have := hka.size; omega
      clear hwa hgb e0 e1 e2 hka
      have c0 := cells_at hga 0
      have c1 := cells_at hga 1
      have c2 := cells_at hga 2
      clear hga
      obtain ⟨x0, hx0⟩ : ∃ x, IntKind.u8.wrap m = x := ⟨_, rfl⟩
      cases d with
      | false =>
        go_wp2_with (at_builtin; refine wpList_append_at rfl _ _ 22 rfl (w.heap.size + 1) 5 i0 (.int .u8 0) 1 1 Tryz.underlying22 hi hz0 hz1 hz2 rfl (by decide) _ _ _ rfl (hrow.alloc _) (some ⟨wa.heap.size, 0, none⟩) 1 1 [.int .u8 x0] rfl (fun h => by cases h) rfl ?q31 ?q32 ?q33 ?q34 ?q35 ?_)
        try
         case q31 =>
          intro ad had j u hj
          injection had with had
          subst had
          have hadd : (⟨wa.heap.size, 0, none⟩ : Addr).add j = ⟨wa.heap.size, 0 + j, none⟩ := by unfold Addr.add; split <;> simp_all
          rw [hadd, cell_of_row _ _ _ _ _ _ (heap_alloc_new wa _), Nat.zero_add]
          simpa using hj
        case q32 => first | (intro u hu; simp at hu; rw [hu]; rfl) | (intro u hu; simp at hu; rcases hu with rfl | rfl <;> rfl) | rfl
        case q33 => unfold maxLen; omega
        case q34 => omega
        case q35 => first | omega | (simp; omega)
        intro v5 w5 hown5 hgrow5 _
        have hK5 := Lib.hid ((HA.out.alloc _).grown hgrow5 (fun g hg hlt => by have := hrow.lt g hg; omega) : Keeps (fun _ => False) w w5)
        have hKr5 : Keeps (fun j => some j = _) wa w5 := ((Keeps.refl _ wa).alloc _).grown hgrow5 (fun g hg _ => hg.symm)
        have hg5 := (hKr5.block w.heap.size (by omega) (fun h => by have := hrow.lt _ h.symm; omega)).trans HGA.out
        have hl5 : w.heap.size < w5.heap.size := (Array.getElem?_eq_some_iff.1 hg5).1
        obtain ⟨a5, c5, rfl⟩ := shape_own hown5
        have HROW5 := Lib.hid hown5
        have HG5 := Lib.hid hg5
        clear c0 c1 c2 hx0 hown5 hg5 hrow hgrow5 hKr5 HROW HGR HW
        go_wp2_with fail
        go_roundw
        case rel => exact ⟨k + 1, by omega, by go_num, _, _, _, rfl, HROW5, HG5, hK5⟩
        case measure => simp [intOf]; omega
      | true =>
        obtain ⟨x1, hx1⟩ : ∃ y, bits .or .u8 x0 128 = y := ⟨_, rfl⟩
        go_upto_region 17 with fail
        go_wp2_with (at_builtin; refine wpList_append_at rfl _ _ 22 rfl (w.heap.size + 1) 5 i0 (.int .u8 0) 1 1 Tryz.underlying22 hi hz0 hz1 hz2 rfl (by decide) _ _ _ rfl (hrow.alloc _) (some ⟨wa.heap.size, 0, none⟩) 1 1 [.int .u8 x1] rfl (fun h => by cases h) rfl ?q41 ?q42 ?q43 ?q44 ?q45 ?_)
        try
         case q41 =>
          intro ad had j u hj
          injection had with had
          subst had
          have hadd : (⟨wa.heap.size, 0, none⟩ : Addr).add j = ⟨wa.heap.size, 0 + j, none⟩ := by unfold Addr.add; split <;> simp_all
          rw [hadd, cell_of_row _ _ _ _ _ _ (heap_alloc_new wa _), Nat.zero_add]
          simpa using hj
        case q42 => first | (intro u hu; simp at hu; rw [hu]; rfl) | (intro u hu; simp at hu; rcases hu with rfl | rfl <;> rfl) | rfl
        case q43 => unfold maxLen; omega
        case q44 => omega
        case q45 => first | omega | (simp; omega)
        intro v5 w5 hown5 hgrow5 _
        have hK5 := Lib.hid ((HA.out.alloc _).grown hgrow5 (fun g hg hlt => by have := hrow.lt g hg; omega) : Keeps (fun _ => False) w w5)
        have hKr5 : Keeps (fun j => some j = _) wa w5 := ((Keeps.refl _ wa).alloc _).grown hgrow5 (fun g hg _ => hg.symm)
        have hg5 := (hKr5.block w.heap.size (by omega) (fun h => by have := hrow.lt _ h.symm; omega)).trans HGA.out
        have hl5 : w.heap.size < w5.heap.size := (Array.getElem?_eq_some_iff.1 hg5).1
        obtain ⟨a5, c5, rfl⟩ := shape_own hown5
        have HROW5 := Lib.hid hown5
        have HG5 := Lib.hid hg5
        clear c0 c1 c2 hx0 hx1 hown5 hg5 hrow hgrow5 hKr5 HROW HGR HW
        go_wp2_with fail
        go_roundw
        case rel => exact ⟨k + 1, by omega, by go_num, _, _, _, rfl, HROW5, HG5, hK5⟩
        case measure => simp [intOf]; omega
    · obtain rfl : k = n := by omega
      have hg := HGR.out
      have c0 := cells_at hg 0
      have c1 := cells_at hg 1
      have c2 := cells_at hg 2
      have c3 := cells_at hg 3
      clear hg
      have HROW' := Lib.hid (row_mono HROW.out (show w.heap.size ≤ w.heap.size + 1 by omega))
      go_wp2_with fail
      go_ret2
      exact ⟨⟨_, _, _, rfl, by omega, HROW'.out⟩, HW.out⟩
set_option maxRecDepth 100000 in
set_option maxHeartbeats 4000000 in
theorem format_5 (ao : Option Addr) (n cap : Nat) (l : List Reg) (pts : Int) (hn : n = l.length) (h64 : n ≤ 64) (hp1 : 1 ≤ pts) (hp2 : pts ≤ 4096) (w : World) (hck : ∀ W, Keeps (fun _ => False) w W → Calls Tryz.prog 128 #[.agg #[.int .i64 5, .int .i64 0, .slice ao n cap, .int .i64 pts]] W fun e w' => e = .returned (.int .i64 0) ∧ Keeps (fun _ => False) W w') (hr : regsAt w (.slice ao n cap) l) : Calls Tryz.prog 90 #[.agg #[.int .i64 5, .int .i64 0, .slice ao n cap, .int .i64 pts]] w (Formatted w) := by
  obtain ⟨i0, hi, hz0, hz1, hz2⟩ := info_parts infoB
  have HCK := Lib.hid hck
  clear hck
  have HR := Lib.hid hr
  have HN := Lib.hid hn
  clear hr hn
  go_enter Tryz.func90, Tryz.ntmps90
  go_upto_region 1 with fail
  obtain ⟨w1, hw1⟩ : ∃ w1, w.alloc (.cells #[.int .i64 5, .int .i64 0, .slice ao n cap, .int .i64 pts] 27) = w1 := ⟨_, rfl⟩
  have hg := heap_alloc_new w (.cells #[.int .i64 5, .int .i64 0, .slice ao n cap, .int .i64 pts] 27)
  have hk1 : Keeps (fun _ => False) w w1 := by rw [← hw1]; exact (Keeps.refl _ w).alloc _
  rw [hw1] at hg ⊢
  clear hw1
  have hl : w.heap.size < w1.heap.size := (Array.getElem?_eq_some_iff.1 hg).1
  have c0 := cells_at hg 0
  have c1 := cells_at hg 1
  have c2 := cells_at hg 2
  have c3 := cells_at hg 3
  have HG := Lib.hid hg
  clear hg
  go_wp2_with fail
  refine (HCK.out w1 hk1).mono ?_; rintro e w2 ⟨rfl, hk2⟩
  have hg2 := (hk2.block _ hl (fun h => h)).trans HG.out
  have hl2 : w.heap.size < w2.heap.size := (Array.getElem?_eq_some_iff.1 hg2).1
  clear c0 c1 c2 c3
  have c0 := cells_at hg2 0
  have c1 := cells_at hg2 1
  have c2 := cells_at hg2 2
  have c3 := cells_at hg2 3
  have HG2 := Lib.hid hg2
  have HK2 := Lib.hid (knil hk1 hk2)
  clear hg2
  go_upto_region 5 with fail
  obtain ⟨w3, hw3⟩ : ∃ w3, w2.alloc (.cells #[.int .u8 5] 5) = w3 := ⟨_, rfl⟩
  have hk3 : Keeps (fun _ => False) w2 w3 := by rw [← hw3]; exact (Keeps.refl _ w2).alloc _
  have hrow : w3.ownsRow (w.heap.size + 1) 5 1 (.slice (some ⟨w2.heap.size, 0, none⟩) 1 1) 1 [.int .u8 5] := by
    rw [← hw3]
    exact ⟨rfl, .inr ⟨_, 1, #[.int .u8 5], rfl, by omega, heap_alloc_new w2 _, Nat.le_refl _, by unfold maxLen; omega, rfl, rfl⟩⟩
  have hg3 := (hk3.block _ hl2 (fun h => h)).trans HG2.out
  rw [hw3]
  obtain ⟨v3, hv3⟩ : ∃ v3, Value.slice (some ⟨w2.heap.size, 0, none⟩) 1 1 = v3 := ⟨_, rfl⟩
  rw [hv3] at hrow ⊢
  have HK3 := Lib.hid (knil HK2.out hk3)
  clear hw3 hv3 c0 c1 c2 c3
  have c0 := cells_at hg3 0
  have c1 := cells_at hg3 1
  have c2 := cells_at hg3 2
  have c3 := cells_at hg3 3
  have HG3 := Lib.hid hg3
  have hl3 : w.heap.size < w3.heap.size := (Array.getElem?_eq_some_iff.1 hg3).1
  clear hg3
  obtain ⟨x3, hx3⟩ : ∃ x, IntKind.u8.wrap (n : Int) = x := ⟨_, rfl⟩
  go_wp2_with (at_builtin; refine wpList_append_at rfl _ _ 22 rfl (w.heap.size + 1) 5 i0 (.int .u8 0) 1 1 Tryz.underlying22 hi hz0 hz1 hz2 rfl (by decide) _ _ _ rfl (hrow.alloc _) (some ⟨w3.heap.size, 0, none⟩) 1 1 [.int .u8 x3] rfl (fun h => by cases h) rfl ?q51 ?q52 ?q53 ?q54 ?q55 ?_)
  try
   case q51 =>
    intro ad had j u hj
    injection had with had
    subst had
    have hadd : (⟨w3.heap.size, 0, none⟩ : Addr).add j = ⟨w3.heap.size, 0 + j, none⟩ := by unfold Addr.add; split <;> simp_all
    rw [hadd, cell_of_row _ _ _ _ _ _ (heap_alloc_new w3 _), Nat.zero_add]
    simpa using hj
  case q52 => first | (intro u hu; simp at hu; rw [hu]; rfl) | (intro u hu; simp at hu; rcases hu with rfl | rfl <;> rfl) | rfl
  case q53 => unfold maxLen; omega
  case q54 => omega
  case q55 => first | omega | (simp; omega)
  intro v4 w4 hown4 hgrow4 _
  have hK4 := Lib.hid ((HK3.out.alloc _).grown hgrow4 (fun g hg hlt => by have := hrow.lt g hg; omega) : Keeps (fun _ => False) w w4)
  have hKr4 : Keeps (fun j => some j = _) w3 w4 := ((Keeps.refl _ w3).alloc _).grown hgrow4 (fun g hg _ => hg.symm)
  have hg4 := (hKr4.block w.heap.size (by omega) (fun h => by have := hrow.lt _ h.symm; omega)).trans HG3.out
  have hl4 : w.heap.size < w4.heap.size := (Array.getElem?_eq_some_iff.1 hg4).1
  clear c0 c1 c2 c3 hx3
  have c0 := cells_at hg4 0
  have c1 := cells_at hg4 1
  have c2 := cells_at hg4 2
  have c3 := cells_at hg4 3
  have HG4 := Lib.hid hg4
  obtain ⟨aov, cpv, rfl⟩ := shape_own hown4
  have HROW4 := Lib.hid hown4
  clear hg4 hKr4 hgrow4 hown4 hrow
  go_wp2_with fail
  go_loopw [5, 7, 8, 41] (fun s _ _ i wr => ∃ k : Nat, k ≤ n ∧ i = .int .i64 k ∧ ∃ a c L, s = .slice a (2 + k) c ∧ RowKit.Hid (wr.ownsRow (w.heap.size + 1) 5 1 (.slice a (2 + k) c) (2 + k) L) ∧ RowKit.Hid (wr.heap[w.heap.size]? = some (.cells #[.int .i64 5, .int .i64 0, .slice ao n cap, .int .i64 pts] 27 (0, 0))) ∧ RowKit.Hid (Keeps (fun _ => False) w wr)) (fun _ _ _ i _ => n - (intOf i).toNat)
  case atStart => exact ⟨0, Nat.zero_le _, rfl, _, _, _, rfl, HROW4, HG4, hK4⟩
  case round =>
    clear c0 c1 c2 c3 HROW4 HG4 hK4
    obtain ⟨k, hk, rfl, a, c, L, rfl, HROW, HGR, HW⟩ := hrel
    by_cases hkl : k < n
    · have hkI : (k : Int) < (n : Int) := by omega
      have hk0 : (0 : Int) ≤ (k : Int) := by omega
      have hkL : k < l.length := by rw [← HN.out]; exact hkl
      have hr := HR.out.kept HW.out
      obtain ⟨he, _⟩ | ⟨b, off, cap', hv, hb, hc⟩ := hr
      · rw [he] at hkL; cases hkL
      cases hv
      obtain ⟨e0, e1, ao', n', c', e2, hp⟩ := hc k hkL
      obtain ⟨d, hd⟩ : ∃ d, (rg l k).1 = d := ⟨_, rfl⟩
      obtain ⟨m, hm⟩ : ∃ m, (rg l k).2.1 = m := ⟨_, rfl⟩
      rw [hd] at e0
      rw [hm] at e1
      have hlr : w.heap.size < wr.heap.size := (Array.getElem?_eq_some_iff.1 HGR.out).1
      clear hc hp hd hm
      go_upto_region 14 with fail
      obtain ⟨wa, hwa⟩ : ∃ wa, wr.alloc (.cells #[.bool d, .int .i64 m, .slice ao' n' c'] 40) = wa := ⟨_, rfl⟩
      obtain ⟨gb, hgb⟩ : ∃ gb, wr.heap.size = gb := ⟨_, rfl⟩
      have hga := heap_alloc_new wr (.cells #[.bool d, .int .i64 m, .slice ao' n' c'] 40)
      have hka : Keeps (fun _ => False) wr wa := by rw [← hwa]; exact (Keeps.refl _ wr).alloc _
      rw [hwa, hgb] at hga
      rw [hwa]
      try rw [hgb]
      have HA := Lib.hid (knil HW.out hka)
      have HGA := Lib.hid ((hka.block _ hlr (fun h => h)).trans HGR.out)
      have hrow := rowW_nil HROW.out hka
      have hla : w.heap.size < wa.heap.size := by have := hka.size; omega
      clear hwa hgb e0 e1 e2 hka
      have c0 := cells_at hga 0
      have c1 := cells_at hga 1
      have c2 := cells_at hga 2
      clear hga
      obtain ⟨x0, hx0⟩ : ∃ x, IntKind.u8.wrap m = x := ⟨_, rfl⟩
      cases d with
      | false =>
        go_wp2_with (at_builtin; refine wpList_append_at rfl _ _ 22 rfl (w.heap.size + 1) 5 i0 (.int .u8 0) 1 1 Tryz.underlying22 hi hz0 hz1 hz2 rfl (by decide) _ _ _ rfl (hrow.alloc _) (some ⟨wa.heap.size, 0, none⟩) 1 1 [.int .u8 x0] rfl (fun h => by cases h) rfl ?q61 ?q62 ?q63 ?q64 ?q65 ?_)
        try
         case q61 =>
          intro ad had j u hj
          injection had with had
          subst had
          have hadd : (⟨wa.heap.size, 0, none⟩ : Addr).add j = ⟨wa.heap.size, 0 + j, none⟩ := by unfold Addr.add; split <;> simp_all
          rw [hadd, cell_of_row _ _ _ _ _ _ (heap_alloc_new wa _), Nat.zero_add]
          simpa using hj
        case q62 => first | (intro u hu; simp at hu; rw [hu]; rfl) | (intro u hu; simp at hu; rcases hu with rfl | rfl <;> rfl) | rfl
        case q63 => unfold maxLen; omega
        case q64 => omega
        case q65 => first | omega | (simp; omega)
        intro v5 w5 hown5 hgrow5 _
        have hK5 := Lib.hid ((HA.out.alloc _).grown hgrow5 (fun g hg hlt => by have := hrow.lt g hg; omega) : Keeps (fun _ => False) w w5)
        have hKr5 : Keeps (fun j => some j = _) wa w5 := ((Keeps.refl _ wa).alloc _).grown hgrow5 (fun g hg _ => hg.symm)
        have hg5 := (hKr5.block w.heap.size (by omega) (fun h => by have := hrow.lt _ h.symm; omega)).trans HGA.out
        have hl5 : w.heap.size < w5.heap.size := (Array.getElem?_eq_some_iff.1 hg5).1
        obtain ⟨a5, c5, rfl⟩ := shape_own hown5
        have HROW5 := Lib.hid hown5
        have HG5 := Lib.hid hg5
        clear c0 c1 c2 hx0 hown5 hg5 hrow hgrow5 hKr5 HROW HGR HW
        go_wp2_with fail
        go_roundw
        case rel => exact ⟨k + 1, by omega, by go_num, _, _, _, rfl, HROW5, HG5, hK5⟩
        case measure => simp [intOf]; omega
      | true =>
        obtain ⟨x1, hx1⟩ : ∃ y, bits .or .u8 x0 128 = y := ⟨_, rfl⟩
        go_upto_region 17 with fail
        go_wp2_with (at_builtin; refine wpList_append_at rfl _ _ 22 rfl (w.heap.size + 1) 5 i0 (.int .u8 0) 1 1 Tryz.underlying22 hi hz0 hz1 hz2 rfl (by decide) _ _ _ rfl (hrow.alloc _) (some ⟨wa.heap.size, 0, none⟩) 1 1 [.int .u8 x1] rfl (fun h => by cases h) rfl ?q71 ?q72 ?q73 ?q74 ?q75 ?_)
        try
         case q71 =>
          intro ad had j u hj
          injection had with had
          subst had
          have hadd : (⟨wa.heap.size, 0, none⟩ : Addr).add j = ⟨wa.heap.size, 0 + j, none⟩ := by unfold Addr.add; split <;> simp_all
          rw [hadd, cell_of_row _ _ _ _ _ _ (heap_alloc_new wa _), Nat.zero_add]
          simpa using hj
        case q72 => first | (intro u hu; simp at hu; rw [hu]; rfl) | (intro u hu; simp at hu; rcases hu with rfl | rfl <;> rfl) | rfl
        case q73 => unfold maxLen; omega
        case q74 => omega
        case q75 => first | omega | (simp; omega)
        intro v5 w5 hown5 hgrow5 _
        have hK5 := Lib.hid ((HA.out.alloc _).grown hgrow5 (fun g hg hlt => by have := hrow.lt g hg; omega) : Keeps (fun _ => False) w w5)
        have hKr5 : Keeps (fun j => some j = _) wa w5 := ((Keeps.refl _ wa).alloc _).grown hgrow5 (fun g hg _ => hg.symm)
        have hg5 := (hKr5.block w.heap.size (by omega) (fun h => by have := hrow.lt _ h.symm; omega)).trans HGA.out
        have hl5 : w.heap.size < w5.heap.size := (Array.getElem?_eq_some_iff.1 hg5).1
        obtain ⟨a5, c5, rfl⟩ := shape_own hown5
        have HROW5 := Lib.hid hown5
        have HG5 := Lib.hid hg5
        clear c0 c1 c2 hx0 hx1 hown5 hg5 hrow hgrow5 hKr5 HROW HGR HW
        go_wp2_with fail
        go_roundw
        case rel => exact ⟨k + 1, by omega, by go_num, _, _, _, rfl, HROW5, HG5, hK5⟩
        case measure => simp [intOf]; omega
    · obtain rfl : k = n := by omega
      have hg := HGR.out
      have c0 := cells_at hg 0
      have c1 := cells_at hg 1
      have c2 := cells_at hg 2
      have c3 := cells_at hg 3
      clear hg
      have hlr : w.heap.size < wr.heap.size := (Array.getElem?_eq_some_iff.1 HGR.out).1
      have hrow := HROW.out
      obtain ⟨x0, hx0⟩ : ∃ x, IntKind.u8.wrap pts = x := ⟨_, rfl⟩
      obtain ⟨x1, hx1⟩ : ∃ x, IntKind.u8.wrap (pts / 256) = x := ⟨_, rfl⟩
      go_upto_region 20 with fail
      go_wp2_with (at_builtin; refine wpList_append_at rfl _ _ 22 rfl (w.heap.size + 1) 5 i0 (.int .u8 0) 1 1 Tryz.underlying22 hi hz0 hz1 hz2 rfl (by decide) _ _ _ rfl (hrow.alloc _) (some ⟨wr.heap.size, 0, none⟩) 2 2 [.int .u8 x0, .int .u8 x1] rfl (fun h => by cases h) rfl ?q81 ?q82 ?q83 ?q84 ?q85 ?_)
      try
       case q81 =>
        intro ad had j u hj
        injection had with had
        subst had
        have hadd : (⟨wr.heap.size, 0, none⟩ : Addr).add j = ⟨wr.heap.size, 0 + j, none⟩ := by unfold Addr.add; split <;> simp_all
        rw [hadd, cell_of_row _ _ _ _ _ _ (heap_alloc_new wr _), Nat.zero_add]
        simpa using hj
      case q82 => first | (intro u hu; simp at hu; rw [hu]; rfl) | (intro u hu; simp at hu; rcases hu with rfl | rfl <;> rfl) | rfl
      case q83 => unfold maxLen; omega
      case q84 => omega
      case q85 => first | omega | (simp; omega)
      intro v5 w5 hown5 hgrow5 _
      have hK5 := Lib.hid ((HW.out.alloc _).grown hgrow5 (fun g hg hlt => by have := hrow.lt g hg; omega) : Keeps (fun _ => False) w w5)
      have hKr5 : Keeps (fun j => some j = _) wr w5 := ((Keeps.refl _ wr).alloc _).grown hgrow5 (fun g hg _ => hg.symm)
      have hg5 := (hKr5.block w.heap.size (by omega) (fun h => by have := hrow.lt _ h.symm; omega)).trans HGR.out
      have hl5 : w.heap.size < w5.heap.size := (Array.getElem?_eq_some_iff.1 hg5).1
      obtain ⟨a5, c5, rfl⟩ := shape_own hown5
      have HROW5 := Lib.hid (row_mono hown5 (show w.heap.size ≤ w.heap.size + 1 by omega))
      clear c0 c1 c2 c3 hx0 hx1 hown5 hg5 hrow hgrow5 hKr5 HROW HGR HW
      go_wp2_with fail
      go_ret2
      exact ⟨⟨_, _, _, rfl, by omega, HROW5.out⟩, hK5.out⟩
theorem format_calls (v : Value) (h : Hd) (ho : HdOk h) (w : World) (hv : HdAt w v h) : Calls Tryz.prog 90 #[v] w (Formatted w) := by
  have hck : ∀ W, Keeps (fun _ => False) w W → Calls Tryz.prog 128 #[v] W fun e w' => e = .returned (.int .i64 0) ∧ Keeps (fun _ => False) W w' := fun W hk => check_calls v h ho W (hv.kept hk)
  obtain ⟨ao, cap, rfl, hr, hnil⟩ := hv
  obtain ⟨op, vt, rs, pts⟩ := h
  rcases ho with ⟨h1 | h1, h2, h3, h4⟩ | ⟨h1, ⟨h2, h2'⟩, h3, h4⟩ | ⟨⟨h1, h4⟩ | ⟨h1, h4, h4'⟩, h2, ⟨h3, h3'⟩, h5, h6⟩
  · simp only at h1 h2 h3 h4 hnil hck ⊢
    subst h1; subst h2; subst h3; subst h4
    obtain ⟨rfl, rfl⟩ := hnil rfl
    exact format_1 w hck
  · simp only at h1 h2 h3 h4 hnil hck ⊢
    subst h1; subst h2; subst h3; subst h4
    obtain ⟨rfl, rfl⟩ := hnil rfl
    exact format_2 w hck
  · simp only at h1 h2 h2' h3 h4 hnil hck ⊢
    subst h1; subst h3; subst h4
    obtain ⟨rfl, rfl⟩ := hnil rfl
    exact format_3 vt w hck
  · simp only at h1 h2 h3 h3' h4 hr hck ⊢
    subst h1; subst h2; subst h4
    exact format_4 ao _ cap rs rfl h3' w hck hr
  · simp only at h1 h2 h3 h3' h4 h4' hr hck ⊢
    subst h1; subst h2
    exact format_5 ao _ cap rs pts rfl h3' h4 h4' w hck hr
end Go.Proofs.YtmoajobnhiopiaaGreatDoor.sv
set_option linter.unusedSimpArgs false
set_option linter.unusedVariables false
namespace Go.Proofs.YtmoajobnhiopiaaGreatDoor.sv
open Go Go.RowKit Go.Shelf Go.Maps Go.Proofs.YtmoajobnhiopiaaGreatDoor.mk Go.Proofs.YtmoajobnhiopiaaGreatDoor.tp Go.Proofs.YtmoajobnhiopiaaGreatDoor.rg Go.Proofs.YtmoajobnhiopiaaGreatDoor.lm Go.Proofs.YtmoajobnhiopiaaGreatDoor.gm Go.Proofs.YtmoajobnhiopiaaGreatDoor.po
open List renaming getElem_toArray → ga, getElem_cons_zero → gb, getElem_cons_succ → gc, setIfInBounds_toArray → gd, set_cons_zero → ge, set_cons_succ → gf
def Fits (h : Hd) (rs : List Reg) (ps : List (Int × Int)) (qs : List Qry) : Prop :=
  rs.length = h.rs.length ∧ (∀ i, i < h.rs.length → (rg rs i).1 = (rg h.rs i).1 ∧ (rg rs i).2.1 = (rg h.rs i).2.1 ∧ ((rg rs i).2.2.length : Int) = sizeR (rg h.rs i).2.1) ∧ (ps.length : Int) = cntP h ∧ (qs.length : Int) = cntQ h
set_option maxRecDepth 100000 in
theorem eachP_none (ao : Option Addr) (cap : Nat) (f : Value) (w : World) : Calls Tryz.prog 118 #[.slice ao 0 cap, f] w fun e w' => e = .returned (.tuple #[]) ∧ w' = w := by
  go_enter Tryz.func118, Tryz.ntmps118
  go_wp2
  go_loopw [5, 8] (fun _ i wr => i = .int .i64 0 ∧ wr = w) (fun _ _ _ => 0)
  case atStart => exact ⟨rfl, rfl⟩
  case round =>
    obtain ⟨rfl, rfl⟩ := hrel
    go_wp2
    go_end0
    exact ⟨rfl, rfl⟩
theorem eachP_any (w00 w0 : World) (v0 v : Value) (bw B n : Nat) (l : List (Int × Int)) (hl : l.length ≤ 66) (hn : n ≤ 800000) (hB : B ≤ w0.heap.size) (hbw : bw < w0.heap.size) (hne : v0.ownBlock ≠ some bw)
    (hp : ptsAt w00 v l) (hk0 : Keeps (fun _ => False) w00 w0) (hbw0 : w00.heap.size ≤ bw) (hv0 : ∀ j, v0.ownBlock = some j → w00.heap.size ≤ j) (w : World) (h : Wr w0 v0 bw B n w) :
    Calls Tryz.prog 118 #[v, .func (.func 119) #[.pointer (some ⟨bw, 0, none⟩)] #[]] w fun e w' => e = .returned (.tuple #[]) ∧ Wr w0 v0 bw B (n + 16 * l.length) w' := by
  rcases hp with ⟨rfl, ao, cap, rfl⟩ | ⟨b, off, cap, rfl, hb, hc⟩
  · exact (eachP_none ao cap _ w).mono fun e w' ⟨he, hw⟩ => ⟨he, by rw [hw]; exact h⟩
  · exact each_calls w0 v0 bw B n b off cap l hl hn hB hbw hne (Nat.lt_of_lt_of_le hb hk0.size) (by omega) (fun h => by have := hv0 b h; omega) (fun i hi => ⟨(hk0.cell (p := ⟨b, off + i * 2, none⟩) hb (fun h => h)).trans (hc i hi).1, (hk0.cell (p := ⟨b, off + i * 2 + 1, none⟩) hb (fun h => h)).trans (hc i hi).2⟩) w h
set_option maxRecDepth 100000 in
set_option maxHeartbeats 2000000 in
theorem wquery_calls (w0 : World) (v0 : Value) (bw B n : Nat) (p : Qry) (hid : IsU p.2) (hn : n ≤ 900000) (hB : B ≤ w0.heap.size) (hbw : bw < w0.heap.size) (hne : v0.ownBlock ≠ some bw) (w : World) (h : Wr w0 v0 bw B n w) :
    Calls Tryz.prog 121 #[.pointer (some ⟨bw, 0, none⟩), .agg #[.int .i64 p.1.1, .int .i64 p.1.2, .int .u64 p.2]] w fun e w' => e = .returned (.tuple #[]) ∧ Wr w0 v0 bw B (n + 24) w' := by
  obtain ⟨v1, hW, hne1, hvlt, hback⟩ := h.step hbw hne
  have H := Lib.hid hW
  have HNE := Lib.hid hne1
  have HVL := Lib.hid hvlt
  have HBK := Lib.hid hback
  have hbw1 : bw < w.heap.size := Nat.lt_of_lt_of_le hbw h.keeps.size
  have hBw : B ≤ w.heap.size := Nat.le_trans hB h.keeps.size
  have HID := Lib.hid hid
  clear h hW hne1 hvlt hback hne hid
  go_enter Tryz.func121, Tryz.ntmps121
  go_upto_region 1 with fail
  obtain ⟨w1, hw1⟩ : ∃ w1, w.alloc (.cells #[.int .i64 p.1.1, .int .i64 p.1.2, .int .u64 p.2] 45) = w1 := ⟨_, rfl⟩
  have hg := heap_alloc_new w (.cells #[.int .i64 p.1.1, .int .i64 p.1.2, .int .u64 p.2] 45)
  have hk1 : Keeps (fun _ => False) w w1 := by rw [← hw1]; exact (Keeps.refl _ w).alloc _
  rw [hw1] at hg ⊢
  clear hw1
  have c0 := cells_at hg 0
  have c1 := cells_at hg 1
  have c2 := cells_at hg 2
  have H1 := Lib.hid (H.out w1 hk1)
  have hl1 : w.heap.size < w1.heap.size := (Array.getElem?_eq_some_iff.1 hg).1
  clear hg
  go_wp2_with fail
  refine (wpoint_calls w1 v1 bw B n p.1 (by omega) (by omega) (by omega) HNE.out w1 H1.out).mono ?_; rintro e w2 ⟨rfl, h2⟩
  have d2 := (h2.keeps.cell (p := ⟨w.heap.size, 2, none⟩) hl1 (by
    rintro (h | h)
    · have h' : w.heap.size = bw := h
      omega
    · have h' := HVL.out w.heap.size h.symm
      omega)).trans c2
  have H2 := Lib.hid h2
  clear c0 c1 c2 h2
  go_wp2_with fail
  refine (wword_calls w1 v1 bw B (n + 16) _ HID.out (by omega) (by omega) (by omega) HNE.out w2 H2.out).mono ?_; rintro e w3 ⟨rfl, h3⟩
  have H3 := Lib.hid h3
  clear h3 d2
  go_wp2
  go_end0
  exact ⟨rfl, HBK.out _ _ _ hk1 H3.out⟩
def QsOk (l : List Qry) : Prop := ∀ q ∈ l, Pt q.1 ∧ IsU q.2
theorem QsOk.at {l : List Qry} (h : QsOk l) (i : Nat) : Pt (qy l i).1 ∧ IsU (qy l i).2 := by
  unfold qy
  rw [List.getD_eq_getElem?_getD]
  cases hi : l[i]? with
  | none => exact ⟨by unfold Pt IsS; decide, by unfold IsU; decide⟩
  | some x => exact h x (List.mem_of_getElem? hi)
set_option maxRecDepth 100000 in
set_option maxHeartbeats 4000000 in
theorem eachQ_calls (w00 w0 : World) (v0 v : Value) (bw B n : Nat) (l : List Qry) (hok : QsOk l) (hl : l.length ≤ 4096) (hn : n ≤ 700000) (hB : B ≤ w0.heap.size) (hbw : bw < w0.heap.size) (hne : v0.ownBlock ≠ some bw)
    (hp : qsAt w00 v l) (hk0 : Keeps (fun _ => False) w00 w0) (hbw0 : w00.heap.size ≤ bw) (hv0 : ∀ j, v0.ownBlock = some j → w00.heap.size ≤ j) (w : World) (h : Wr w0 v0 bw B n w) :
    Calls Tryz.prog 120 #[v, .func (.func 121) #[.pointer (some ⟨bw, 0, none⟩)] #[]] w fun e w' => e = .returned (.tuple #[]) ∧ Wr w0 v0 bw B (n + 24 * l.length) w' := by
  rcases hp with ⟨rfl, ao, cap, rfl⟩ | ⟨bb, oo, cc, rfl, hb, hc⟩
  · exact (eachQ_none ao cap _ w).mono fun e w' ⟨he, hw⟩ => ⟨he, by rw [hw]; exact h⟩
  have H := Lib.hid h
  have HNE := Lib.hid hne
  have HOK := Lib.hid hok
  have HNS := Lib.hid (show ¬ (bb = bw ∨ some bb = v0.ownBlock) by
    rintro (h | h)
    · omega
    · have := hv0 bb h.symm; omega)
  have hb0 := Nat.lt_of_lt_of_le hb hk0.size
  have HC := Lib.hid (fun i (hi : i < l.length) => And.intro ((hk0.cell (p := ⟨bb, oo + i * 3, none⟩) hb (fun h => h)).trans (hc i hi).1) (And.intro ((hk0.cell (p := ⟨bb, oo + i * 3 + 1, none⟩) hb (fun h => h)).trans (hc i hi).2.1) ((hk0.cell (p := ⟨bb, oo + i * 3 + 2, none⟩) hb (fun h => h)).trans (hc i hi).2.2)))
  clear h hne hc hok hv0
  go_enter Tryz.func120, Tryz.ntmps120
  go_wp2
  go_loopw [5, 8] (fun _ i wr => ∃ k : Nat, k ≤ l.length ∧ i = .int .i64 k ∧ RowKit.Hid (Wr w0 v0 bw B (n + 24 * k) wr)) (fun _ i _ => l.length - (intOf i).toNat)
  case atStart => exact ⟨0, Nat.zero_le _, rfl, H.out⟩
  case round =>
    obtain ⟨k, hk, rfl, HW⟩ := hrel
    by_cases hkl : k < l.length
    · have hkI : (k : Int) < (l.length : Int) := by omega
      have hk0' : (0 : Int) ≤ (k : Int) := by omega
      have c0 := (HW.out.keeps.cell (p := ⟨bb, oo + k * 3, none⟩) hb0 HNS.out).trans (HC.out k hkl).1
      have c1 := (HW.out.keeps.cell (p := ⟨bb, oo + k * 3 + 1, none⟩) hb0 HNS.out).trans (HC.out k hkl).2.1
      have c2 := (HW.out.keeps.cell (p := ⟨bb, oo + k * 3 + 2, none⟩) hb0 HNS.out).trans (HC.out k hkl).2.2
      have HW2 := Lib.hid (HW.out.kept ((Keeps.refl _ wr).alloc (.cells #[.int .i64 (qy l k).1.1, .int .i64 (qy l k).1.2, .int .u64 (qy l k).2] 45)))
      go_wp2_with fail
      refine (wquery_calls w0 v0 bw B (n + 24 * k) (qy l k) (HOK.out.at k).2 (by omega) hB hbw HNE.out _ HW2.out).mono ?_; rintro e w3 ⟨rfl, h3⟩
      have H3 := Lib.hid h3
      clear h3 c0 c1 c2
      go_wp2
      go_roundw
      case rel => exact ⟨k + 1, by omega, by go_num, H3⟩
      case measure => simp [intOf]; omega
    · obtain rfl : k = l.length := by omega
      go_wp2
      go_end0
      exact ⟨rfl, HW.out⟩
set_option maxRecDepth 100000 in
set_option maxHeartbeats 8000000 in
theorem encode_calls (v : Value) (h : Hd) (rs : List Reg) (ps : List (Int × Int)) (qs : List Qry) (ho : HdOk h) (hf : Fits h rs ps qs) (hqo : QsOk qs) (w : World) (hv : RqAt w v h rs ps qs) :
    Calls Tryz.prog 87 #[v] w fun e w' => (∃ v, e = .returned (.tuple #[v, .int .i64 0])) ∧ Keeps (fun _ => False) w w' := by
  obtain ⟨hf1, hf2, hf3, hf4⟩ := hf
  obtain ⟨hpay, hp0, hp1, hq0, hq1, hpp⟩ := payH_parts ho
  obtain ⟨ah, ch, vr, vp, vq, rfl, hreg, hz, hrr, hpt, hqq, _⟩ := hv
  have HFM := Lib.hid (fun W v (hv : HdAt W v h) => format_calls v h ho W hv)
  have HCT := Lib.hid (fun W v (hv : HdAt W v h) => counts_calls v h ho W hv)
  have hHA := Lib.hid (show HdAt w (.agg #[.int .i64 h.op, .int .i64 h.vt, .slice ah h.rs.length ch, .int .i64 h.pts]) h from ⟨ah, ch, rfl, hreg, hz⟩)
  obtain ⟨ar, cr, rfl⟩ := hrr.shape
  obtain ⟨ap, cp, rfl⟩ := ptsAt.shape hpt
  obtain ⟨aq, cq, rfl⟩ := hqq.shape
  rw [hf1] at hrr ⊢
  have hK64 : h.rs.length ≤ 64 := by
    rcases ho with ⟨_, _, h3, _⟩ | ⟨_, _, h3, _⟩ | ⟨_, _, ⟨_, h3⟩, _⟩
    · rw [h3]; simp
    · rw [h3]; simp
    · exact h3
  rw [← hf3, ← hf4] at HCT
  rw [← hf3] at hp1
  rw [← hf4] at hq1
  obtain ⟨NP, hNP⟩ : ∃ N, ps.length = N := ⟨_, rfl⟩
  obtain ⟨NQ, hNQ⟩ : ∃ N, qs.length = N := ⟨_, rfl⟩
  rw [hNP] at HCT hpt hp1 ⊢
  rw [hNQ] at HCT hqq hq1 ⊢
  obtain ⟨K, hK⟩ : ∃ K, h.rs.length = K := ⟨_, rfl⟩
  rw [hK] at hf1 hf2 hK64 hHA hreg hrr ⊢
  have hNP65 : NP ≤ 65 := by omega
  have hNQ4 : NQ ≤ 4096 := by omega
  have HRR := Lib.hid hrr
  have HREG := Lib.hid hreg
  have HPT := Lib.hid hpt
  have HQQ := Lib.hid hqq
  have HF2 := Lib.hid hf2
  have HF1 := Lib.hid hf1
  have HK := Lib.hid hK
  have HNP := Lib.hid hNP
  have HNQ := Lib.hid hNQ
  have HQO := Lib.hid hqo
  obtain ⟨xo, hxo⟩ : ∃ xo, h.op = xo := ⟨_, rfl⟩
  obtain ⟨xv, hxv⟩ : ∃ xv, h.vt = xv := ⟨_, rfl⟩
  obtain ⟨xp, hxp⟩ : ∃ xp, h.pts = xp := ⟨_, rfl⟩
  rw [hxo, hxv, hxp] at hHA ⊢
  clear hf1 hf2 hf3 hf4 hpay hp0 hp1 hq0 hq1 hpp hz hrr hpt hqq hreg hK hNP hNQ hxo hxv hxp hqo ho
  go_enter Tryz.func87, Tryz.ntmps87
  go_upto_region 1 with fail
  obtain ⟨w1, hw1⟩ : ∃ w1, w.alloc (.cells #[.int .i64 xo, .int .i64 xv, .slice ah K ch, .int .i64 xp, .slice ar K cr, .slice ap NP cp, .slice aq NQ cq] 105) = w1 := ⟨_, rfl⟩
  have hg := heap_alloc_new w (.cells #[.int .i64 xo, .int .i64 xv, .slice ah K ch, .int .i64 xp, .slice ar K cr, .slice ap NP cp, .slice aq NQ cq] 105)
  have hk1 : Keeps (fun _ => False) w w1 := by rw [← hw1]; exact (Keeps.refl _ w).alloc _
  rw [hw1] at hg ⊢
  clear hw1
  have hl1 : w.heap.size < w1.heap.size := (Array.getElem?_eq_some_iff.1 hg).1
  have c0 := cells_at hg 0
  have c1 := cells_at hg 1
  have c2 := cells_at hg 2
  have c3 := cells_at hg 3
  have c4 := cells_at hg 4
  have c5 := cells_at hg 5
  have c6 := cells_at hg 6
  have HG1 := Lib.hid hg
  clear hg
  go_wp2_with fail
  refine (HFM.out w1 _ (hHA.out.kept hk1)).mono ?_; rintro e w2 ⟨⟨vf, nf, lf, rfl, hnf, hvf⟩, hk2⟩
  obtain ⟨avf, cvf, rfl⟩ := shape_own hvf
  have hg := (hk2.block _ hl1 (fun h => h)).trans HG1.out
  have hk12 := knil hk1 hk2
  have HVF := Lib.hid hvf
  clear c0 c1 c2 c3 c4 c5 c6 hvf
  have c0 := cells_at hg 0
  have c1 := cells_at hg 1
  have c2 := cells_at hg 2
  have c3 := cells_at hg 3
  have c4 := cells_at hg 4
  have c5 := cells_at hg 5
  have c6 := cells_at hg 6
  clear hg
  go_wp2_with fail
  refine (HCT.out w2 _ (hHA.out.kept hk12)).mono ?_; rintro e w3 ⟨rfl, hk3⟩
  have hk13 := knil hk2 hk3
  have hk03 := knil hk1 hk13
  have hl3 : w.heap.size < w3.heap.size := Nat.lt_of_lt_of_le hl1 hk13.size
  have hg := (hk13.block _ hl1 (fun h => h)).trans HG1.out
  have HG3 := Lib.hid hg
  have HVF3 := Lib.hid (rowW_nil HVF.out hk3)
  clear c0 c1 c2 c3 c4 c5 c6
  have c0 := cells_at hg 0
  have c1 := cells_at hg 1
  have c2 := cells_at hg 2
  have c3 := cells_at hg 3
  have c4 := cells_at hg 4
  have c5 := cells_at hg 5
  have c6 := cells_at hg 6
  clear hg
  go_wp2_with fail
  go_loopw [5, 8, 9, 10, 54] (fun e5 _ _ _ i wr => e5 = .int .i64 0 ∧ ∃ k : Nat, k ≤ K ∧ i = .int .i64 k ∧ RowKit.Hid (Keeps (fun _ => False) w3 wr)) (fun _ _ _ _ i _ => K - (intOf i).toNat)
  case atStart => exact ⟨rfl, 0, Nat.zero_le _, rfl, Lib.hid (Keeps.refl _ _)⟩
  case round =>
    clear c0 c1 c2 c3 c4 c5 c6
    obtain ⟨rfl, k, hk, rfl, HW⟩ := hrel
    have hkw := knil hk03 HW.out
    have hg := (HW.out.block _ hl3 (fun h => h)).trans HG3.out
    have c0 := cells_at hg 0
    have c1 := cells_at hg 1
    have c2 := cells_at hg 2
    have c3 := cells_at hg 3
    have c4 := cells_at hg 4
    have c5 := cells_at hg 5
    have c6 := cells_at hg 6
    clear hg
    by_cases hkl : k < K
    · have hkI : (k : Int) < (K : Int) := by omega
      have hk0 : (0 : Int) ≤ (k : Int) := by omega
      obtain ⟨br, orr, hbr, har, hr1⟩ : ∃ br orr, br < w.heap.size ∧ ar = some ⟨br, orr, none⟩ ∧ regC w br (orr + k * 3) (rg rs k) := by
        rcases HRR.out with ⟨h0, _⟩ | ⟨b, o, c, he, hb, hc⟩
        · have := HF1.out; rw [h0] at this; simp at this; omega
        · injection he with h1 h2 h3
          exact ⟨b, o, hb, h1, hc k (by rw [HF1.out]; exact hkl)⟩
      obtain ⟨bh, oh, hbh, hah, hr2⟩ : ∃ bh oh, bh < w.heap.size ∧ ah = some ⟨bh, oh, none⟩ ∧ regC w bh (oh + k * 3) (rg h.rs k) := by
        rcases HREG.out with ⟨h0, _⟩ | ⟨b, o, c, he, hb, hc⟩
        · have := HK.out; rw [h0] at this; simp at this; omega
        · injection he with h1 h2 h3
          exact ⟨b, o, hb, h1, hc k (by rw [HK.out]; exact hkl)⟩
      subst har
      subst hah
      obtain ⟨e0, e1, an, ln, cn, e2, hpn⟩ := hr1.kept hbr hkw
      obtain ⟨f0, f1, ao2, n2, cz, f2, _⟩ := hr2.kept hbh hkw
      obtain ⟨hf21, hf22, hf23⟩ := HF2.out k hkl
      obtain ⟨s, hs⟩ : ∃ s, (rg rs k).2.2.length = s := ⟨_, rfl⟩
      obtain ⟨an', cn', hsh⟩ := ptsAt.shape hpn
      injection hsh with hsh1 hsh2 hsh3
      subst hsh2
      rw [hf21] at e0
      rw [hf22] at e1
      rw [hs] at e2 hf23
      obtain ⟨d, hd⟩ : ∃ d, (rg h.rs k).1 = d := ⟨_, rfl⟩
      obtain ⟨m, hm⟩ : ∃ m, (rg h.rs k).2.1 = m := ⟨_, rfl⟩
      rw [hd] at e0 f0
      rw [hm] at e1 f1 hf23
      have HS := Lib.hid hf23.symm
      have hl3r : w.heap.size < wr.heap.size := Nat.lt_of_lt_of_le hl3 HW.out.size
      clear hf21 hf22 hf23 hpn hsh1 hsh3 hd hm hs hr1 hr2
      go_upto_region 10 with fail
      obtain ⟨wa, hwa⟩ : ∃ wa, wr.alloc (.cells #[.bool d, .int .i64 m, .slice an s cn] 40) = wa := ⟨_, rfl⟩
      obtain ⟨g9, hg9⟩ : ∃ g, wr.heap.size = g := ⟨_, rfl⟩
      have hga := heap_alloc_new wr (.cells #[.bool d, .int .i64 m, .slice an s cn] 40)
      have hka : Keeps (fun _ => False) wr wa := by rw [← hwa]; exact (Keeps.refl _ wr).alloc _
      rw [hwa, hg9] at hga
      rw [hwa]
      try rw [hg9]
      have HGA := Lib.hid hga
      have g0 := (hka.cell (p := ⟨bh, oh + k * 3, none⟩) (Nat.lt_of_lt_of_le hbh hkw.size) (fun h => h)).trans f0
      have g1 := (hka.cell (p := ⟨bh, oh + k * 3 + 1, none⟩) (Nat.lt_of_lt_of_le hbh hkw.size) (fun h => h)).trans f1
      have g2 := (hka.cell (p := ⟨bh, oh + k * 3 + 2, none⟩) (Nat.lt_of_lt_of_le hbh hkw.size) (fun h => h)).trans f2
      have hgq := (hka.block _ hl3r (fun h => h)).trans ((HW.out.block _ hl3 (fun h => h)).trans HG3.out)
      have HG9 := Lib.hid hg9
      have hg9w : g9 < wa.heap.size := (Array.getElem?_eq_some_iff.1 hga).1
      clear hwa hg9 e0 e1 e2 f0 f1 f2 c0 c1 c2 c3 c4 c5 c6 hga
      have c0 := cells_at hgq 0
      have c1 := cells_at hgq 1
      have c2 := cells_at hgq 2
      have c3 := cells_at hgq 3
      have c4 := cells_at hgq 4
      have c5 := cells_at hgq 5
      have c6 := cells_at hgq 6
      clear hgq
      go_upto_region 11 with fail
      obtain ⟨wb, hwb⟩ : ∃ wb, wa.alloc (.cells #[.bool d, .int .i64 m, .slice ao2 n2 cz] 40) = wb := ⟨_, rfl⟩
      obtain ⟨ga, hga⟩ : ∃ g, wa.heap.size = g := ⟨_, rfl⟩
      have hgb := heap_alloc_new wa (.cells #[.bool d, .int .i64 m, .slice ao2 n2 cz] 40)
      have hkb : Keeps (fun _ => False) wa wb := by rw [← hwb]; exact (Keeps.refl _ wa).alloc _
      rw [hwb, hga] at hgb
      rw [hwb]
      try rw [hga]
      have h9b := (hkb.block g9 hg9w (fun h => h)).trans HGA.out
      have hgal : ga < wb.heap.size := (Array.getElem?_eq_some_iff.1 hgb).1
      have hg9l : g9 < wb.heap.size := (Array.getElem?_eq_some_iff.1 h9b).1
      have c02 : wb.cell? ⟨g9, 2, none⟩ = some (.slice an s cn) := cells_at h9b 2
      have c10 : wb.cell? ⟨ga, 0, none⟩ = some (.bool d) := cells_at hgb 0
      have c11 : wb.cell? ⟨ga, 1, none⟩ = some (.int .i64 m) := cells_at hgb 1
      have c12 : wb.cell? ⟨ga, 2, none⟩ = some (.slice ao2 n2 cz) := cells_at hgb 2
      have HKB := Lib.hid (knil (knil HW.out hka) hkb)
      have H9B := Lib.hid h9b
      have HGB := Lib.hid hgb
      clear hwb hga hgb h9b g0 g1 g2 c0 c1 c2 c3 c4 c5 c6
      refine wp_region_late (fun W => W.cell? ⟨g9, 2, none⟩ = some (.slice an s cn) ∧ W.cell? ⟨ga, 0, none⟩ = some (.bool d) ∧ W.cell? ⟨ga, 1, none⟩ = some (.int .i64 m) ∧ W.cell? ⟨ga, 2, none⟩ = some (.slice ao2 n2 cz)) [] (by kernel_rfl) ?_
      have hS : wb.drew.cell? ⟨g9, 2, none⟩ = some (.slice an s cn) ∧ wb.drew.cell? ⟨ga, 0, none⟩ = some (.bool d) ∧ wb.drew.cell? ⟨ga, 1, none⟩ = some (.int .i64 m) ∧ wb.drew.cell? ⟨ga, 2, none⟩ = some (.slice ao2 n2 cz) := ⟨c02, c10, c11, c12⟩
      have HKD := Lib.hid (show Keeps (fun _ => False) w3 wb.drew from HKB.out.drewN 1)
      have hgal : ga < wb.drew.heap.size := hgal
      have hg9l : g9 < wb.drew.heap.size := hg9l
      have H9D := Lib.hid (show wb.drew.heap[g9]? = some (.cells #[.bool d, .int .i64 m, .slice an s cn] 40 (0, 0)) from H9B.out)
      have HGD := Lib.hid (show wb.drew.heap[ga]? = some (.cells #[.bool d, .int .i64 m, .slice ao2 n2 cz] 40 (0, 0)) from HGB.out)
      clear c02 c10 c11 c12 HKB H9B HGB
      generalize wb.drew = wd at hS HKD hgal hg9l H9D HGD ⊢
      refine tkA 0 (.pointer (some ⟨g9, 2, none⟩)) rfl (by kernel_rfl) (fun _ _ _ h => (h : False).elim) (by kernel_rfl) (fun _ => ‹_›) ?_ ?_
      · intro w _; go_simp
      try simp only [ga, gb, gc, Act.put, gd, ge, gf]
      refine tkL 1 (.slice an s cn) rfl (by kernel_rfl) (fun _ _ _ h => (h : False).elim) (by kernel_rfl) ‹_› ?_ ?_
      · intro w hSw
        obtain ⟨s0, s1, s2, s3⟩ := hSw
        go_simp
      try simp only [ga, gb, gc, Act.put, gd, ge, gf]
      refine tkA 2 (.int .i64 s) rfl (by kernel_rfl) (fun _ _ _ h => (h : False).elim) (by kernel_rfl) (fun _ => ‹_›) ?_ ?_
      · intro w _; go_simp
      try simp only [ga, gb, gc, Act.put, gd, ge, gf]
      refine tkL 3 (.agg #[.bool d, .int .i64 m, .slice ao2 n2 cz]) rfl (by kernel_rfl) (fun _ _ _ h => (h : False).elim) (by kernel_rfl) ‹_› ?_ ?_
      · intro w hSw
        obtain ⟨s0, s1, s2, s3⟩ := hSw
        go_simp
      try simp only [ga, gb, gc, Act.put, gd, ge, gf]
      refine wpAnyL_next (i := 4) (by kernel_rfl) rfl (fun K hK => ?_)
      go_simp
      refine (size_calls _ _ _ _ _ _).mono ?_; rintro e wz ⟨rfl, hkz⟩
      rw [HS.out]
      have HKZ := Lib.hid (knil HKD.out hkz)
      have hSz : wz.cell? ⟨g9, 2, none⟩ = some (.slice an s cn) ∧ wz.cell? ⟨ga, 0, none⟩ = some (.bool d) ∧ wz.cell? ⟨ga, 1, none⟩ = some (.int .i64 m) ∧ wz.cell? ⟨ga, 2, none⟩ = some (.slice ao2 n2 cz) := ⟨(hkz.cell (p := ⟨g9, 2, none⟩) hg9l (fun h => h)).trans hS.1, (hkz.cell (p := ⟨ga, 0, none⟩) hgal (fun h => h)).trans hS.2.1, (hkz.cell (p := ⟨ga, 1, none⟩) hgal (fun h => h)).trans hS.2.2.1, (hkz.cell (p := ⟨ga, 2, none⟩) hgal (fun h => h)).trans hS.2.2.2⟩
      go_wp2_with fail
      refine hK.out _ _ hSz (fun hHeld => ?_)
      clear hK K
      try simp only [ga, gb, gc, Act.put, gd, ge, gf]
      refine tkA 5 (.bool false) rfl (by kernel_rfl) (fun _ _ _ h => (h : False).elim) (by kernel_rfl) (fun _ => ‹_›) ?_ ?_
      · intro w _; go_simp
      try simp only [ga, gb, gc, Act.put, gd, ge, gf]
      refine tkA 6 (.bool false) rfl (by kernel_rfl) (fun _ _ _ h => (h : False).elim) (by kernel_rfl) (fun _ => ‹_›) ?_ ?_
      · intro w _; go_simp
      try simp only [ga, gb, gc, Act.put, gd, ge, gf]
      refine wpAnyL_done (by kernel_rfl) ?_ _
      refine NoPanic.normal ?_
      obtain ⟨s02, s10, s11, s12⟩ := hSz
      have hgq := (HKZ.out.block _ hl3 (fun h => h)).trans HG3.out
      have h9z := (hkz.block g9 hg9l (fun h => h)).trans H9D.out
      have c00 := cells_at h9z 0
      have c01 := cells_at h9z 1
      clear h9z hgq hS s02 s12
      go_wp2_with fail
      go_roundw
      case rel => exact ⟨rfl, k + 1, by omega, by go_num, HKZ⟩
      case measure => simp [intOf]; omega
    · obtain rfl : k = K := by omega
      go_upto_region 19 with fail
      obtain ⟨wA, hwA⟩ : ∃ wA, wr.alloc (.cells #[.slice avf nf cvf] 155) = wA := ⟨_, rfl⟩
      obtain ⟨bw, hbw⟩ : ∃ bw, wr.heap.size = bw := ⟨_, rfl⟩
      have hgw := heap_alloc_new wr (.cells #[.slice avf nf cvf] 155)
      have hkA : Keeps (fun _ => False) wr wA := by rw [← hwA]; exact (Keeps.refl _ wr).alloc _
      rw [hwA, hbw] at hgw
      rw [hwA]
      try rw [hbw]
      have hvA := rowW_nil (rowW_nil HVF3.out HW.out) hkA
      have hbwA : bw < wA.heap.size := (Array.getElem?_eq_some_iff.1 hgw).1
      have hk0A : Keeps (fun _ => False) w wA := knil hkw hkA
      have h1r : w1.heap.size ≤ bw := by rw [← hbw]; have := hk13.size; have := HW.out.size; omega
      have hvlt : ∀ j, (Value.slice avf nf cvf).ownBlock = some j → w1.heap.size ≤ j ∧ j < w2.heap.size := fun j hj => HVF.out.lt j hj
      have h2r : w2.heap.size ≤ bw := by rw [← hbw]; have := hk3.size; have := HW.out.size; omega
      have HGA := Lib.hid ((hkA.block _ (by rw [hbw]; omega) (fun h => h)).trans ((HW.out.block _ hl3 (fun h => h)).trans HG3.out))
      have hwsz : w.heap.size ≤ bw := by omega
      have hneb : (Value.slice avf nf cvf).ownBlock ≠ some bw := fun h => by have := hvlt bw h; omega
      have hv0 : ∀ j, (Value.slice avf nf cvf).ownBlock = some j → w.heap.size ≤ j := fun j hj => by have := hvlt j hj; omega
      have hvg : ¬ (w.heap.size = bw ∨ some w.heap.size = (Value.slice avf nf cvf).ownBlock) := by
        rintro (h | h)
        · omega
        · have := hvlt _ h.symm; omega
      have HWr := Lib.hid (show Wr wA (.slice avf nf cvf) bw w1.heap.size nf wA from ⟨_, lf, hgw, hvA, .inl rfl, Keeps.refl _ _⟩)
      have HNB := Lib.hid hneb
      have HV0 := Lib.hid hv0
      have HVG := Lib.hid hvg
      have HK0A := Lib.hid hk0A
      have HVL := Lib.hid hvlt
      have h1A : w1.heap.size ≤ wA.heap.size := by omega
      clear hwA hbw hgw hkA hvA hneb hv0 hvg hvlt hkw c0 c1 c2 c3 c4 c5 c6
      have hgq := HGA.out
      have c0 := cells_at hgq 0
      have c1 := cells_at hgq 1
      have c2 := cells_at hgq 2
      have c3 := cells_at hgq 3
      have c4 := cells_at hgq 4
      have c5 := cells_at hgq 5
      have c6 := cells_at hgq 6
      clear hgq
      go_wp2_with fail
      go_loopw [13, 95] (fun _ i wr => ∃ k' : Nat, k' ≤ k ∧ i = .int .i64 k' ∧ ∃ nn, nn ≤ 70 + 1024 * k' ∧ RowKit.Hid (Wr wA (.slice avf nf cvf) bw w1.heap.size nn wr)) (fun _ i _ => k - (intOf i).toNat)
      case atStart => exact ⟨0, Nat.zero_le _, rfl, nf, by omega, HWr⟩
      case round =>
        clear c0 c1 c2 c3 c4 c5 c6 HWr HW
        obtain ⟨j, hj, rfl, nn, hnn, HWr⟩ := hrel
        have hgq := (HWr.out.keeps.block _ (by omega) HVG.out).trans HGA.out
        have c0 := cells_at hgq 0
        have c1 := cells_at hgq 1
        have c2 := cells_at hgq 2
        have c3 := cells_at hgq 3
        have c4 := cells_at hgq 4
        have c5 := cells_at hgq 5
        have c6 := cells_at hgq 6
        clear hgq
        by_cases hjk : j < k
        · have hkI : (j : Int) < (k : Int) := by omega
          have hk0 : (0 : Int) ≤ (j : Int) := by omega
          obtain ⟨br, orr, hbr, har, hr1⟩ : ∃ br orr, br < w.heap.size ∧ ar = some ⟨br, orr, none⟩ ∧ regC w br (orr + j * 3) (rg rs j) := by
            rcases HRR.out with ⟨h0, _⟩ | ⟨b, o, c, he, hb, hc⟩
            · have := HF1.out; rw [h0] at this; simp at this; omega
            · injection he with h1 h2 h3
              exact ⟨b, o, hb, h1, hc j (by rw [HF1.out]; exact hjk)⟩
          subst har
          obtain ⟨r0, r1, an, ln, cn, r2, hpn⟩ := hr1.kept hbr HK0A.out
          have hbrA : br < wA.heap.size := Nat.lt_of_lt_of_le hbr HK0A.out.size
          have hbrn : ¬ (br = bw ∨ some br = (Value.slice avf nf cvf).ownBlock) := by
            rintro (h | h)
            · omega
            · have := HV0.out _ h.symm; omega
          have e0 := (HWr.out.keeps.cell (p := ⟨br, orr + j * 3, none⟩) hbrA hbrn).trans r0
          have e1 := (HWr.out.keeps.cell (p := ⟨br, orr + j * 3 + 1, none⟩) hbrA hbrn).trans r1
          have e2 := (HWr.out.keeps.cell (p := ⟨br, orr + j * 3 + 2, none⟩) hbrA hbrn).trans r2
          have hpw : ptsAt w (.slice an ln cn) (rg rs j).2.2 := by
            obtain ⟨_, _, a', l', c', k2, k3⟩ := hr1
            have := ((HK0A.out.cell (p := ⟨br, orr + j * 3 + 2, none⟩) hbr (fun h => h)).trans k2).symm.trans r2
            injection this with this
            rw [← this]; exact k3
          have hlen : (rg rs j).2.2.length ≤ 64 := by
            have h1 := (HF2.out j hjk).2.2
            have h2 := sizeR_bound (rg h.rs j).2.1
            omega
          have HPW := Lib.hid hpw
          obtain ⟨d, hd⟩ : ∃ d, (rg rs j).1 = d := ⟨_, rfl⟩
          obtain ⟨m, hm⟩ : ∃ m, (rg rs j).2.1 = m := ⟨_, rfl⟩
          rw [hd] at e0
          rw [hm] at e1
          clear r0 r1 r2 hpn hr1 hpw hd hm hbrn
          have HW2 := Lib.hid (HWr.out.kept ((Keeps.refl _ wr).alloc (.cells #[.bool d, .int .i64 m, .slice an ln cn] 40)))
          go_wp2_with fail
          refine (eachP_any w wA (.slice avf nf cvf) (.slice an ln cn) bw w1.heap.size nn (rg rs j).2.2 (by omega) (by omega) h1A hbwA HNB.out HPW.out HK0A.out hwsz HV0.out _ HW2.out).mono ?_; rintro e w5 ⟨rfl, h5⟩
          have H5 := Lib.hid h5
          clear h5 c0 c1 c2 c3 c4 c5 c6 e0 e1 e2
          go_wp2_with fail
          go_roundw
          case rel => exact ⟨j + 1, by omega, by go_num, _, by omega, H5⟩
          case measure => simp [intOf]; omega
        · obtain rfl : j = k := by omega
          go_wp2_with fail
          refine (eachP_any w wA (.slice avf nf cvf) (.slice ap NP cp) bw w1.heap.size nn ps (by rw [HNP.out]; omega) (by omega) h1A hbwA HNB.out HPT.out HK0A.out hwsz HV0.out _ HWr.out).mono ?_; rintro e w5 ⟨rfl, h5⟩
          have H5 := Lib.hid h5
          have hgq := (h5.keeps.block _ (by omega) HVG.out).trans HGA.out
          clear h5 c0 c1 c2 c3 c4 c5 c6
          have c0 := cells_at hgq 0
          have c1 := cells_at hgq 1
          have c2 := cells_at hgq 2
          have c3 := cells_at hgq 3
          have c4 := cells_at hgq 4
          have c5 := cells_at hgq 5
          have c6 := cells_at hgq 6
          clear hgq
          go_wp2_with fail
          refine (eachQ_calls w wA (.slice avf nf cvf) (.slice aq NQ cq) bw w1.heap.size (nn + 16 * ps.length) qs HQO.out (by rw [HNQ.out]; omega) (by rw [HNP.out]; omega) h1A hbwA HNB.out HQQ.out HK0A.out hwsz HV0.out _ H5.out).mono ?_; rintro e w6 ⟨rfl, h6⟩
          obtain ⟨v6, l6, b1, b2, b3, b4⟩ := h6
          have d0 := cells_at b1 0
          have B4 := Lib.hid b4
          clear b1 b2 b3 b4 c0 c1 c2 c3 c4 c5 c6
          go_wp2_with fail
          go_ret2
          exact ⟨⟨_, rfl⟩, HK0A.out.trans B4.out (fun i hi h => by
            rcases h with h | h
            · omega
            · have := HV0.out i h.symm; omega)⟩
end Go.Proofs.YtmoajobnhiopiaaGreatDoor.sv
set_option linter.unusedSimpArgs false
set_option linter.unusedVariables false
namespace Go.Proofs.YtmoajobnhiopiaaGreatDoor.po
open Go Go.RowKit Go.Shelf Go.Maps Go.Proofs.YtmoajobnhiopiaaGreatDoor.mk Go.Proofs.YtmoajobnhiopiaaGreatDoor.tp Go.Proofs.YtmoajobnhiopiaaGreatDoor.rg Go.Proofs.YtmoajobnhiopiaaGreatDoor.lm Go.Proofs.YtmoajobnhiopiaaGreatDoor.gm Go.Proofs.YtmoajobnhiopiaaGreatDoor.nb
theorem edges_calls (v : Value) (ao : Option Addr) (n c : Nat) (w : World) : Calls Tryz.prog 44 #[.slice ao n c] w fun e w' =>
    e = .returned (.func (.func 74) #[] #[.pointer (some ⟨w.heap.size, 0, none⟩)]) ∧ w' = w.alloc (.cells #[.slice ao n c] 38) := by
  go_enter Tryz.func44, Tryz.ntmps44
  go_wp2
  go_ret
  exact ⟨rfl, rfl⟩
def edgeV (l : List (Int × Int)) (i : Nat) : Value := .agg #[.int .i64 i, .int .i64 ((i + 1) % l.length : Nat), .int .i64 (pt l i).1, .int .i64 (pt l i).2, .int .i64 (pt l ((i + 1) % l.length)).1, .int .i64 (pt l ((i + 1) % l.length)).2]
set_option maxRecDepth 100000 in
set_option maxHeartbeats 4000000 in
theorem edges1 (n L Bv b off cap : Nat) (l : List (Int × Int)) (h3 : 3 ≤ l.length) (h64 : l.length ≤ 64) (J : Nat → World → Prop)
    (hbox : ∀ k W, J k W → W.cell? ⟨Bv, 0, none⟩ = some (.slice (some ⟨b, off, none⟩) l.length cap) ∧ ∀ i, i < l.length → W.cell? ⟨b, off + i * 2, none⟩ = some (.int .i64 (pt l i).1) ∧ W.cell? ⟨b, off + i * 2 + 1, none⟩ = some (.int .i64 (pt l i).2))
    (hdrew : ∀ k W, J k W → J k W.drew)
    (hY : ∀ (k : Nat) W, J k W → k < l.length → YieldAt Fence.wide (n - 1) Tryz.prog L #[edgeV l k] W fun e W' => e = .returned (.bool true) ∧ J (k + 1) W')
    (W : World) (h0 : J 0 W) :
    CallsIn Fence.wide n Tryz.prog 74 #[.func (.yield L) #[] #[], .pointer (some ⟨Bv, 0, none⟩)] W fun e W' => (∃ v, e = .returned v) ∧ J l.length W' := by
  have q0 := (hbox 0 W h0).1
  have hn3 : ¬ (l.length : Int) < 3 := by omega
  have hn64 : ¬ (l.length : Int) > 64 := by omega
  refine callsIn_of_wp Tryz.func74 rfl trivial ?_ rfl
  simp only [Tryz.ntmps74, List.size_toArray, List.length_cons, List.length_nil, Nat.reduceAdd, Nat.reduceSub, Array.replicate_succ, Array.replicate_zero, List.push_toArray, List.append_toArray, List.nil_append, List.cons_append]
  gi_wp2
  gi_loopw [4, 5, 16] (fun _ _ i wr => ∃ k : Nat, k ≤ l.length ∧ i = .int .i64 k ∧ J k wr) (fun _ _ i _ => l.length - (intOf i).toNat)
  case atStart => exact ⟨0, Nat.zero_le _, rfl, h0⟩
  case round =>
    obtain ⟨k, hk, rfl, hJ⟩ := hrel
    clear q0
    have hk0 : (0 : Int) ≤ (k : Int) := by omega
    by_cases hlt : k < l.length
    · have hlt' : (k : Int) < (l.length : Int) := by omega
      obtain ⟨q, hq⟩ : ∃ q, (k + 1) % l.length = q := ⟨_, rfl⟩
      have hql : q < l.length := by rw [← hq]; exact mod_next hlt
      have hqlI : (q : Int) < (l.length : Int) := by omega
      have hq0 : (0 : Int) ≤ (q : Int) := by omega
      obtain ⟨i1, hi1⟩ : ∃ i1, k + 1 = i1 := ⟨_, rfl⟩
      have hi1I : (k : Int) + 1 = (i1 : Int) := by omega
      have hqt : (i1 : Int).tmod (l.length : Int) = (q : Int) := by
        rw [Int.tmod_eq_emod_of_nonneg (by omega), ← hi1I]
        exact_mod_cast hq
      have hiw : IntKind.i64.wrap (i1 : Int) = (i1 : Int) := by rw [IntKind.wrap_i64]; omega
      have hqw : IntKind.i64.wrap (q : Int) = (q : Int) := by rw [IntKind.wrap_i64]; omega
      have hlz : ¬ (l.length : Int) = 0 := by omega
      have hlz' : ((l.length : Int) == 0) = false := beq_eq_false_iff_ne.2 hlz
      have hln : ¬ l.length = 0 := by omega
      have hlne : ¬ l = [] := fun h => hln (by rw [h]; rfl)
      have hd := hdrew k wr hJ
      have hb := hbox k _ hd
      have q0 := hb.1
      have c0 := (hb.2 k hlt).1
      have c1 := (hb.2 k hlt).2
      have c2 := (hb.2 q hql).1
      have c3 := (hb.2 q hql).2
      obtain ⟨fn, tmps, asg, bo, hy, hR⟩ := hY k _ hd hlt
      unfold edgeV at hy
      rw [hq] at hy
      have HQ := Lib.hid hq
      have HD := Lib.hid hd
      have HI1 := Lib.hid hi1
      clear hq hd hb hJ hi1
      gi_wp2_with fail
      gi_region_with (refine ⟨(fun h => by cases h), hR.mono ?_⟩; rintro e W3 ⟨rfl, hJ3⟩)
      all_goals
        clear q0 c0 c1 c2 c3 hy hR
        gi_wp2
        go_roundw
        case rel => exact ⟨k + 1, by omega, by go_num, by assumption⟩
        case measure => simp [intOf]; omega
    · obtain rfl : k = l.length := by omega
      gi_wp2
      go_end0
      exact ⟨⟨_, rfl⟩, hJ⟩
end Go.Proofs.YtmoajobnhiopiaaGreatDoor.po
set_option linter.unusedSimpArgs false
set_option linter.unusedVariables false
namespace Go.Proofs.YtmoajobnhiopiaaGreatDoor.po
open Go Go.RowKit Go.Shelf Go.Maps Go.Proofs.YtmoajobnhiopiaaGreatDoor.mk Go.Proofs.YtmoajobnhiopiaaGreatDoor.tp Go.Proofs.YtmoajobnhiopiaaGreatDoor.rg Go.Proofs.YtmoajobnhiopiaaGreatDoor.lm Go.Proofs.YtmoajobnhiopiaaGreatDoor.gm Go.Proofs.YtmoajobnhiopiaaGreatDoor.nb
theorem range_lawE {P : Program} {n : Nat} {g : Operand} {ps : Array Tmp} {assign body : Code} {Q : Exit → Act → World → Prop} {a : Act} {w : World}
    {gf : Nat} {lb : Array Value} (hg : a.eval g = .func (.func gf) #[] lb) (eg : ∀ args w, (callFunc gf args).run P w = .ok (.enter gf args) w)
    (encs : Nat → Array Value) (hps : ∀ x, (encs x).size = ps.size) (N : Nat) (I : Nat → World → Prop)
    (hput : ∀ k W o, I k W → W.heap[w.heap.size + 1]? ≠ none → I k (W.putObj (w.heap.size + 1) o))
    (h0 : ∀ r, I 0 ((w.alloc (.deferred (some []))).alloc (.loop r)))
    (hiter : ∀ (Bk : World → Prop), (∀ W W', Bk W → Two w W W' → Bk W') → (∀ W, Bk W → w.heap.size + 1 < W.heap.size) → ∀ W1, I 0 W1 → Bk W1 →
      (∀ k W, I k W → Bk W → k < N → YieldAt Fence.wide (n - 1 - 1) P (w.heap.size + 1) (encs k) W fun e W' => e = .returned (.bool true) ∧ I (k + 1) W' ∧ Bk W') →
      CallsIn Fence.wide (n - 1) P gf (#[.func (.yield (w.heap.size + 1)) #[] #[]] ++ lb) W1 fun e W' => (∃ v, e = .returned v) ∧ I N W' ∧ Bk W')
    (A : Nat → Act → World → Prop)
    (hassign : ∀ (k : Nat) (W : World) (K : Act → World → Prop), I k W → k < N → w.heap.size + 1 < W.heap.size → (∀ a' W', A k a' W' → I k W' → Two w W W' → K a' W') →
      assign.wpIn (Fence.wide.inRound (w.heap.size + 1)) (n - 1 - 1) P (Exit.then K (fun _ _ _ => False)) { tmps := (ps.zip (encs k)).foldl (fun t (p, v) => t.setIfInBounds p v) a.tmps, defers := [] } W)
    (hAput : ∀ k a' W o, A k a' W → W.heap[w.heap.size + 1]? ≠ none → A k a' (W.putObj (w.heap.size + 1) o))
    (hbody : ∀ (k : Nat) (a' : Act) (W : World), A k a' W → I k W → k < N → w.heap.size + 1 < W.heap.size → body.wpIn (Fence.wide.inRound (w.heap.size + 1)) (n - 1 - 1) P (GoesOn w I k W) a' W)
    (hdone : ∀ (W : World), I N W → W.heap[w.heap.size]? = some (.deferred (some [])) → Q .normal { a with defers := { target := .collected w.heap.size, args := #[] } :: a.defers } W) :
    (Code.rangeFunc g ps assign body).wpIn Fence.wide n P Q a w := by
  refine wpIn_rangeFunc ?_
  intro fn hfn
  obtain ⟨rec, hrec⟩ : ∃ rec : LoopState → Option Code → Loop, rec = fun st pe => { state := st, pending := pe, fn, tmps := a.tmps, params := ps, assign, body, defers := w.heap.size } := ⟨_, rfl⟩
  have hsz1 : (w.alloc (.deferred (some []))).heap.size = w.heap.size + 1 := by simp
  have hloop : ((w.alloc (.deferred (some []))).alloc (.loop (rec .ready none))).heap[w.heap.size + 1]? = some (.loop (rec .ready none)) := by
    have := World.alloc_heap_new (w.alloc (.deferred (some []))) (.loop (rec .ready none))
    rwa [hsz1] at this
  have hdef : ((w.alloc (.deferred (some []))).alloc (.loop (rec .ready none))).heap[w.heap.size]? = some (.deferred (some [])) :=
    (Below.heap_alloc _ _ _ (by omega)).trans (World.alloc_heap_new w _)
  let Bk : World → Prop := fun W => W.heap[w.heap.size]? = some (.deferred (some [])) ∧ W.heap[w.heap.size + 1]? = some (.loop (rec .ready none))
  have hBk : ∀ W W', Bk W → Two w W W' → Bk W' := fun W W' h t => ⟨t.1.trans h.1, t.2.trans h.2⟩
  have hsz : ∀ W, Bk W → w.heap.size + 1 < W.heap.size := fun W h => (Array.getElem?_eq_some_iff.1 h.2).1
  refine ⟨w.heap.size + 1, [{ target := .collected w.heap.size, args := #[] }], (w.alloc (.deferred (some []))).alloc (.loop (rec .ready none)), { target := .fn (.func gf) lb, args := #[.func (.yield (w.heap.size + 1)) #[] #[]] }, (w.alloc (.deferred (some []))).alloc (.loop (rec .ready none)), gf,
    #[.func (.yield (w.heap.size + 1)) #[] #[]] ++ lb, (w.alloc (.deferred (some []))).alloc (.loop (rec .ready none)), ?_, ?_, fun _ _ => trivial, ?_, (fun h => by cases h), ?_⟩
  · rw [hrec]; exact run_enterLoop_outer _ _ _ _ _
  · simp only [resolve, hg, hrec]
    simp [go_sem]
  · simp [invoke, go_sem, eg, hrec]
  · refine (hiter Bk hBk hsz _ (h0 _) ⟨hdef, hloop⟩ ?_).mono ?_
    · intro k W hI hb hk
      have hy := run_yield (P := P) (args := encs k) hb.2 (by rw [hrec]; exact hps k)
      rw [hrec] at hy
      refine ⟨fn, _, assign, body, hy, roundIn_of_wpIn hfn (hassign k W _ hI hk (hsz W hb) ?_)⟩
      intro a' W' hA hI' ht'
      have hb' := hBk _ _ hb ht'
      refine ⟨_, run_beginRound hb'.2 (by rw [hrec]), ?_⟩
      have hlt := hsz W' hb'
      have hl2 : (W'.putObj (w.heap.size + 1) (.loop { rec .ready none with state := .busy })).heap[w.heap.size + 1]? = some (.loop { rec .ready none with state := .busy }) := World.putObj_heap_same hlt
      have hd2 : (W'.putObj (w.heap.size + 1) (.loop { rec .ready none with state := .busy })).heap[w.heap.size]? = some (.deferred (some [])) := (World.putObj_heap_other (by omega)).trans hb'.1
      have hI2 := hput k W' (.loop { rec .ready none with state := .busy }) hI' (by rw [hb'.2]; simp)
      have hA2 := hAput k a' W' (.loop { rec .ready none with state := .busy }) hA (by rw [hb'.2]; simp)
      refine wpIn_mono (hbody k a' _ hA2 hI2 hk (by simpa using hlt)) ?_
      rintro e a3 W3 hp
      cases e with
      | normal =>
        obtain ⟨ht, hi3⟩ := hp
        have hl3 := ht.2.trans hl2
        have hd3 := ht.1.trans hd2
        have hr := run_endRound (P := P) (none : Option Code) hl3
        refine ⟨_, _, hr, rfl, hput _ _ _ hi3 (by rw [hl3]; simp), (World.putObj_heap_other (by omega)).trans hd3, ?_⟩
        have := World.putObj_heap_same (o := .loop (rec .ready none)) (Array.getElem?_eq_some_iff.1 hl3).1
        rw [hrec] at this ⊢
        exact this
      | ret => exact hp.elim
      | exit id => exact hp.elim
      | goto t => exact hp.elim
      | panic ch => exact hp.elim
      | outgrown => exact hp.elim
    · rintro e W2 ⟨⟨v, rfl⟩, hI, hb⟩
      refine ⟨none, _, ?_, hdone _ (hput _ _ (.loop { rec .ready none with state := .exhausted }) hI (by rw [hb.2]; simp)) ((World.putObj_heap_other (by omega)).trans hb.1)⟩
      have := run_endLoop (P := P) hb.2 (by rw [hrec]; simp)
      rw [hrec] at this ⊢
      exact this
theorem keeps_putE (w : World) (r : Nat) (o : Obj) : Keeps (fun k => k = r) w (w.putObj r o) :=
  ⟨rfl, rfl, rfl, by simp, fun k _ hk => World.putObj_heap_other hk⟩
def LoopsE (w : World) (W W' : World) : Prop := Keeps (fun i => i = w.heap.size ∨ i = w.heap.size + 1) W W'
def EdgeAt (l : List (Int × Int)) (k : Nat) (W : World) (g : Nat) : Prop :=
  W.heap[g]? = some (.cells #[.int .i64 k, .int .i64 ((k + 1) % l.length : Nat), .int .i64 (pt l k).1, .int .i64 (pt l k).2, .int .i64 (pt l ((k + 1) % l.length)).1, .int .i64 (pt l ((k + 1) % l.length)).2] 83 (0, 0))
structure AtE (w : World) (l : List (Int × Int)) (a₁ : Nat → Nat → Act) (k : Nat) (a' : Act) (W : World) (g : Nat) : Prop where
  act : a' = a₁ g k
  edge : EdgeAt l k W g
  lo : w.heap.size + 2 ≤ g
def GoesE (w : World) (I : Nat → World → Prop) (k : Nat) (W : World) : Exit → Act → World → Prop
  | .normal, _, W' => Two w W W' ∧ w.heap.size + 2 ≤ W'.heap.size ∧ I (k + 1) W'
  | _, _, _ => False
theorem over_edges {n : Nat} {g : Operand} {p : Tmp} {assign body : Code} {Q : Exit → Act → World → Prop} {a : Act} {w : World} (Bv b off cap : Nat) (l : List (Int × Int)) (h3 : 3 ≤ l.length) (h64 : l.length ≤ 64) (I : Nat → World → Prop)
    (hg : a.eval g = .func (.func 74) #[] #[.pointer (some ⟨Bv, 0, none⟩)])
    (hbox : ∀ k W, I k W → W.cell? ⟨Bv, 0, none⟩ = some (.slice (some ⟨b, off, none⟩) l.length cap) ∧ ∀ i, i < l.length → W.cell? ⟨b, off + i * 2, none⟩ = some (.int .i64 (pt l i).1) ∧ W.cell? ⟨b, off + i * 2 + 1, none⟩ = some (.int .i64 (pt l i).2))
    (hI : ∀ k W W', I k W → w.heap.size + 2 ≤ W.heap.size → LoopsE w W W' → I k W') (h0 : ∀ r, I 0 ((w.alloc (.deferred (some []))).alloc (.loop r)))
    (a₁ : Nat → Nat → Act)
    (hassign : ∀ (W : World) (k : Nat) (K : Act → World → Prop), K (a₁ W.heap.size k) (W.alloc (.cells #[.int .i64 k, .int .i64 ((k + 1) % l.length : Nat), .int .i64 (pt l k).1, .int .i64 (pt l k).2, .int .i64 (pt l ((k + 1) % l.length)).1, .int .i64 (pt l ((k + 1) % l.length)).2] 83)) →
      assign.wpIn (Fence.wide.inRound (w.heap.size + 1)) (n - 1 - 1) Tryz.prog (Exit.then K (fun _ _ _ => False)) { tmps := a.tmps.setIfInBounds p (edgeV l k), defers := [] } W)
    (hbody : ∀ (k gg : Nat) (W : World), I k W → k < l.length → w.heap.size + 2 ≤ gg → EdgeAt l k W gg →
      body.wpIn (Fence.wide.inRound (w.heap.size + 1)) (n - 1 - 1) Tryz.prog (GoesE w I k W) (a₁ gg k) W)
    (hdone : ∀ (W : World), I l.length W → w.heap.size + 2 ≤ W.heap.size → W.heap[w.heap.size]? = some (.deferred (some [])) → Q .normal { a with defers := { target := .collected w.heap.size, args := #[] } :: a.defers } W) :
    (Code.rangeFunc g #[p] assign body).wpIn Fence.wide n Tryz.prog Q a w := by
  let I2 : Nat → World → Prop := fun k W => I k W ∧ w.heap.size + 2 ≤ W.heap.size
  have hstep : ∀ k W W', I2 k W → LoopsE w W W' → I2 k W' := fun k W W' h hk => ⟨hI k W W' h.1 h.2 hk, Nat.le_trans h.2 hk.size⟩
  refine range_lawE hg (enters_of Tryz.func74 (by kernel_rfl) rfl) (fun k => #[edgeV l k]) (fun _ => rfl) l.length I2 ?_ ?_ ?_
    (fun k a' W => ∃ gg, AtE w l a₁ k a' W gg) ?_ ?_ ?_ (fun W h hd => hdone W h.1 h.2 hd)
  · intro k W o h _
    exact hstep k W _ h ((keeps_putE W _ o).mono (fun i _ h => .inr h))
  · intro rr
    exact ⟨h0 rr, by simp⟩
  · intro Bk hBk hsz W1 h1 hb1 hY
    have two : ∀ W W', w.heap.size + 2 ≤ W.heap.size → Keeps (fun _ => False) W W' → Two w W W' := fun W W' hz hk => ⟨hk.block _ (by omega) (fun h => h), hk.block _ (by omega) (fun h => h)⟩
    refine (edges1 (n - 1) (w.heap.size + 1) Bv b off cap l h3 h64 (fun k W => I2 k W ∧ Bk W) (fun k W h => hbox k W h.1.1) ?_ ?_ W1 ⟨h1, hb1⟩).mono ?_
    · intro k W h
      have hk : Keeps (fun _ => False) W W.drew := (Keeps.refl _ W).drewN 1
      exact ⟨hstep _ _ _ h.1 (hk.mono (fun _ _ h => h.elim)), hBk _ _ h.2 (two _ _ h.1.2 hk)⟩
    · intro k W h hlen
      exact hY k W h.1 h.2 hlen
    · rintro e W' ⟨he, h⟩
      exact ⟨he, h.1, h.2⟩
  · intro k W K hk _ hz hK
    have e : ∀ (u : Value) (t : Array Value), (#[p].zip #[u]).foldl (fun t (p, v) => t.setIfInBounds p v) t = t.setIfInBounds p u := fun _ _ => by simp
    rw [e]
    refine hassign W k K (hK _ _ ⟨W.heap.size, rfl, heap_alloc_new W _, hk.2⟩ ?_ ?_)
    · exact hstep _ _ _ hk (((Keeps.refl _ W).alloc _).mono (fun _ _ h => h))
    · have hkk : ∀ o, Keeps (fun _ => False) W (W.alloc o) := fun o => (Keeps.refl _ W).alloc o
      exact ⟨(hkk _).block _ (by have := hk.2; omega) (fun h => h), (hkk _).block _ (by have := hk.2; omega) (fun h => h)⟩
  · rintro k a' W o ⟨gg, h⟩ _
    have hk := keeps_putE W (w.heap.size + 1) o
    have hlo := h.lo
    have hed : W.heap[gg]? = _ := h.edge
    exact ⟨gg, h.act, (hk.block gg (Array.getElem?_eq_some_iff.1 hed).1 (by omega)).trans h.edge, h.lo⟩
  · rintro k a' W ⟨gg, h⟩ hi hk _
    rw [h.act]
    refine wpIn_mono (hbody k gg W hi.1 hk h.lo h.edge) ?_
    rintro e a3 W3 hp
    cases e with
    | normal => exact ⟨hp.1, hp.2.2, hp.2.1⟩
    | ret => exact hp.elim
    | exit id => exact hp.elim
    | goto t => exact hp.elim
    | panic ch => exact hp.elim
    | outgrown => exact hp.elim
end Go.Proofs.YtmoajobnhiopiaaGreatDoor.po
set_option linter.unusedSimpArgs false
set_option linter.unusedVariables false
namespace Go.Proofs.YtmoajobnhiopiaaGreatDoor.po
open Go Go.RowKit Go.Shelf Go.Maps Go.Proofs.YtmoajobnhiopiaaGreatDoor.mk Go.Proofs.YtmoajobnhiopiaaGreatDoor.tp Go.Proofs.YtmoajobnhiopiaaGreatDoor.rg Go.Proofs.YtmoajobnhiopiaaGreatDoor.lm Go.Proofs.YtmoajobnhiopiaaGreatDoor.gm Go.Proofs.YtmoajobnhiopiaaGreatDoor.nb
open List renaming getElem_toArray → ga, getElem_cons_zero → gb, getElem_cons_succ → gc, setIfInBounds_toArray → gd, set_cons_zero → ge, set_cons_succ → gf
attribute [local go_sem] Oper.semAt_some
theorem noteN (k a b : Int) (w : World) : Calls Tryz.prog 45 #[.pointer none, .int .i64 k, .int .i64 a, .int .i64 b] w fun e w' => e = .returned (.tuple #[]) ∧ w' = w := by
  go_enter Tryz.func45, Tryz.ntmps45
  go_wp2
  refine bodyPost_ret (results_none rfl _ _ _) rfl ?_
  exact ⟨rfl, rfl⟩
theorem or_masks (a b : Bool) : bits .or .u64 (maskI a) (maskI b) = maskI (a || b) := by cases a <;> cases b <;> decide
theorem and_masks (a b : Bool) : bits .and .u64 (maskI a) (maskI b) = maskI (a && b) := by cases a <;> cases b <;> decide
def outB (l : List (Int × Int)) (k : Nat) (p : Int × Int) : Bool := if k = 0 then true else (sides l k p).any (fun x => decide (x < 0))
def bndB (l : List (Int × Int)) (k : Nat) (p : Int × Int) : Bool := (sides l k p).any (fun x => x == 0)
theorem outB_succ (l : List (Int × Int)) (k : Nat) (p : Int × Int) : outB l (k + 1) p = ((if k = 0 then false else outB l k p) || decide (polyS l * sgnI (edgeD l k p) < 0)) := by
  unfold outB
  rw [if_neg (by omega), sides_succ, List.any_append]
  simp only [List.any_cons, List.any_nil, Bool.or_false]
  by_cases h : k = 0
  · subst h; simp [sides]
  · rw [if_neg h, if_neg h]
theorem bndB_succ (l : List (Int × Int)) (k : Nat) (p : Int × Int) : bndB l (k + 1) p = (bndB l k p || (polyS l * sgnI (edgeD l k p) == 0)) := by
  unfold bndB
  rw [sides_succ, List.any_append]
  simp only [List.any_cons, List.any_nil, Bool.or_false]
theorem loc_masks (l : List (Int × Int)) (p : Int × Int) (h : l.length ≠ 0) : signI (maskI (outB l l.length p)) (maskI (bndB l l.length p)) = locI (sides l l.length p) := by
  rw [signI_masks]
  unfold outB bndB locI
  rw [if_neg h]
theorem heap_two (w : World) (a b : Obj) : ((w.alloc a).alloc b).heap[w.heap.size]? = some a ∧ ((w.alloc a).alloc b).heap[w.heap.size + 1]? = some b := by
  refine ⟨by rw [Below.heap_alloc _ _ _ (by simp)]; exact heap_alloc_new w _, ?_⟩
  have := heap_alloc_new (w.alloc a) b
  simpa using this
theorem heap_four (w : World) (a b c d : Obj) : ((((w.alloc a).alloc b).alloc c).alloc d).heap[w.heap.size]? = some a ∧ ((((w.alloc a).alloc b).alloc c).alloc d).heap[w.heap.size + 1]? = some b ∧ ((((w.alloc a).alloc b).alloc c).alloc d).heap[w.heap.size + 2]? = some c ∧ ((((w.alloc a).alloc b).alloc c).alloc d).heap[w.heap.size + 3]? = some d := by
  have h1 := heap_two w a b
  have h2 := heap_two ((w.alloc a).alloc b) c d
  have e : ((w.alloc a).alloc b).heap.size = w.heap.size + 2 := by simp
  rw [e] at h2
  exact ⟨by rw [Below.heap_alloc _ _ _ (by simp <;> omega), Below.heap_alloc _ _ _ (by simp <;> omega)]; exact h1.1, by rw [Below.heap_alloc _ _ _ (by simp <;> omega), Below.heap_alloc _ _ _ (by simp <;> omega)]; exact h1.2, h2.1, h2.2⟩
set_option maxRecDepth 100000 in
set_option maxHeartbeats 8000000 in
theorem plocate_calls (v : Value) (l : List (Int × Int)) (p : Int × Int) (h3 : 3 ≤ l.length) (h64 : l.length ≤ 64) (hp : Pts l) (hpp : Pt p) (w : World) (hG : Gl w) (h : ptsAt w v l) :
    Calls Tryz.prog 27 #[.pointer none, v, .agg #[.int .i64 p.1, .int .i64 p.2]] w fun e w' => e = .returned (.int .i64 (locI (sides l l.length p))) ∧ Keeps (fun _ => False) w w' := by
  obtain ⟨b, off, cap, rfl, hb, hc⟩ := h.block (i := 0) (by omega)
  have H := Lib.hid h
  have HC := Lib.hid hc
  have HG := Lib.hid hG
  clear h hc hG
  refine (callsIn_wide (n := 5)).1 ?_
  refine callsIn_of_wp_marks Tryz.func27 rfl trivial ?_ rfl
  simp only [Tryz.ntmps27, List.size_toArray, List.length_cons, List.length_nil, Nat.reduceAdd, Nat.reduceSub, Array.replicate_succ, Array.replicate_zero, List.push_toArray, List.append_toArray, List.nil_append, List.cons_append]
  gi_wp2_with fail
  obtain ⟨w0, hw0⟩ : ∃ w0, (w.alloc (.cells #[.pointer none] 76)).alloc (.cells #[.int .i64 p.1, .int .i64 p.2] 35) = w0 := ⟨_, rfl⟩
  have hk0 : Keeps (fun _ => False) w w0 := by rw [← hw0]; exact ((Keeps.refl _ w).alloc _).alloc _
  have hg0 := (heap_two w (.cells #[.pointer none] 76) (.cells #[.int .i64 p.1, .int .i64 p.2] 35)).1
  have hg1 := (heap_two w (.cells #[.pointer none] 76) (.cells #[.int .i64 p.1, .int .i64 p.2] 35)).2
  rw [hw0] at hg0 hg1 ⊢
  clear hw0
  have hl0 : w.heap.size < w0.heap.size := (Array.getElem?_eq_some_iff.1 hg0).1
  have hl1 : w.heap.size + 1 < w0.heap.size := (Array.getElem?_eq_some_iff.1 hg1).1
  have HG0 := Lib.hid hg0
  have HG1 := Lib.hid hg1
  clear hg0 hg1
  refine ⟨trivial, ?_⟩
  refine (callsIn_wide.2 (pori_calls _ l h3 h64 hp w0 (HG.out.kept hk0) (H.out.kept hk0))).mono ?_; rintro e w1 ⟨rfl, hk1⟩
  obtain ⟨s, hs⟩ : ∃ s, polyS l = s := ⟨_, rfl⟩
  rw [hs]
  have HS := Lib.hid hs
  clear hs
  gi_wp2_with fail
  refine ⟨trivial, ?_⟩
  refine (callsIn_wide.2 (of_calls 1 (by unfold IsU; omega) _)).mono ?_; rintro e w2 ⟨rfl, rfl⟩
  rw [show maskI ((1 : Int) % 2 == 1) = maskI true from rfl]
  gi_wp2_with fail
  refine ⟨trivial, ?_⟩
  refine (callsIn_wide.2 (edges_calls (.slice (some ⟨b, off, none⟩) l.length cap) _ _ _ _)).mono ?_; rintro e w3 ⟨rfl, hw3⟩
  gi_wp2_with fail
  clear hw3 w3
  obtain ⟨wl, hwl⟩ : ∃ wl, (((w1.alloc (.cells #[.int .i64 s] 2)).alloc (.cells #[.int .u64 (maskI true)] 43)).alloc (.cells #[.int .u64 0] 43)).alloc (.cells #[.slice (some ⟨b, off, none⟩) l.length cap] 38) = wl := ⟨_, rfl⟩
  obtain ⟨bs, hbs⟩ : ∃ bs, w1.heap.size = bs := ⟨_, rfl⟩
  have h4 := heap_four w1 (.cells #[.int .i64 s] 2) (.cells #[.int .u64 (maskI true)] 43) (.cells #[.int .u64 0] 43) (.cells #[.slice (some ⟨b, off, none⟩) l.length cap] 38)
  have hkl : Keeps (fun _ => False) w1 wl := by rw [← hwl]; exact ((((Keeps.refl _ w1).alloc _).alloc _).alloc _).alloc _
  rw [hwl, hbs] at h4
  obtain ⟨r2, r3, r4, r5⟩ := h4
  rw [hwl]
  have hsz : wl.heap.size = bs + 4 := by rw [← hwl, ← hbs]; simp
  rw [hbs]
  have hbs0 : w0.heap.size ≤ bs := by rw [← hbs]; exact hk1.size
  have hkA : Keeps (fun _ => False) w0 wl := knil hk1 hkl
  have hkW : Keeps (fun _ => False) w wl := knil hk0 hkA
  have r0 := (hkA.block _ hl0 (fun h => h)).trans HG0.out
  have r1 := (hkA.block _ hl1 (fun h => h)).trans HG1.out
  have hbl : b < w0.heap.size := Nat.lt_of_lt_of_le hb hk0.size
  have HCl := Lib.hid (fun i hi => show wl.cell? ⟨b, off + i * 2, none⟩ = some (.int .i64 (pt l i).1) ∧ wl.cell? ⟨b, off + i * 2 + 1, none⟩ = some (.int .i64 (pt l i).2) from ⟨(hkW.cell (p := ⟨b, off + i * 2, none⟩) hb (fun h => h)).trans (HC.out i hi).1, (hkW.cell (p := ⟨b, off + i * 2 + 1, none⟩) hb (fun h => h)).trans (HC.out i hi).2⟩)
  clear hwl hbs hkl hk1 w1
  have cellK : ∀ (W : World) (x o : Nat), Keeps (fun i => i = bs + 1 ∨ i = bs + 1 + 1) wl W → x < bs + 4 → x ≠ bs + 1 → x ≠ bs + 1 + 1 → W.cell? ⟨x, o, none⟩ = wl.cell? ⟨x, o, none⟩ := fun W x o hK hx h1 h2 => hK.cell (p := ⟨x, o, none⟩) (show x < wl.heap.size by omega) (show ¬ (x = bs + 1 ∨ x = bs + 1 + 1) by omega)
  have CK := Lib.hid cellK
  refine over_edges (bs + 1 + 1 + 1) b off cap l h3 h64
    (fun k W => W.heap[bs + 1]? = some (.cells #[.int .u64 (maskI (outB l k p))] 43 (0, 0)) ∧ W.heap[bs + 1 + 1]? = some (.cells #[.int .u64 (maskI (bndB l k p))] 43 (0, 0)) ∧ Keeps (fun i => i = bs + 1 ∨ i = bs + 1 + 1) wl W)
    rfl ?box ?loops ?start
    (fun gg k => { tmps := #[.pointer none, .slice (some ⟨b, off, none⟩) l.length cap, .agg #[.int .i64 p.1, .int .i64 p.2], .pointer (some ⟨w.heap.size, 0, none⟩), undef, .pointer (some ⟨w.heap.size + 1, 0, none⟩), .int .i64 0, .pointer (some ⟨bs, 0, none⟩), .pointer (some ⟨bs + 1, 0, none⟩), .pointer (some ⟨bs + 1 + 1, 0, none⟩), .pointer (some ⟨gg, 0, none⟩), undef, .slice (some ⟨b, off, none⟩) l.length cap, .int .i64 s, .int .u64 (maskI true), .slice (some ⟨b, off, none⟩) l.length cap, .func (.func 74) #[] #[.pointer (some ⟨bs + 1 + 1 + 1, 0, none⟩)], edgeV l k, undef, undef, undef, undef, undef, undef, undef, undef, undef, undef, undef, undef, undef, undef, undef, undef, undef, undef, undef, undef, undef, undef, undef, undef, undef, undef, undef], defers := [] }) ?assign ?body ?done
  case box =>
    rintro k W ⟨_, _, hK⟩
    exact ⟨(cellK _ _ _ hK (by omega) (by omega) (by omega)).trans (cells_at r5 0), fun i hi => ⟨(cellK _ _ _ hK (by omega) (by omega) (by omega)).trans (HCl.out i hi).1, (cellK _ _ _ hK (by omega) (by omega) (by omega)).trans (HCl.out i hi).2⟩⟩
  case loops =>
    rintro k W W' ⟨ho, hb2, hK⟩ hz hl
    exact ⟨(hl.block _ (by omega) (by omega)).trans ho, (hl.block _ (by omega) (by omega)).trans hb2, hK.trans hl (fun i hi h => by omega)⟩
  case start =>
    intro r
    have hk : Keeps (fun _ => False) wl ((wl.alloc (.deferred (some []))).alloc (.loop r)) := ((Keeps.refl _ wl).alloc _).alloc _
    exact ⟨(hk.block _ (by omega) (fun h => h)).trans r3, (hk.block _ (by omega) (fun h => h)).trans r4, hk.mono (fun _ _ h => h.elim)⟩
  case assign =>
    intro W k K hK
    unfold edgeV
    gi_wp2
    exact hK
  case body =>
    rintro k gg W ⟨ho, hbd, hK⟩ hk hlo hed
    obtain ⟨q, hq⟩ : ∃ q, (k + 1) % l.length = q := ⟨_, rfl⟩
    obtain ⟨z, hz⟩ : ∃ z, s * sgnI (det (pt l k) (pt l q) p) = z := ⟨_, rfl⟩
    have hzb := side_prod l k p
    have hos := outB_succ l k p
    have hbs' := bndB_succ l k p
    rw [edgeD_eq, hq, HS.out, hz] at hzb hos hbs'
    have hzw : IntKind.i64.wrap z = z := by rw [IntKind.wrap_i64]; omega
    have hzS : IsS z := by unfold IsS; omega
    unfold EdgeAt at hed
    rw [hq] at hed
    have hgl : gg < W.heap.size := (Array.getElem?_eq_some_iff.1 hed).1
    have HOS := Lib.hid hos
    have HBS := Lib.hid hbs'
    have HO := Lib.hid ho
    have HB := Lib.hid hbd
    have HK := Lib.hid hK
    have HED := Lib.hid hed
    have HQ := Lib.hid hq
    have R0 := Lib.hid r0
    have R1 := Lib.hid r1
    have R2 := Lib.hid r2
    have g0 := cells_at hed 0
    have o0 := cells_at ho 0
    have o1 := two_frozen ho 0
    clear hos hbs' ho hbd hK hed hq r0 r1 r2 r3 r4 r5 cellK
    have t0 := (CK.out _ w.heap.size 0 HK.out (by omega) (by omega) (by omega)).trans (cells_at R0.out 0)
    by_cases hk0 : k = 0
    · subst hk0
      have hKa : Keeps (fun i => i = bs + 1 ∨ i = bs + 1 + 1) wl (W.setCell ⟨bs + 1, 0, none⟩ (.int .u64 0)) := HK.out.setCell ⟨bs + 1, 0, none⟩ (fun _ => .inl rfl) _
      have hedk : Keeps (fun i => i = bs + 1 ∨ i = bs + 1 + 1) W (W.setCell ⟨bs + 1, 0, none⟩ (.int .u64 0)) := (Keeps.refl _ W).setCell ⟨bs + 1, 0, none⟩ (fun _ => .inl rfl) _
      have HO2 := Lib.hid (show (W.setCell ⟨bs + 1, 0, none⟩ (.int .u64 0)).heap[bs + 1]? = some (.cells #[.int .u64 (maskI false)] 43 (0, 0)) from cells_put HO.out 0 _)
      have HB2 := Lib.hid ((((Keeps.refl (fun i => i = bs + 1) W).setCell ⟨bs + 1, 0, none⟩ (fun _ => rfl) (.int .u64 0)).block (bs + 1 + 1) (Array.getElem?_eq_some_iff.1 HB.out).1 (by omega)).trans HB.out)
      have t1 := (CK.out _ w.heap.size 0 hKa (by omega) (by omega) (by omega)).trans (cells_at R0.out 0)
      have g1 := cells_at ((hedk.block _ hgl (show ¬ (gg = bs + 1 ∨ gg = bs + 1 + 1) by omega)).trans HED.out) 0
      gi_wp2_with fail
      refine ⟨trivial, ?_⟩
      refine (CallsIn.inRound _ (callsIn_wide.2 (noteN _ _ _ _))).mono ?_; rintro e W3 ⟨rfl, rfl⟩
      clear t0 t1 g0 g1 o0 o1
      gi_wp2_with fail
      have e0 := (CK.out _ bs 0 hKa (by omega) (by omega) (by omega)).trans (cells_at R2.out 0)
      have hed2 := (hedk.block _ hgl (show ¬ (gg = bs + 1 ∨ gg = bs + 1 + 1) by omega)).trans HED.out
      have e1 := cells_at hed2 2
      have e2 := cells_at hed2 3
      have e3 := cells_at hed2 4
      have e4 := cells_at hed2 5
      have e5 := (CK.out _ (w.heap.size + 1) 0 hKa (by omega) (by omega) (by omega)).trans (cells_at R1.out 0)
      have e6 := (CK.out _ (w.heap.size + 1) 1 hKa (by omega) (by omega) (by omega)).trans (cells_at R1.out 1)
      have hsz0 := hKa.size
      have hbW : bs < (W.setCell ⟨bs + 1, 0, none⟩ (.int .u64 0)).heap.size := by omega
      have hgW : gg < (W.setCell ⟨bs + 1, 0, none⟩ (.int .u64 0)).heap.size := (Array.getElem?_eq_some_iff.1 hed2).1
      have hpW : w.heap.size + 1 < (W.setCell ⟨bs + 1, 0, none⟩ (.int .u64 0)).heap.size := by omega
      have HKW := Lib.hid (show Keeps (fun _ => False) w (W.setCell ⟨bs + 1, 0, none⟩ (.int .u64 0)) from hkW.trans hKa (fun i hi h => by omega))
      have HED2 := Lib.hid hed2
      clear hed2
      refine round_region_late (fun W => W.cell? ⟨bs, 0, none⟩ = some (.int .i64 s) ∧ W.cell? ⟨gg, 2, none⟩ = some (.int .i64 (pt l 0).1) ∧ W.cell? ⟨gg, 3, none⟩ = some (.int .i64 (pt l 0).2) ∧ W.cell? ⟨gg, 4, none⟩ = some (.int .i64 (pt l q).1) ∧ W.cell? ⟨gg, 5, none⟩ = some (.int .i64 (pt l q).2) ∧ W.cell? ⟨w.heap.size + 1, 0, none⟩ = some (.int .i64 p.1) ∧ W.cell? ⟨w.heap.size + 1, 1, none⟩ = some (.int .i64 p.2)) [] (by kernel_rfl) (by kernel_rfl) (fun ⟨_, _, h⟩ => h) ?_
      have hS : ((W.setCell ⟨bs + 1, 0, none⟩ (.int .u64 0))).drew.cell? ⟨bs, 0, none⟩ = some (.int .i64 s) ∧ ((W.setCell ⟨bs + 1, 0, none⟩ (.int .u64 0))).drew.cell? ⟨gg, 2, none⟩ = some (.int .i64 (pt l 0).1) ∧ ((W.setCell ⟨bs + 1, 0, none⟩ (.int .u64 0))).drew.cell? ⟨gg, 3, none⟩ = some (.int .i64 (pt l 0).2) ∧ ((W.setCell ⟨bs + 1, 0, none⟩ (.int .u64 0))).drew.cell? ⟨gg, 4, none⟩ = some (.int .i64 (pt l q).1) ∧ ((W.setCell ⟨bs + 1, 0, none⟩ (.int .u64 0))).drew.cell? ⟨gg, 5, none⟩ = some (.int .i64 (pt l q).2) ∧ ((W.setCell ⟨bs + 1, 0, none⟩ (.int .u64 0))).drew.cell? ⟨w.heap.size + 1, 0, none⟩ = some (.int .i64 p.1) ∧ ((W.setCell ⟨bs + 1, 0, none⟩ (.int .u64 0))).drew.cell? ⟨w.heap.size + 1, 1, none⟩ = some (.int .i64 p.2) := ⟨e0, e1, e2, e3, e4, e5, e6⟩
      refine tkL 0 (.int .i64 s) rfl (by kernel_rfl) (fun _ _ _ h => h) (by kernel_rfl) ‹_› ?_ ?_
      · intro w hSw
        obtain ⟨s0, s1, s2, s3, s4, s5, s6⟩ := hSw
        go_simp
      try simp only [ga, gb, gc, Act.put, gd, ge, gf]
      refine tkA 1 (.pointer (some ⟨gg, 2, none⟩)) rfl (by kernel_rfl) (fun _ _ _ h => h) (by kernel_rfl) (fun _ => ‹_›) ?_ ?_
      · intro w _; go_simp
      try simp only [ga, gb, gc, Act.put, gd, ge, gf]
      refine tkL 2 (.agg #[.int .i64 (pt l 0).1, .int .i64 (pt l 0).2]) rfl (by kernel_rfl) (fun _ _ _ h => h) (by kernel_rfl) ‹_› ?_ ?_
      · intro w hSw
        obtain ⟨s0, s1, s2, s3, s4, s5, s6⟩ := hSw
        go_simp
      try simp only [ga, gb, gc, Act.put, gd, ge, gf]
      refine tkA 3 (.pointer (some ⟨gg, 4, none⟩)) rfl (by kernel_rfl) (fun _ _ _ h => h) (by kernel_rfl) (fun _ => ‹_›) ?_ ?_
      · intro w _; go_simp
      try simp only [ga, gb, gc, Act.put, gd, ge, gf]
      refine tkL 4 (.agg #[.int .i64 (pt l q).1, .int .i64 (pt l q).2]) rfl (by kernel_rfl) (fun _ _ _ h => h) (by kernel_rfl) ‹_› ?_ ?_
      · intro w hSw
        obtain ⟨s0, s1, s2, s3, s4, s5, s6⟩ := hSw
        go_simp
      try simp only [ga, gb, gc, Act.put, gd, ge, gf]
      refine tkL 5 (.agg #[.int .i64 p.1, .int .i64 p.2]) rfl (by kernel_rfl) (fun _ _ _ h => h) (by kernel_rfl) ‹_› ?_ ?_
      · intro w hSw
        obtain ⟨s0, s1, s2, s3, s4, s5, s6⟩ := hSw
        go_simp
      try simp only [ga, gb, gc, Act.put, gd, ge, gf]
      refine wpAnyL_next (i := 6) (by kernel_rfl) rfl (fun K hK => ?_)
      go_simp
      refine (osign_calls (pt l 0) (pt l q) p (hp.at 0) (hp.at q) hpp _ (HG.out.kept (HKW.out.drewN 1))).mono ?_; rintro e W4 ⟨rfl, hk4'⟩
      have hk4 : Keeps (fun _ => False) (W.setCell ⟨bs + 1, 0, none⟩ (.int .u64 0)) W4 := knil ((Keeps.refl _ _).drewN 1) hk4'
      go_wp2_with fail
      refine hK.out _ _ ⟨((hk4).cell (p := ⟨bs, 0, none⟩) hbW (fun h => h)).trans e0, ((hk4).cell (p := ⟨gg, 2, none⟩) hgW (fun h => h)).trans e1, ((hk4).cell (p := ⟨gg, 3, none⟩) hgW (fun h => h)).trans e2, ((hk4).cell (p := ⟨gg, 4, none⟩) hgW (fun h => h)).trans e3, ((hk4).cell (p := ⟨gg, 5, none⟩) hgW (fun h => h)).trans e4, ((hk4).cell (p := ⟨w.heap.size + 1, 0, none⟩) hpW (fun h => h)).trans e5, ((hk4).cell (p := ⟨w.heap.size + 1, 1, none⟩) hpW (fun h => h)).trans e6⟩ (fun hHeld => ?_)
      clear hK K
      try simp only [ga, gb, gc, Act.put, gd, ge, gf]
      refine tkA 7 (.int .i64 z) rfl (by kernel_rfl) (fun _ _ _ h => h) (by kernel_rfl) (fun _ => ‹_›) ?_ ?_
      · intro w _; go_simp
      try simp only [ga, gb, gc, Act.put, gd, ge, gf]
      refine tkA 8 (.int .i64 z) rfl (by kernel_rfl) (fun _ _ _ h => h) (by kernel_rfl) (fun _ => ‹_›) ?_ ?_
      · intro w _; go_simp
      try simp only [ga, gb, gc, Act.put, gd, ge, gf]
      refine wpAnyL_done (by kernel_rfl) ?_ _
      clear hS e0 e1 e2 e3 e4 e5 e6
      have ho4 := (hk4.block _ (Array.getElem?_eq_some_iff.1 HO2.out).1 (fun h => h)).trans HO2.out
      have hb4 := (hk4.block _ (Array.getElem?_eq_some_iff.1 HB2.out).1 (fun h => h)).trans HB2.out
      have o0 := cells_at ho4 0
      have o1 := two_frozen ho4 0
      have HO4 := Lib.hid ho4
      have HB4 := Lib.hid hb4
      clear ho4 hb4
      gi_wp2_with fail
      refine round_region_late (fun W => W.cell? ⟨bs + 1, 0, none⟩ = some (.int .u64 (maskI false))) [4] (by kernel_rfl) (by kernel_rfl) (fun ⟨_, _, h⟩ => h) ?_
      have hS9 : W4.drew.cell? ⟨bs + 1, 0, none⟩ = some (.int .u64 (maskI false)) := o0
      obtain ⟨m1, hm1⟩ : ∃ m1, (false || decide (z < 0)) = m1 := ⟨_, rfl⟩
      have hom := or_masks false (decide (z < 0))
      rw [hm1] at hom
      have HM1 := Lib.hid hm1
      clear hm1
      refine tkL 0 (.int .u64 (maskI false)) rfl (by kernel_rfl) (fun _ _ _ h => h) (by kernel_rfl) ‹_› ?_ ?_
      · intro w hSw
        skip
        go_simp
      try simp only [ga, gb, gc, Act.put, gd, ge, gf]
      refine tkA 1 (.int .i64 z) rfl (by kernel_rfl) (fun _ _ _ h => h) (by kernel_rfl) (fun _ => ‹_›) ?_ ?_
      · intro w _; go_simp
      try simp only [ga, gb, gc, Act.put, gd, ge, gf]
      refine wpAnyL_next (i := 2) (by kernel_rfl) rfl (fun K hK => ?_)
      go_simp
      refine (negative_calls z hzS _).mono ?_; rintro e W5 ⟨rfl, rfl⟩
      go_wp2_with fail
      refine hK.out _ _ hS9 (fun hHeld => ?_)
      clear hK K
      try simp only [ga, gb, gc, Act.put, gd, ge, gf]
      refine tkA 3 (.int .u64 (maskI m1)) rfl (by kernel_rfl) (fun _ _ _ h => h) (by kernel_rfl) (fun _ => ‹_›) ?_ ?_
      · intro w _; go_simp
      try simp only [ga, gb, gc, Act.put, gd, ge, gf]
      refine wpAnyL_late (i := 4) (by kernel_rfl) rfl (by kernel_rfl) (fun K hK => ?_)
      go_simp
      refine hK.out _ _ (fun _ => ?_)
      clear hK K
      try simp only [ga, gb, gc, Act.put, gd, ge, gf]
      refine wpAnyL_done (by kernel_rfl) ?_ _
      clear hS9 o0 o1 hom
      gi_wp2_with fail
      obtain ⟨W5, hW5⟩ : ∃ W5, (W4.setCell ⟨bs + 1, 0, none⟩ (.int .u64 (maskI m1))).drew = W5 := ⟨_, rfl⟩
      rw [hW5]
      have hk45 : Keeps (fun i => i = bs + 1) W4 W5 := by rw [← hW5]; exact ((Keeps.refl (fun i => i = bs + 1) W4).setCell ⟨bs + 1, 0, none⟩ (fun _ => rfl) _).drewN 1
      have HO5 := Lib.hid (show W5.heap[bs + 1]? = some (.cells #[.int .u64 (maskI m1)] 43 (0, 0)) by rw [← hW5]; exact cells_put HO4.out 0 _)
      have hb5 := (hk45.block (bs + 1 + 1) (Array.getElem?_eq_some_iff.1 HB4.out).1 (by omega)).trans HB4.out
      have o0 := cells_at hb5 0
      have o1 := two_frozen hb5 0
      have HB5 := Lib.hid hb5
      clear hb5 hW5
      have hzU : IsU (z % 18446744073709551616) := by unfold IsU; omega
      have hzu : IntKind.u64.wrap z = z % 18446744073709551616 := by rw [IntKind.wrap_u64]
      have HZZ := Lib.hid (show (z % 18446744073709551616 == 0) = (z == 0) by rw [Bool.eq_iff_iff, beq_iff_eq, beq_iff_eq]; unfold IsS at hzS; omega)
      obtain ⟨m2, hm2⟩ : ∃ m2, (bndB l 0 p || (z == 0)) = m2 := ⟨_, rfl⟩
      have hom := or_masks (bndB l 0 p) (z == 0)
      rw [hm2] at hom
      have HM2 := Lib.hid hm2
      clear hm2
      refine round_region_late (fun W => W.cell? ⟨bs + 1 + 1, 0, none⟩ = some (.int .u64 (maskI (bndB l 0 p)))) [5] (by kernel_rfl) (by kernel_rfl) (fun ⟨_, _, h⟩ => h) ?_
      have hS10 : W5.cell? ⟨bs + 1 + 1, 0, none⟩ = some (.int .u64 (maskI (bndB l 0 p))) := o0
      refine tkL 0 (.int .u64 (maskI (bndB l 0 p))) rfl (by kernel_rfl) (fun _ _ _ h => h) (by kernel_rfl) ‹_› ?_ ?_
      · intro w hSw
        skip
        go_simp
      try simp only [ga, gb, gc, Act.put, gd, ge, gf]
      refine tkA 1 (.int .i64 z) rfl (by kernel_rfl) (fun _ _ _ h => h) (by kernel_rfl) (fun _ => ‹_›) ?_ ?_
      · intro w _; go_simp
      try simp only [ga, gb, gc, Act.put, gd, ge, gf]
      refine tkA 2 (.int .u64 (z % 18446744073709551616)) rfl (by kernel_rfl) (fun _ _ _ h => h) (by kernel_rfl) (fun _ => ‹_›) ?_ ?_
      · intro w _; go_simp
      try simp only [ga, gb, gc, Act.put, gd, ge, gf]
      refine wpAnyL_next (i := 3) (by kernel_rfl) rfl (fun K hK => ?_)
      go_simp
      refine (zero_calls _ hzU _).mono ?_; rintro e W5 ⟨rfl, rfl⟩
      rw [HZZ.out]
      go_wp2_with fail
      refine hK.out _ _ hS10 (fun hHeld => ?_)
      clear hK K
      try simp only [ga, gb, gc, Act.put, gd, ge, gf]
      refine tkA 4 (.int .u64 (maskI m2)) rfl (by kernel_rfl) (fun _ _ _ h => h) (by kernel_rfl) (fun _ => ‹_›) ?_ ?_
      · intro w _; go_simp
      try simp only [ga, gb, gc, Act.put, gd, ge, gf]
      refine wpAnyL_late (i := 5) (by kernel_rfl) rfl (by kernel_rfl) (fun K hK => ?_)
      go_simp
      refine hK.out _ _ (fun _ => ?_)
      clear hK K
      try simp only [ga, gb, gc, Act.put, gd, ge, gf]
      refine wpAnyL_done (by kernel_rfl) ?_ _
      clear hS10 o0 o1 hom
      gi_wp2_with fail
      have hk6 : Keeps (fun i => i = bs + 1 + 1) W5 (W5.setCell ⟨bs + 1 + 1, 0, none⟩ (.int .u64 (maskI m2))).drew := ((Keeps.refl (fun i => i = bs + 1 + 1) W5).setCell ⟨bs + 1 + 1, 0, none⟩ (fun _ => rfl) _).drewN 1
      have kWf := ((hedk.trans hk4 (fun _ _ h => h.elim)).trans hk45 (fun i _ h => .inl h)).trans hk6 (fun i _ h => .inr h)
      have n0 : ¬ (wl.heap.size = bs + 1 ∨ wl.heap.size = bs + 1 + 1) := by omega
      have n1 : ¬ (wl.heap.size + 1 = bs + 1 ∨ wl.heap.size + 1 = bs + 1 + 1) := by omega
      refine ⟨⟨kWf.block _ (by omega) n0, kWf.block _ (by omega) n1⟩, Nat.le_trans (show wl.heap.size + 2 ≤ W.heap.size by omega) kWf.size, ?_, ?_, HK.out.trans kWf (fun i _ h => h)⟩
      · have h1 := (hk6.block (bs + 1) (Array.getElem?_eq_some_iff.1 HO5.out).1 (by omega)).trans HO5.out
        rw [HOS.out, if_pos trivial, HM1.out]
        exact h1
      · have h1 : (W5.setCell ⟨bs + 1 + 1, 0, none⟩ (.int .u64 (maskI m2))).drew.heap[bs + 1 + 1]? = some (.cells #[.int .u64 (maskI m2)] 43 (0, 0)) := cells_put HB5.out 0 _
        rw [HBS.out, HM2.out]
        exact h1
    · have hkb : ((k : Int) == 0) = false := beq_eq_false_iff_ne.2 (by omega)
      have hedk : Keeps (fun i => i = bs + 1 ∨ i = bs + 1 + 1) W W := Keeps.refl _ W
      have HO2 := HO
      have HB2 := HB
      have Hk0 := Lib.hid hk0
      clear hk0
      gi_wp2_with fail
      refine ⟨trivial, ?_⟩
      refine (CallsIn.inRound _ (callsIn_wide.2 (noteN _ _ _ _))).mono ?_; rintro e W3 ⟨rfl, hW3⟩
      rw [hW3]
      clear hW3 W3
      clear t0 g0 o0 o1
      gi_wp2_with fail
      have e0 := (CK.out _ bs 0 HK.out (by omega) (by omega) (by omega)).trans (cells_at R2.out 0)
      have hed2 := (hedk.block _ hgl (show ¬ (gg = bs + 1 ∨ gg = bs + 1 + 1) by omega)).trans HED.out
      have e1 := cells_at hed2 2
      have e2 := cells_at hed2 3
      have e3 := cells_at hed2 4
      have e4 := cells_at hed2 5
      have e5 := (CK.out _ (w.heap.size + 1) 0 HK.out (by omega) (by omega) (by omega)).trans (cells_at R1.out 0)
      have e6 := (CK.out _ (w.heap.size + 1) 1 HK.out (by omega) (by omega) (by omega)).trans (cells_at R1.out 1)
      have hsz0 := HK.out.size
      have hbW : bs < W.heap.size := by omega
      have hgW : gg < W.heap.size := (Array.getElem?_eq_some_iff.1 hed2).1
      have hpW : w.heap.size + 1 < W.heap.size := by omega
      have HKW := Lib.hid (show Keeps (fun _ => False) w W from hkW.trans HK.out (fun i hi h => by omega))
      have HED2 := Lib.hid hed2
      clear hed2
      refine round_region_late (fun W => W.cell? ⟨bs, 0, none⟩ = some (.int .i64 s) ∧ W.cell? ⟨gg, 2, none⟩ = some (.int .i64 (pt l k).1) ∧ W.cell? ⟨gg, 3, none⟩ = some (.int .i64 (pt l k).2) ∧ W.cell? ⟨gg, 4, none⟩ = some (.int .i64 (pt l q).1) ∧ W.cell? ⟨gg, 5, none⟩ = some (.int .i64 (pt l q).2) ∧ W.cell? ⟨w.heap.size + 1, 0, none⟩ = some (.int .i64 p.1) ∧ W.cell? ⟨w.heap.size + 1, 1, none⟩ = some (.int .i64 p.2)) [] (by kernel_rfl) (by kernel_rfl) (fun ⟨_, _, h⟩ => h) ?_
      have hS : (W).drew.cell? ⟨bs, 0, none⟩ = some (.int .i64 s) ∧ (W).drew.cell? ⟨gg, 2, none⟩ = some (.int .i64 (pt l k).1) ∧ (W).drew.cell? ⟨gg, 3, none⟩ = some (.int .i64 (pt l k).2) ∧ (W).drew.cell? ⟨gg, 4, none⟩ = some (.int .i64 (pt l q).1) ∧ (W).drew.cell? ⟨gg, 5, none⟩ = some (.int .i64 (pt l q).2) ∧ (W).drew.cell? ⟨w.heap.size + 1, 0, none⟩ = some (.int .i64 p.1) ∧ (W).drew.cell? ⟨w.heap.size + 1, 1, none⟩ = some (.int .i64 p.2) := ⟨e0, e1, e2, e3, e4, e5, e6⟩
      refine tkL 0 (.int .i64 s) rfl (by kernel_rfl) (fun _ _ _ h => h) (by kernel_rfl) ‹_› ?_ ?_
      · intro w hSw
        obtain ⟨s0, s1, s2, s3, s4, s5, s6⟩ := hSw
        go_simp
      try simp only [ga, gb, gc, Act.put, gd, ge, gf]
      refine tkA 1 (.pointer (some ⟨gg, 2, none⟩)) rfl (by kernel_rfl) (fun _ _ _ h => h) (by kernel_rfl) (fun _ => ‹_›) ?_ ?_
      · intro w _; go_simp
      try simp only [ga, gb, gc, Act.put, gd, ge, gf]
      refine tkL 2 (.agg #[.int .i64 (pt l k).1, .int .i64 (pt l k).2]) rfl (by kernel_rfl) (fun _ _ _ h => h) (by kernel_rfl) ‹_› ?_ ?_
      · intro w hSw
        obtain ⟨s0, s1, s2, s3, s4, s5, s6⟩ := hSw
        go_simp
      try simp only [ga, gb, gc, Act.put, gd, ge, gf]
      refine tkA 3 (.pointer (some ⟨gg, 4, none⟩)) rfl (by kernel_rfl) (fun _ _ _ h => h) (by kernel_rfl) (fun _ => ‹_›) ?_ ?_
      · intro w _; go_simp
      try simp only [ga, gb, gc, Act.put, gd, ge, gf]
      refine tkL 4 (.agg #[.int .i64 (pt l q).1, .int .i64 (pt l q).2]) rfl (by kernel_rfl) (fun _ _ _ h => h) (by kernel_rfl) ‹_› ?_ ?_
      · intro w hSw
        obtain ⟨s0, s1, s2, s3, s4, s5, s6⟩ := hSw
        go_simp
      try simp only [ga, gb, gc, Act.put, gd, ge, gf]
      refine tkL 5 (.agg #[.int .i64 p.1, .int .i64 p.2]) rfl (by kernel_rfl) (fun _ _ _ h => h) (by kernel_rfl) ‹_› ?_ ?_
      · intro w hSw
        obtain ⟨s0, s1, s2, s3, s4, s5, s6⟩ := hSw
        go_simp
      try simp only [ga, gb, gc, Act.put, gd, ge, gf]
      refine wpAnyL_next (i := 6) (by kernel_rfl) rfl (fun K hK => ?_)
      go_simp
      refine (osign_calls (pt l k) (pt l q) p (hp.at k) (hp.at q) hpp _ (HG.out.kept (HKW.out.drewN 1))).mono ?_; rintro e W4 ⟨rfl, hk4'⟩
      have hk4 : Keeps (fun _ => False) W W4 := knil ((Keeps.refl _ _).drewN 1) hk4'
      go_wp2_with fail
      refine hK.out _ _ ⟨((hk4).cell (p := ⟨bs, 0, none⟩) hbW (fun h => h)).trans e0, ((hk4).cell (p := ⟨gg, 2, none⟩) hgW (fun h => h)).trans e1, ((hk4).cell (p := ⟨gg, 3, none⟩) hgW (fun h => h)).trans e2, ((hk4).cell (p := ⟨gg, 4, none⟩) hgW (fun h => h)).trans e3, ((hk4).cell (p := ⟨gg, 5, none⟩) hgW (fun h => h)).trans e4, ((hk4).cell (p := ⟨w.heap.size + 1, 0, none⟩) hpW (fun h => h)).trans e5, ((hk4).cell (p := ⟨w.heap.size + 1, 1, none⟩) hpW (fun h => h)).trans e6⟩ (fun hHeld => ?_)
      clear hK K
      try simp only [ga, gb, gc, Act.put, gd, ge, gf]
      refine tkA 7 (.int .i64 z) rfl (by kernel_rfl) (fun _ _ _ h => h) (by kernel_rfl) (fun _ => ‹_›) ?_ ?_
      · intro w _; go_simp
      try simp only [ga, gb, gc, Act.put, gd, ge, gf]
      refine tkA 8 (.int .i64 z) rfl (by kernel_rfl) (fun _ _ _ h => h) (by kernel_rfl) (fun _ => ‹_›) ?_ ?_
      · intro w _; go_simp
      try simp only [ga, gb, gc, Act.put, gd, ge, gf]
      refine wpAnyL_done (by kernel_rfl) ?_ _
      clear hS e0 e1 e2 e3 e4 e5 e6
      have ho4 := (hk4.block _ (Array.getElem?_eq_some_iff.1 HO2.out).1 (fun h => h)).trans HO2.out
      have hb4 := (hk4.block _ (Array.getElem?_eq_some_iff.1 HB2.out).1 (fun h => h)).trans HB2.out
      have o0 := cells_at ho4 0
      have o1 := two_frozen ho4 0
      have HO4 := Lib.hid ho4
      have HB4 := Lib.hid hb4
      clear ho4 hb4
      gi_wp2_with fail
      refine round_region_late (fun W => W.cell? ⟨bs + 1, 0, none⟩ = some (.int .u64 (maskI (outB l k p)))) [4] (by kernel_rfl) (by kernel_rfl) (fun ⟨_, _, h⟩ => h) ?_
      have hS9 : W4.drew.cell? ⟨bs + 1, 0, none⟩ = some (.int .u64 (maskI (outB l k p))) := o0
      obtain ⟨m1, hm1⟩ : ∃ m1, ((outB l k p) || decide (z < 0)) = m1 := ⟨_, rfl⟩
      have hom := or_masks (outB l k p) (decide (z < 0))
      rw [hm1] at hom
      have HM1 := Lib.hid hm1
      clear hm1
      refine tkL 0 (.int .u64 (maskI (outB l k p))) rfl (by kernel_rfl) (fun _ _ _ h => h) (by kernel_rfl) ‹_› ?_ ?_
      · intro w hSw
        skip
        go_simp
      try simp only [ga, gb, gc, Act.put, gd, ge, gf]
      refine tkA 1 (.int .i64 z) rfl (by kernel_rfl) (fun _ _ _ h => h) (by kernel_rfl) (fun _ => ‹_›) ?_ ?_
      · intro w _; go_simp
      try simp only [ga, gb, gc, Act.put, gd, ge, gf]
      refine wpAnyL_next (i := 2) (by kernel_rfl) rfl (fun K hK => ?_)
      go_simp
      refine (negative_calls z hzS _).mono ?_; rintro e W5 ⟨rfl, rfl⟩
      go_wp2_with fail
      refine hK.out _ _ hS9 (fun hHeld => ?_)
      clear hK K
      try simp only [ga, gb, gc, Act.put, gd, ge, gf]
      refine tkA 3 (.int .u64 (maskI m1)) rfl (by kernel_rfl) (fun _ _ _ h => h) (by kernel_rfl) (fun _ => ‹_›) ?_ ?_
      · intro w _; go_simp
      try simp only [ga, gb, gc, Act.put, gd, ge, gf]
      refine wpAnyL_late (i := 4) (by kernel_rfl) rfl (by kernel_rfl) (fun K hK => ?_)
      go_simp
      refine hK.out _ _ (fun _ => ?_)
      clear hK K
      try simp only [ga, gb, gc, Act.put, gd, ge, gf]
      refine wpAnyL_done (by kernel_rfl) ?_ _
      clear hS9 o0 o1 hom
      gi_wp2_with fail
      obtain ⟨W5, hW5⟩ : ∃ W5, (W4.setCell ⟨bs + 1, 0, none⟩ (.int .u64 (maskI m1))).drew = W5 := ⟨_, rfl⟩
      rw [hW5]
      have hk45 : Keeps (fun i => i = bs + 1) W4 W5 := by rw [← hW5]; exact ((Keeps.refl (fun i => i = bs + 1) W4).setCell ⟨bs + 1, 0, none⟩ (fun _ => rfl) _).drewN 1
      have HO5 := Lib.hid (show W5.heap[bs + 1]? = some (.cells #[.int .u64 (maskI m1)] 43 (0, 0)) by rw [← hW5]; exact cells_put HO4.out 0 _)
      have hb5 := (hk45.block (bs + 1 + 1) (Array.getElem?_eq_some_iff.1 HB4.out).1 (by omega)).trans HB4.out
      have o0 := cells_at hb5 0
      have o1 := two_frozen hb5 0
      have HB5 := Lib.hid hb5
      clear hb5 hW5
      have hzU : IsU (z % 18446744073709551616) := by unfold IsU; omega
      have hzu : IntKind.u64.wrap z = z % 18446744073709551616 := by rw [IntKind.wrap_u64]
      have HZZ := Lib.hid (show (z % 18446744073709551616 == 0) = (z == 0) by rw [Bool.eq_iff_iff, beq_iff_eq, beq_iff_eq]; unfold IsS at hzS; omega)
      obtain ⟨m2, hm2⟩ : ∃ m2, (bndB l k p || (z == 0)) = m2 := ⟨_, rfl⟩
      have hom := or_masks (bndB l k p) (z == 0)
      rw [hm2] at hom
      have HM2 := Lib.hid hm2
      clear hm2
      refine round_region_late (fun W => W.cell? ⟨bs + 1 + 1, 0, none⟩ = some (.int .u64 (maskI (bndB l k p)))) [5] (by kernel_rfl) (by kernel_rfl) (fun ⟨_, _, h⟩ => h) ?_
      have hS10 : W5.cell? ⟨bs + 1 + 1, 0, none⟩ = some (.int .u64 (maskI (bndB l k p))) := o0
      refine tkL 0 (.int .u64 (maskI (bndB l k p))) rfl (by kernel_rfl) (fun _ _ _ h => h) (by kernel_rfl) ‹_› ?_ ?_
      · intro w hSw
        skip
        go_simp
      try simp only [ga, gb, gc, Act.put, gd, ge, gf]
      refine tkA 1 (.int .i64 z) rfl (by kernel_rfl) (fun _ _ _ h => h) (by kernel_rfl) (fun _ => ‹_›) ?_ ?_
      · intro w _; go_simp
      try simp only [ga, gb, gc, Act.put, gd, ge, gf]
      refine tkA 2 (.int .u64 (z % 18446744073709551616)) rfl (by kernel_rfl) (fun _ _ _ h => h) (by kernel_rfl) (fun _ => ‹_›) ?_ ?_
      · intro w _; go_simp
      try simp only [ga, gb, gc, Act.put, gd, ge, gf]
      refine wpAnyL_next (i := 3) (by kernel_rfl) rfl (fun K hK => ?_)
      go_simp
      refine (zero_calls _ hzU _).mono ?_; rintro e W5 ⟨rfl, rfl⟩
      rw [HZZ.out]
      go_wp2_with fail
      refine hK.out _ _ hS10 (fun hHeld => ?_)
      clear hK K
      try simp only [ga, gb, gc, Act.put, gd, ge, gf]
      refine tkA 4 (.int .u64 (maskI m2)) rfl (by kernel_rfl) (fun _ _ _ h => h) (by kernel_rfl) (fun _ => ‹_›) ?_ ?_
      · intro w _; go_simp
      try simp only [ga, gb, gc, Act.put, gd, ge, gf]
      refine wpAnyL_late (i := 5) (by kernel_rfl) rfl (by kernel_rfl) (fun K hK => ?_)
      go_simp
      refine hK.out _ _ (fun _ => ?_)
      clear hK K
      try simp only [ga, gb, gc, Act.put, gd, ge, gf]
      refine wpAnyL_done (by kernel_rfl) ?_ _
      clear hS10 o0 o1 hom
      gi_wp2_with fail
      have hk6 : Keeps (fun i => i = bs + 1 + 1) W5 (W5.setCell ⟨bs + 1 + 1, 0, none⟩ (.int .u64 (maskI m2))).drew := ((Keeps.refl (fun i => i = bs + 1 + 1) W5).setCell ⟨bs + 1 + 1, 0, none⟩ (fun _ => rfl) _).drewN 1
      have kWf := ((hedk.trans hk4 (fun _ _ h => h.elim)).trans hk45 (fun i _ h => .inl h)).trans hk6 (fun i _ h => .inr h)
      have n0 : ¬ (wl.heap.size = bs + 1 ∨ wl.heap.size = bs + 1 + 1) := by omega
      have n1 : ¬ (wl.heap.size + 1 = bs + 1 ∨ wl.heap.size + 1 = bs + 1 + 1) := by omega
      refine ⟨⟨kWf.block _ (by omega) n0, kWf.block _ (by omega) n1⟩, Nat.le_trans (show wl.heap.size + 2 ≤ W.heap.size by omega) kWf.size, ?_, ?_, HK.out.trans kWf (fun i _ h => h)⟩
      · have h1 := (hk6.block (bs + 1) (Array.getElem?_eq_some_iff.1 HO5.out).1 (by omega)).trans HO5.out
        rw [HOS.out, if_neg Hk0.out, HM1.out]
        exact h1
      · have h1 : (W5.setCell ⟨bs + 1 + 1, 0, none⟩ (.int .u64 (maskI m2))).drew.heap[bs + 1 + 1]? = some (.cells #[.int .u64 (maskI m2)] 43 (0, 0)) := cells_put HB5.out 0 _
        rw [HBS.out, HM2.out]
        exact h1
  case done =>
    rintro W ⟨ho, hbd, hK⟩ hz2 hdd
    have o0 := cells_at ho 0
    have o1 := cells_at hbd 0
    have HK := Lib.hid hK
    have HL := Lib.hid (loc_masks l p (by omega))
    have hkwW := Lib.hid (show Keeps (fun _ => False) w W from hkW.trans hK (fun i hi h => by omega))
    clear ho hbd hK r0 r1 r2 r3 r4 r5 cellK
    gi_wp2_with fail
    refine ⟨trivial, ?_⟩
    refine (callsIn_wide.2 (sign_calls _ _ (maskI_isU _) (maskI_isU _) _ (HG.out.kept hkwW.out).b)).mono ?_; rintro e W' ⟨rfl, n, rfl⟩
    rw [HL.out]
    gi_wp2
    have hkp := keeps_putE (W.drewN n) (bs + 4) (.deferred none)
    rw [hsz] at hdd
    refine ⟨by simp, .inl ⟨_, _, rfl, run_takeDeferred hdd, ⟨_, results_tmp rfl _ _ _, ⟨rfl, ?_⟩⟩⟩⟩
    exact (hkwW.out.drewN n).trans hkp (fun i hi h => by omega)
end Go.Proofs.YtmoajobnhiopiaaGreatDoor.po
set_option linter.unusedSimpArgs false
set_option linter.unusedVariables false
namespace Go.Proofs.YtmoajobnhiopiaaGreatDoor.lm
open Go Go.RowKit Go.Shelf Go.Maps Go.Proofs.YtmoajobnhiopiaaGreatDoor.mk Go.Proofs.YtmoajobnhiopiaaGreatDoor.tp Go.Proofs.YtmoajobnhiopiaaGreatDoor.rg Go.Proofs.YtmoajobnhiopiaaGreatDoor.gm
open List renaming getElem_toArray → ga, getElem_cons_zero → gb, getElem_cons_succ → gc, setIfInBounds_toArray → gd, set_cons_zero → ge, set_cons_succ → gf
theorem vecAt_mk {w w' : World} {a b : Value} {x : Int × Int} (ha : numAt w a 2 x.1) (hb : numAt w b 2 x.2) (hk : Keeps (fun _ => False) w w') : vecAt w' (.agg #[a, b]) x := ⟨a, b, rfl, ha.kept hk, hb.kept hk⟩
theorem fit_cr {a b d : Int × Int} (hd : Pt d) (ha : Pt a) (hb : Pt b) : Fit 3 (cr (vec d a) (vec d b)) := (in_cr (in_vec hd ha) (in_vec hd hb)).fit (by decide)
theorem fit_nrm {a d : Int × Int} (hd : Pt d) (ha : Pt a) : Fit 3 (nrm (vec d a)) := (in_nrm (in_vec hd ha)).fit (by decide)
def part (x y z : Int × Int) : Nat → Int
  | 0 => 0
  | 1 => 0 + nrm x * cr y z
  | 2 => 0 + nrm x * cr y z + nrm y * cr z x
  | _ => 0 + nrm x * cr y z + nrm y * cr z x + nrm z * cr x y
theorem part_end (a b c d : Int × Int) : part (vec d a) (vec d b) (vec d c) 3 = inc a b c d := by
  show 0 + nrm (vec d a) * cr (vec d b) (vec d c) + nrm (vec d b) * cr (vec d c) (vec d a) + nrm (vec d c) * cr (vec d a) (vec d b) = _
  unfold inc
  omega
def SixAt (w : World) (g : Nat) (x y z : Int × Int) : Prop := ∃ s0 s1 s2 s3 s4 s5, w.heap[g]? = some (.cells #[s0, s1, s2, s3, s4, s5] 123 (0, 0)) ∧ numAt w s0 2 x.1 ∧ numAt w s1 2 x.2 ∧ numAt w s2 2 y.1 ∧ numAt w s3 2 y.2 ∧ numAt w s4 2 z.1 ∧ numAt w s5 2 z.2
theorem fro_cells {w : World} {g : Nat} {cs : Array Value} {t : TypeId} (h : w.heap[g]? = some (.cells cs t (0, 0))) (i : Nat) : w.frozen? ⟨g, i, none⟩ = false := two_frozen h i
theorem SixAt.kept {w w' : World} {g : Nat} {x y z : Int × Int} (h : SixAt w g x y z) (hk : Keeps (fun _ => False) w w') : SixAt w' g x y z := by
  obtain ⟨s0, s1, s2, s3, s4, s5, h0, h1, h2, h3, h4, h5, h6⟩ := h
  exact ⟨s0, s1, s2, s3, s4, s5, (hk.block _ (Array.getElem?_eq_some_iff.1 h0).1 (fun h => h)).trans h0, h1.kept hk, h2.kept hk, h3.kept hk, h4.kept hk, h5.kept hk, h6.kept hk⟩
theorem numAt.off {w w' : World} {v : Value} {n : Nat} {x : Int} {g : Nat} {t : TypeId} {fr : Nat × Nat} {cs : Array Value} (h : numAt w v (n + 1) x) (hg : w.heap[g]? = some (.cells cs t fr)) (hn : ∀ (i : Nat) y, cs[i]? ≠ some (.int .u64 y)) (hk : Keeps (fun i => i = g) w w') : numAt w' v (n + 1) x := by
  obtain ⟨b, off, cap, rfl, hb, hc⟩ := h.cases
  have hne : b ≠ g := by
    rintro rfl
    have h0 := hc 0 (by omega)
    rw [cells_at hg] at h0
    exact hn _ _ h0
  exact numAt.mk (Nat.lt_of_lt_of_le hb hk.size) (fun i hi => (hk.cell (p := ⟨b, off + i, none⟩) hb hne).trans (hc i hi))
theorem six_put {w W : World} {g : Nat} {x y z : Int × Int} {s0 s1 s2 s3 s4 s5 : Value} (hk : Keeps (fun _ => False) w W) (hG : W.heap[g]? = some (.cells #[.slice none 0 0, .slice none 0 0, .slice none 0 0, .slice none 0 0, .slice none 0 0, .slice none 0 0] 123 (0, 0))) (hg : w.heap.size ≤ g)
    (h0 : numAt W s0 2 x.1) (h1 : numAt W s1 2 x.2) (h2 : numAt W s2 2 y.1) (h3 : numAt W s3 2 y.2) (h4 : numAt W s4 2 z.1) (h5 : numAt W s5 2 z.2) :
    ∃ g', (Value.pointer (some ⟨g, 0, none⟩)) = .pointer (some ⟨g', 0, none⟩) ∧ SixAt ((((((W.setCell ⟨g, 0, none⟩ s0).setCell ⟨g, 1, none⟩ s1).setCell ⟨g, 2, none⟩ s2).setCell ⟨g, 3, none⟩ s3).setCell ⟨g, 4, none⟩ s4).setCell ⟨g, 5, none⟩ s5) g' x y z ∧ Keeps (fun _ => False) w ((((((W.setCell ⟨g, 0, none⟩ s0).setCell ⟨g, 1, none⟩ s1).setCell ⟨g, 2, none⟩ s2).setCell ⟨g, 3, none⟩ s3).setCell ⟨g, 4, none⟩ s4).setCell ⟨g, 5, none⟩ s5) := by
  have hk2 : Keeps (fun i => i = g) W ((((((W.setCell ⟨g, 0, none⟩ s0).setCell ⟨g, 1, none⟩ s1).setCell ⟨g, 2, none⟩ s2).setCell ⟨g, 3, none⟩ s3).setCell ⟨g, 4, none⟩ s4).setCell ⟨g, 5, none⟩ s5) := ((((((Keeps.refl (fun i => i = g) W).setCell ⟨g, 0, none⟩ (fun _ => rfl) s0).setCell ⟨g, 1, none⟩ (fun _ => rfl) s1).setCell ⟨g, 2, none⟩ (fun _ => rfl) s2).setCell ⟨g, 3, none⟩ (fun _ => rfl) s3).setCell ⟨g, 4, none⟩ (fun _ => rfl) s4).setCell ⟨g, 5, none⟩ (fun _ => rfl) s5
  have hn : ∀ (i : Nat) y, (#[Value.slice none 0 0, .slice none 0 0, .slice none 0 0, .slice none 0 0, .slice none 0 0, .slice none 0 0] : Array Value)[i]? ≠ some (.int .u64 y) := by
    intro i y h
    match i, h with
    | 0, h => cases h
    | 1, h => cases h
    | 2, h => cases h
    | 3, h => cases h
    | 4, h => cases h
    | 5, h => cases h
    | k + 6, h => simp at h
  exact ⟨g, rfl, ⟨s0, s1, s2, s3, s4, s5, cells_put (cells_put (cells_put (cells_put (cells_put (cells_put hG 0 s0) 1 s1) 2 s2) 3 s3) 4 s4) 5 s5, h0.off hG hn hk2, h1.off hG hn hk2, h2.off hG hn hk2, h3.off hG hn hk2, h4.off hG hn hk2, h5.off hG hn hk2⟩, hk.trans hk2 (fun i hi h => by omega)⟩
set_option maxRecDepth 100000 in
set_option maxHeartbeats 8000000 in
theorem cvalue_calls (a b c d : Int × Int) (ha : Pt a) (hb : Pt b) (hc : Pt c) (hd : Pt d) (w : World) : Calls Tryz.prog 41 #[.agg #[.int .i64 a.1, .int .i64 a.2], .agg #[.int .i64 b.1, .int .i64 b.2], .agg #[.int .i64 c.1, .int .i64 c.2], .agg #[.int .i64 d.1, .int .i64 d.2]] w (GivesNum w 5 (inc a b c d)) := by
  go_enter Tryz.func41, Tryz.ntmps41
  go_upto_region 1 with fail
  obtain ⟨w1, hw1⟩ : ∃ w1, ((((w.alloc (.cells #[.int .i64 a.1, .int .i64 a.2] 35)).alloc (.cells #[.int .i64 b.1, .int .i64 b.2] 35)).alloc (.cells #[.int .i64 c.1, .int .i64 c.2] 35)).alloc (.cells #[.int .i64 d.1, .int .i64 d.2] 35)) = w1 := ⟨_, rfl⟩
  have hk1 : Keeps (fun _ => False) w w1 := by rw [← hw1]; exact (((((Keeps.refl _ w).alloc _).alloc _).alloc _).alloc _)
  have hg0 : w1.heap[w.heap.size]? = some (.cells #[.int .i64 a.1, .int .i64 a.2] 35 (0, 0)) := by
    rw [← hw1, Below.heap_alloc _ _ _ (by simp <;> omega), Below.heap_alloc _ _ _ (by simp <;> omega), Below.heap_alloc _ _ _ (by simp <;> omega)]
    have := heap_alloc_new w (.cells #[.int .i64 a.1, .int .i64 a.2] 35)
    simpa using this
  have hg1 : w1.heap[w.heap.size + 1]? = some (.cells #[.int .i64 b.1, .int .i64 b.2] 35 (0, 0)) := by
    rw [← hw1, Below.heap_alloc _ _ _ (by simp <;> omega), Below.heap_alloc _ _ _ (by simp <;> omega)]
    have := heap_alloc_new (w.alloc (.cells #[.int .i64 a.1, .int .i64 a.2] 35)) (.cells #[.int .i64 b.1, .int .i64 b.2] 35)
    simpa using this
  have hg2 : w1.heap[w.heap.size + 1 + 1]? = some (.cells #[.int .i64 c.1, .int .i64 c.2] 35 (0, 0)) := by
    rw [← hw1, Below.heap_alloc _ _ _ (by simp <;> omega)]
    have := heap_alloc_new ((w.alloc (.cells #[.int .i64 a.1, .int .i64 a.2] 35)).alloc (.cells #[.int .i64 b.1, .int .i64 b.2] 35)) (.cells #[.int .i64 c.1, .int .i64 c.2] 35)
    simpa using this
  have hg3 : w1.heap[w.heap.size + 1 + 1 + 1]? = some (.cells #[.int .i64 d.1, .int .i64 d.2] 35 (0, 0)) := by
    rw [← hw1]
    have := heap_alloc_new (((w.alloc (.cells #[.int .i64 a.1, .int .i64 a.2] 35)).alloc (.cells #[.int .i64 b.1, .int .i64 b.2] 35)).alloc (.cells #[.int .i64 c.1, .int .i64 c.2] 35)) (.cells #[.int .i64 d.1, .int .i64 d.2] 35)
    simpa using this
  have c0 := cells_at hg0 0
  have c1 := cells_at hg0 1
  have hl0 : w.heap.size < w1.heap.size := (Array.getElem?_eq_some_iff.1 hg0).1
  have c2 := cells_at hg1 0
  have c3 := cells_at hg1 1
  have hl1 : w.heap.size + 1 < w1.heap.size := (Array.getElem?_eq_some_iff.1 hg1).1
  have c4 := cells_at hg2 0
  have c5 := cells_at hg2 1
  have hl2 : w.heap.size + 1 + 1 < w1.heap.size := (Array.getElem?_eq_some_iff.1 hg2).1
  have c6 := cells_at hg3 0
  have c7 := cells_at hg3 1
  have hl3 : w.heap.size + 1 + 1 + 1 < w1.heap.size := (Array.getElem?_eq_some_iff.1 hg3).1
  rw [hw1]
  clear hw1 hg0 hg1 hg2 hg3
  go_cut [9] from 14 (fun p wx => ∃ g, p = .pointer (some ⟨g, 0, none⟩) ∧ SixAt wx g (vec d a) (vec d b) (vec d c) ∧ Keeps (fun _ => False) w wx)
  case first =>
    refine wp_region_late (fun W => W.cell? ⟨w.heap.size, 0, none⟩ = some (.int .i64 a.1) ∧ W.cell? ⟨w.heap.size, 1, none⟩ = some (.int .i64 a.2) ∧ W.cell? ⟨w.heap.size + 1, 0, none⟩ = some (.int .i64 b.1) ∧ W.cell? ⟨w.heap.size + 1, 1, none⟩ = some (.int .i64 b.2) ∧ W.cell? ⟨w.heap.size + 1 + 1, 0, none⟩ = some (.int .i64 c.1) ∧ W.cell? ⟨w.heap.size + 1 + 1, 1, none⟩ = some (.int .i64 c.2) ∧ W.cell? ⟨w.heap.size + 1 + 1 + 1, 0, none⟩ = some (.int .i64 d.1) ∧ W.cell? ⟨w.heap.size + 1 + 1 + 1, 1, none⟩ = some (.int .i64 d.2)) [11] (by kernel_rfl) ?_
    have hS : w1.drew.cell? ⟨w.heap.size, 0, none⟩ = some (.int .i64 a.1) ∧ w1.drew.cell? ⟨w.heap.size, 1, none⟩ = some (.int .i64 a.2) ∧ w1.drew.cell? ⟨w.heap.size + 1, 0, none⟩ = some (.int .i64 b.1) ∧ w1.drew.cell? ⟨w.heap.size + 1, 1, none⟩ = some (.int .i64 b.2) ∧ w1.drew.cell? ⟨w.heap.size + 1 + 1, 0, none⟩ = some (.int .i64 c.1) ∧ w1.drew.cell? ⟨w.heap.size + 1 + 1, 1, none⟩ = some (.int .i64 c.2) ∧ w1.drew.cell? ⟨w.heap.size + 1 + 1 + 1, 0, none⟩ = some (.int .i64 d.1) ∧ w1.drew.cell? ⟨w.heap.size + 1 + 1 + 1, 1, none⟩ = some (.int .i64 d.2) := ⟨c0, c1, c2, c3, c4, c5, c6, c7⟩
    have hwd : Keeps (fun _ => False) w1 w1.drew := (Keeps.refl _ w1).drewN 1
    generalize w1.drew = wd at hS hwd ⊢
    refine tkL 0 (.agg #[.int .i64 d.1, .int .i64 d.2]) rfl (by kernel_rfl) (fun _ _ _ h => (h : False).elim) (by kernel_rfl) ‹_› ?_ ?_
    · intro w hSw
      obtain ⟨s0, s1, s2, s3, s4, s5, s6, s7⟩ := hSw
      go_simp
    try simp only [ga, gb, gc, Act.put, gd, ge, gf]
    refine tkL 1 (.agg #[.int .i64 a.1, .int .i64 a.2]) rfl (by kernel_rfl) (fun _ _ _ h => (h : False).elim) (by kernel_rfl) ‹_› ?_ ?_
    · intro w hSw
      obtain ⟨s0, s1, s2, s3, s4, s5, s6, s7⟩ := hSw
      go_simp
    try simp only [ga, gb, gc, Act.put, gd, ge, gf]
    refine tkL 3 (.agg #[.int .i64 d.1, .int .i64 d.2]) rfl (by kernel_rfl) (fun _ _ _ h => (h : False).elim) (by kernel_rfl) ‹_› ?_ ?_
    · intro w hSw
      obtain ⟨s0, s1, s2, s3, s4, s5, s6, s7⟩ := hSw
      go_simp
    try simp only [ga, gb, gc, Act.put, gd, ge, gf]
    refine tkL 4 (.agg #[.int .i64 b.1, .int .i64 b.2]) rfl (by kernel_rfl) (fun _ _ _ h => (h : False).elim) (by kernel_rfl) ‹_› ?_ ?_
    · intro w hSw
      obtain ⟨s0, s1, s2, s3, s4, s5, s6, s7⟩ := hSw
      go_simp
    try simp only [ga, gb, gc, Act.put, gd, ge, gf]
    refine tkL 6 (.agg #[.int .i64 d.1, .int .i64 d.2]) rfl (by kernel_rfl) (fun _ _ _ h => (h : False).elim) (by kernel_rfl) ‹_› ?_ ?_
    · intro w hSw
      obtain ⟨s0, s1, s2, s3, s4, s5, s6, s7⟩ := hSw
      go_simp
    try simp only [ga, gb, gc, Act.put, gd, ge, gf]
    refine tkL 7 (.agg #[.int .i64 c.1, .int .i64 c.2]) rfl (by kernel_rfl) (fun _ _ _ h => (h : False).elim) (by kernel_rfl) ‹_› ?_ ?_
    · intro w hSw
      obtain ⟨s0, s1, s2, s3, s4, s5, s6, s7⟩ := hSw
      go_simp
    try simp only [ga, gb, gc, Act.put, gd, ge, gf]
    refine wpAnyL_fork (rs := [2, 10]) (by kernel_rfl) (by simp) ?_
    refine AllL.cons (i := 2) rfl (fun K hK => ?_) ?_
    · go_simp
      refine (between_calls d a hd ha _).mono ?_; rintro e x00 ⟨va, rfl, hva, hkk⟩
      have hx00 : Keeps (fun _ => False) w1 x00 := knil hwd hkk
      clear hkk
      go_wp2_with fail
      refine hK.out _ _ ⟨((hx00).cell (p := ⟨w.heap.size, 0, none⟩) hl0 (fun h => h)).trans c0, ((hx00).cell (p := ⟨w.heap.size, 1, none⟩) hl0 (fun h => h)).trans c1, ((hx00).cell (p := ⟨w.heap.size + 1, 0, none⟩) hl1 (fun h => h)).trans c2, ((hx00).cell (p := ⟨w.heap.size + 1, 1, none⟩) hl1 (fun h => h)).trans c3, ((hx00).cell (p := ⟨w.heap.size + 1 + 1, 0, none⟩) hl2 (fun h => h)).trans c4, ((hx00).cell (p := ⟨w.heap.size + 1 + 1, 1, none⟩) hl2 (fun h => h)).trans c5, ((hx00).cell (p := ⟨w.heap.size + 1 + 1 + 1, 0, none⟩) hl3 (fun h => h)).trans c6, ((hx00).cell (p := ⟨w.heap.size + 1 + 1 + 1, 1, none⟩) hl3 (fun h => h)).trans c7⟩ (fun hHeld => ?_)
      clear hK K
      try simp only [ga, gb, gc, Act.put, gd, ge, gf]
      refine wpAnyL_fork (rs := [5, 10]) (by kernel_rfl) (by simp) ?_
      refine AllL.cons (i := 5) rfl (fun K hK => ?_) ?_
      · go_simp
        refine (between_calls d b hd hb _).mono ?_; rintro e x10 ⟨vb, rfl, hvb, hkk⟩
        have hx10 : Keeps (fun _ => False) w1 x10 := knil hx00 hkk
        have hva := hva.kept hkk
        clear hkk
        go_wp2_with fail
        refine hK.out _ _ ⟨((hx10).cell (p := ⟨w.heap.size, 0, none⟩) hl0 (fun h => h)).trans c0, ((hx10).cell (p := ⟨w.heap.size, 1, none⟩) hl0 (fun h => h)).trans c1, ((hx10).cell (p := ⟨w.heap.size + 1, 0, none⟩) hl1 (fun h => h)).trans c2, ((hx10).cell (p := ⟨w.heap.size + 1, 1, none⟩) hl1 (fun h => h)).trans c3, ((hx10).cell (p := ⟨w.heap.size + 1 + 1, 0, none⟩) hl2 (fun h => h)).trans c4, ((hx10).cell (p := ⟨w.heap.size + 1 + 1, 1, none⟩) hl2 (fun h => h)).trans c5, ((hx10).cell (p := ⟨w.heap.size + 1 + 1 + 1, 0, none⟩) hl3 (fun h => h)).trans c6, ((hx10).cell (p := ⟨w.heap.size + 1 + 1 + 1, 1, none⟩) hl3 (fun h => h)).trans c7⟩ (fun hHeld => ?_)
        clear hK K
        try simp only [ga, gb, gc, Act.put, gd, ge, gf]
        refine wpAnyL_fork (rs := [8, 10]) (by kernel_rfl) (by simp) ?_
        refine AllL.cons (i := 8) rfl (fun K hK => ?_) ?_
        · go_simp
          refine (between_calls d c hd hc _).mono ?_; rintro e x20 ⟨vc, rfl, hvc, hkk⟩
          have hx20 : Keeps (fun _ => False) w1 x20 := knil hx10 hkk
          have hva := hva.kept hkk
          have hvb := hvb.kept hkk
          clear hkk
          go_wp2_with fail
          refine hK.out _ _ ⟨((hx20).cell (p := ⟨w.heap.size, 0, none⟩) hl0 (fun h => h)).trans c0, ((hx20).cell (p := ⟨w.heap.size, 1, none⟩) hl0 (fun h => h)).trans c1, ((hx20).cell (p := ⟨w.heap.size + 1, 0, none⟩) hl1 (fun h => h)).trans c2, ((hx20).cell (p := ⟨w.heap.size + 1, 1, none⟩) hl1 (fun h => h)).trans c3, ((hx20).cell (p := ⟨w.heap.size + 1 + 1, 0, none⟩) hl2 (fun h => h)).trans c4, ((hx20).cell (p := ⟨w.heap.size + 1 + 1, 1, none⟩) hl2 (fun h => h)).trans c5, ((hx20).cell (p := ⟨w.heap.size + 1 + 1 + 1, 0, none⟩) hl3 (fun h => h)).trans c6, ((hx20).cell (p := ⟨w.heap.size + 1 + 1 + 1, 1, none⟩) hl3 (fun h => h)).trans c7⟩ (fun hHeld => ?_)
          clear hK K
          try simp only [ga, gb, gc, Act.put, gd, ge, gf]
          obtain ⟨a1, a2, rfl, ha1, ha2⟩ := hva
          obtain ⟨b1, b2, rfl, hb1, hb2⟩ := hvb
          obtain ⟨c1_, c2_, rfl, hc1, hc2⟩ := hvc
          obtain ⟨a1b, a1o, a1c, rfl⟩ := ha1.shape
          obtain ⟨a2b, a2o, a2c, rfl⟩ := ha2.shape
          obtain ⟨b1b, b1o, b1c, rfl⟩ := hb1.shape
          obtain ⟨b2b, b2o, b2c, rfl⟩ := hb2.shape
          obtain ⟨c1b, c1o, c1c, rfl⟩ := hc1.shape
          obtain ⟨c2b, c2o, c2c, rfl⟩ := hc2.shape
          refine tkA 9 (.agg #[.slice (some ⟨a1b, a1o, none⟩) 2 a1c, .slice (some ⟨a2b, a2o, none⟩) 2 a2c, .slice (some ⟨b1b, b1o, none⟩) 2 b1c, .slice (some ⟨b2b, b2o, none⟩) 2 b2c, .slice (some ⟨c1b, c1o, none⟩) 2 c1c, .slice (some ⟨c2b, c2o, none⟩) 2 c2c]) rfl (by kernel_rfl) (fun _ _ _ h => (h : False).elim) (by kernel_rfl) (fun _ => ‹_›) ?_ ?_
          · intro w _; go_simp
          try simp only [ga, gb, gc, Act.put, gd, ge, gf]
          refine wpAnyL_next (i := 10) (by kernel_rfl) rfl (fun K hK => ?_)
          go_simp
          obtain ⟨y3, hwy3⟩ : ∃ y3, (x20).alloc (.cells #[.slice none 0 0, .slice none 0 0, .slice none 0 0, .slice none 0 0, .slice none 0 0, .slice none 0 0] 123) = y3 := ⟨_, rfl⟩
          obtain ⟨g, hgg⟩ : ∃ g, (x20).heap.size = g := ⟨_, rfl⟩
          have hky : Keeps (fun _ => False) (x20) y3 := by rw [← hwy3]; exact (Keeps.refl _ _).alloc _
          have hy3 : Keeps (fun _ => False) w1 y3 := knil hx20 hky
          have hG := Lib.hid (show y3.heap[g]? = some (.cells #[.slice none 0 0, .slice none 0 0, .slice none 0 0, .slice none 0 0, .slice none 0 0, .slice none 0 0] 123 (0, 0)) by rw [← hwy3, ← hgg]; exact heap_alloc_new _ _)
          have hgs : w1.heap.size ≤ g := by rw [← hgg]; exact (hx20).size
          try rw [hwy3]
          try rw [hgg]
          refine hK.out _ _ ⟨((hy3).cell (p := ⟨w.heap.size, 0, none⟩) hl0 (fun h => h)).trans c0, ((hy3).cell (p := ⟨w.heap.size, 1, none⟩) hl0 (fun h => h)).trans c1, ((hy3).cell (p := ⟨w.heap.size + 1, 0, none⟩) hl1 (fun h => h)).trans c2, ((hy3).cell (p := ⟨w.heap.size + 1, 1, none⟩) hl1 (fun h => h)).trans c3, ((hy3).cell (p := ⟨w.heap.size + 1 + 1, 0, none⟩) hl2 (fun h => h)).trans c4, ((hy3).cell (p := ⟨w.heap.size + 1 + 1, 1, none⟩) hl2 (fun h => h)).trans c5, ((hy3).cell (p := ⟨w.heap.size + 1 + 1 + 1, 0, none⟩) hl3 (fun h => h)).trans c6, ((hy3).cell (p := ⟨w.heap.size + 1 + 1 + 1, 1, none⟩) hl3 (fun h => h)).trans c7⟩ (fun hHeld => ?_)
          clear hK K
          try simp only [ga, gb, gc, Act.put, gd, ge, gf]
          have ha1 := ha1.kept hky
          have ha2 := ha2.kept hky
          have hb1 := hb1.kept hky
          have hb2 := hb2.kept hky
          have hc1 := hc1.kept hky
          have hc2 := hc2.kept hky
          have Ha1 := Lib.hid ha1
          have Ha2 := Lib.hid ha2
          have Hb1 := Lib.hid hb1
          have Hb2 := Lib.hid hb2
          have Hc1 := Lib.hid hc1
          have Hc2 := Lib.hid hc2
          clear ha1 ha2 hb1 hb2 hc1 hc2
          have Hy := Lib.hid hy3
          have hG := hG.out
          have e0 := fro_cells hG 0
          have e1 := fro_cells hG 1
          have e2 := fro_cells hG 2
          have e3 := fro_cells hG 3
          have e4 := fro_cells hG 4
          have e5 := fro_cells hG 5
          have f0 := cells_at hG 0
          have f1 := cells_at hG 1
          have f2 := cells_at hG 2
          have f3 := cells_at hG 3
          have f4 := cells_at hG 4
          have f5 := cells_at hG 5
          have HG := Lib.hid hG
          clear hG
          refine wpAnyL_late (i := 11) (by kernel_rfl) rfl (by kernel_rfl) (fun K hK => ?_)
          go_wp2_with fail
          refine hK.out _ _ (fun _ => ?_)
          clear hK K
          try simp only [ga, gb, gc, Act.put, gd, ge, gf]
          refine wpAnyL_done (by kernel_rfl) ?_ _
          refine NoPanic.normal ?_
          go_wp2_with fail
          go_meet
          exact six_put (knil hk1 Hy.out) HG.out (by have := hk1.size; have := hl0; omega) Ha1.out Ha2.out Hb1.out Hb2.out Hc1.out Hc2.out
        refine AllL.cons (i := 10) rfl (fun K hK => ?_) AllL.nil
        go_simp
        obtain ⟨y2, hwy2⟩ : ∃ y2, (x10).alloc (.cells #[.slice none 0 0, .slice none 0 0, .slice none 0 0, .slice none 0 0, .slice none 0 0, .slice none 0 0] 123) = y2 := ⟨_, rfl⟩
        obtain ⟨g, hgg⟩ : ∃ g, (x10).heap.size = g := ⟨_, rfl⟩
        have hky : Keeps (fun _ => False) (x10) y2 := by rw [← hwy2]; exact (Keeps.refl _ _).alloc _
        have hy2 : Keeps (fun _ => False) w1 y2 := knil hx10 hky
        have hG := Lib.hid (show y2.heap[g]? = some (.cells #[.slice none 0 0, .slice none 0 0, .slice none 0 0, .slice none 0 0, .slice none 0 0, .slice none 0 0] 123 (0, 0)) by rw [← hwy2, ← hgg]; exact heap_alloc_new _ _)
        have hgs : w1.heap.size ≤ g := by rw [← hgg]; exact (hx10).size
        try rw [hwy2]
        try rw [hgg]
        refine hK.out _ _ ⟨((hy2).cell (p := ⟨w.heap.size, 0, none⟩) hl0 (fun h => h)).trans c0, ((hy2).cell (p := ⟨w.heap.size, 1, none⟩) hl0 (fun h => h)).trans c1, ((hy2).cell (p := ⟨w.heap.size + 1, 0, none⟩) hl1 (fun h => h)).trans c2, ((hy2).cell (p := ⟨w.heap.size + 1, 1, none⟩) hl1 (fun h => h)).trans c3, ((hy2).cell (p := ⟨w.heap.size + 1 + 1, 0, none⟩) hl2 (fun h => h)).trans c4, ((hy2).cell (p := ⟨w.heap.size + 1 + 1, 1, none⟩) hl2 (fun h => h)).trans c5, ((hy2).cell (p := ⟨w.heap.size + 1 + 1 + 1, 0, none⟩) hl3 (fun h => h)).trans c6, ((hy2).cell (p := ⟨w.heap.size + 1 + 1 + 1, 1, none⟩) hl3 (fun h => h)).trans c7⟩ (fun hHeld => ?_)
        clear hK K
        try simp only [ga, gb, gc, Act.put, gd, ge, gf]
        have hva := hva.kept hky
        have hvb := hvb.kept hky
        refine wpAnyL_next (i := 8) (by kernel_rfl) rfl (fun K hK => ?_)
        go_simp
        refine (between_calls d c hd hc _).mono ?_; rintro e x21 ⟨vc, rfl, hvc, hkk⟩
        have hx21 : Keeps (fun _ => False) w1 x21 := knil hy2 hkk
        have hva := hva.kept hkk
        have hvb := hvb.kept hkk
        have hG := Lib.hid ((hkk.block _ (Array.getElem?_eq_some_iff.1 hG.out).1 (fun h => h)).trans hG.out)
        clear hkk
        go_wp2_with fail
        refine hK.out _ _ ⟨((hx21).cell (p := ⟨w.heap.size, 0, none⟩) hl0 (fun h => h)).trans c0, ((hx21).cell (p := ⟨w.heap.size, 1, none⟩) hl0 (fun h => h)).trans c1, ((hx21).cell (p := ⟨w.heap.size + 1, 0, none⟩) hl1 (fun h => h)).trans c2, ((hx21).cell (p := ⟨w.heap.size + 1, 1, none⟩) hl1 (fun h => h)).trans c3, ((hx21).cell (p := ⟨w.heap.size + 1 + 1, 0, none⟩) hl2 (fun h => h)).trans c4, ((hx21).cell (p := ⟨w.heap.size + 1 + 1, 1, none⟩) hl2 (fun h => h)).trans c5, ((hx21).cell (p := ⟨w.heap.size + 1 + 1 + 1, 0, none⟩) hl3 (fun h => h)).trans c6, ((hx21).cell (p := ⟨w.heap.size + 1 + 1 + 1, 1, none⟩) hl3 (fun h => h)).trans c7⟩ (fun hHeld => ?_)
        clear hK K
        try simp only [ga, gb, gc, Act.put, gd, ge, gf]
        obtain ⟨a1, a2, rfl, ha1, ha2⟩ := hva
        obtain ⟨b1, b2, rfl, hb1, hb2⟩ := hvb
        obtain ⟨c1_, c2_, rfl, hc1, hc2⟩ := hvc
        obtain ⟨a1b, a1o, a1c, rfl⟩ := ha1.shape
        obtain ⟨a2b, a2o, a2c, rfl⟩ := ha2.shape
        obtain ⟨b1b, b1o, b1c, rfl⟩ := hb1.shape
        obtain ⟨b2b, b2o, b2c, rfl⟩ := hb2.shape
        obtain ⟨c1b, c1o, c1c, rfl⟩ := hc1.shape
        obtain ⟨c2b, c2o, c2c, rfl⟩ := hc2.shape
        refine tkA 9 (.agg #[.slice (some ⟨a1b, a1o, none⟩) 2 a1c, .slice (some ⟨a2b, a2o, none⟩) 2 a2c, .slice (some ⟨b1b, b1o, none⟩) 2 b1c, .slice (some ⟨b2b, b2o, none⟩) 2 b2c, .slice (some ⟨c1b, c1o, none⟩) 2 c1c, .slice (some ⟨c2b, c2o, none⟩) 2 c2c]) rfl (by kernel_rfl) (fun _ _ _ h => (h : False).elim) (by kernel_rfl) (fun _ => ‹_›) ?_ ?_
        · intro w _; go_simp
        try simp only [ga, gb, gc, Act.put, gd, ge, gf]
        have Ha1 := Lib.hid ha1
        have Ha2 := Lib.hid ha2
        have Hb1 := Lib.hid hb1
        have Hb2 := Lib.hid hb2
        have Hc1 := Lib.hid hc1
        have Hc2 := Lib.hid hc2
        clear ha1 ha2 hb1 hb2 hc1 hc2
        have Hy := Lib.hid hx21
        have hG := hG.out
        have e0 := fro_cells hG 0
        have e1 := fro_cells hG 1
        have e2 := fro_cells hG 2
        have e3 := fro_cells hG 3
        have e4 := fro_cells hG 4
        have e5 := fro_cells hG 5
        have f0 := cells_at hG 0
        have f1 := cells_at hG 1
        have f2 := cells_at hG 2
        have f3 := cells_at hG 3
        have f4 := cells_at hG 4
        have f5 := cells_at hG 5
        have HG := Lib.hid hG
        clear hG
        refine wpAnyL_late (i := 11) (by kernel_rfl) rfl (by kernel_rfl) (fun K hK => ?_)
        go_wp2_with fail
        refine hK.out _ _ (fun _ => ?_)
        clear hK K
        try simp only [ga, gb, gc, Act.put, gd, ge, gf]
        refine wpAnyL_done (by kernel_rfl) ?_ _
        refine NoPanic.normal ?_
        go_wp2_with fail
        go_meet
        exact six_put (knil hk1 Hy.out) HG.out (by have := hk1.size; have := hl0; omega) Ha1.out Ha2.out Hb1.out Hb2.out Hc1.out Hc2.out
      refine AllL.cons (i := 10) rfl (fun K hK => ?_) AllL.nil
      go_simp
      obtain ⟨y1, hwy1⟩ : ∃ y1, (x00).alloc (.cells #[.slice none 0 0, .slice none 0 0, .slice none 0 0, .slice none 0 0, .slice none 0 0, .slice none 0 0] 123) = y1 := ⟨_, rfl⟩
      obtain ⟨g, hgg⟩ : ∃ g, (x00).heap.size = g := ⟨_, rfl⟩
      have hky : Keeps (fun _ => False) (x00) y1 := by rw [← hwy1]; exact (Keeps.refl _ _).alloc _
      have hy1 : Keeps (fun _ => False) w1 y1 := knil hx00 hky
      have hG := Lib.hid (show y1.heap[g]? = some (.cells #[.slice none 0 0, .slice none 0 0, .slice none 0 0, .slice none 0 0, .slice none 0 0, .slice none 0 0] 123 (0, 0)) by rw [← hwy1, ← hgg]; exact heap_alloc_new _ _)
      have hgs : w1.heap.size ≤ g := by rw [← hgg]; exact (hx00).size
      try rw [hwy1]
      try rw [hgg]
      refine hK.out _ _ ⟨((hy1).cell (p := ⟨w.heap.size, 0, none⟩) hl0 (fun h => h)).trans c0, ((hy1).cell (p := ⟨w.heap.size, 1, none⟩) hl0 (fun h => h)).trans c1, ((hy1).cell (p := ⟨w.heap.size + 1, 0, none⟩) hl1 (fun h => h)).trans c2, ((hy1).cell (p := ⟨w.heap.size + 1, 1, none⟩) hl1 (fun h => h)).trans c3, ((hy1).cell (p := ⟨w.heap.size + 1 + 1, 0, none⟩) hl2 (fun h => h)).trans c4, ((hy1).cell (p := ⟨w.heap.size + 1 + 1, 1, none⟩) hl2 (fun h => h)).trans c5, ((hy1).cell (p := ⟨w.heap.size + 1 + 1 + 1, 0, none⟩) hl3 (fun h => h)).trans c6, ((hy1).cell (p := ⟨w.heap.size + 1 + 1 + 1, 1, none⟩) hl3 (fun h => h)).trans c7⟩ (fun hHeld => ?_)
      clear hK K
      try simp only [ga, gb, gc, Act.put, gd, ge, gf]
      have hva := hva.kept hky
      refine wpAnyL_next (i := 5) (by kernel_rfl) rfl (fun K hK => ?_)
      go_simp
      refine (between_calls d b hd hb _).mono ?_; rintro e x11 ⟨vb, rfl, hvb, hkk⟩
      have hx11 : Keeps (fun _ => False) w1 x11 := knil hy1 hkk
      have hva := hva.kept hkk
      have hG := Lib.hid ((hkk.block _ (Array.getElem?_eq_some_iff.1 hG.out).1 (fun h => h)).trans hG.out)
      clear hkk
      go_wp2_with fail
      refine hK.out _ _ ⟨((hx11).cell (p := ⟨w.heap.size, 0, none⟩) hl0 (fun h => h)).trans c0, ((hx11).cell (p := ⟨w.heap.size, 1, none⟩) hl0 (fun h => h)).trans c1, ((hx11).cell (p := ⟨w.heap.size + 1, 0, none⟩) hl1 (fun h => h)).trans c2, ((hx11).cell (p := ⟨w.heap.size + 1, 1, none⟩) hl1 (fun h => h)).trans c3, ((hx11).cell (p := ⟨w.heap.size + 1 + 1, 0, none⟩) hl2 (fun h => h)).trans c4, ((hx11).cell (p := ⟨w.heap.size + 1 + 1, 1, none⟩) hl2 (fun h => h)).trans c5, ((hx11).cell (p := ⟨w.heap.size + 1 + 1 + 1, 0, none⟩) hl3 (fun h => h)).trans c6, ((hx11).cell (p := ⟨w.heap.size + 1 + 1 + 1, 1, none⟩) hl3 (fun h => h)).trans c7⟩ (fun hHeld => ?_)
      clear hK K
      try simp only [ga, gb, gc, Act.put, gd, ge, gf]
      refine wpAnyL_next (i := 8) (by kernel_rfl) rfl (fun K hK => ?_)
      go_simp
      refine (between_calls d c hd hc _).mono ?_; rintro e x21 ⟨vc, rfl, hvc, hkk⟩
      have hx21 : Keeps (fun _ => False) w1 x21 := knil hx11 hkk
      have hva := hva.kept hkk
      have hvb := hvb.kept hkk
      have hG := Lib.hid ((hkk.block _ (Array.getElem?_eq_some_iff.1 hG.out).1 (fun h => h)).trans hG.out)
      clear hkk
      go_wp2_with fail
      refine hK.out _ _ ⟨((hx21).cell (p := ⟨w.heap.size, 0, none⟩) hl0 (fun h => h)).trans c0, ((hx21).cell (p := ⟨w.heap.size, 1, none⟩) hl0 (fun h => h)).trans c1, ((hx21).cell (p := ⟨w.heap.size + 1, 0, none⟩) hl1 (fun h => h)).trans c2, ((hx21).cell (p := ⟨w.heap.size + 1, 1, none⟩) hl1 (fun h => h)).trans c3, ((hx21).cell (p := ⟨w.heap.size + 1 + 1, 0, none⟩) hl2 (fun h => h)).trans c4, ((hx21).cell (p := ⟨w.heap.size + 1 + 1, 1, none⟩) hl2 (fun h => h)).trans c5, ((hx21).cell (p := ⟨w.heap.size + 1 + 1 + 1, 0, none⟩) hl3 (fun h => h)).trans c6, ((hx21).cell (p := ⟨w.heap.size + 1 + 1 + 1, 1, none⟩) hl3 (fun h => h)).trans c7⟩ (fun hHeld => ?_)
      clear hK K
      try simp only [ga, gb, gc, Act.put, gd, ge, gf]
      obtain ⟨a1, a2, rfl, ha1, ha2⟩ := hva
      obtain ⟨b1, b2, rfl, hb1, hb2⟩ := hvb
      obtain ⟨c1_, c2_, rfl, hc1, hc2⟩ := hvc
      obtain ⟨a1b, a1o, a1c, rfl⟩ := ha1.shape
      obtain ⟨a2b, a2o, a2c, rfl⟩ := ha2.shape
      obtain ⟨b1b, b1o, b1c, rfl⟩ := hb1.shape
      obtain ⟨b2b, b2o, b2c, rfl⟩ := hb2.shape
      obtain ⟨c1b, c1o, c1c, rfl⟩ := hc1.shape
      obtain ⟨c2b, c2o, c2c, rfl⟩ := hc2.shape
      refine tkA 9 (.agg #[.slice (some ⟨a1b, a1o, none⟩) 2 a1c, .slice (some ⟨a2b, a2o, none⟩) 2 a2c, .slice (some ⟨b1b, b1o, none⟩) 2 b1c, .slice (some ⟨b2b, b2o, none⟩) 2 b2c, .slice (some ⟨c1b, c1o, none⟩) 2 c1c, .slice (some ⟨c2b, c2o, none⟩) 2 c2c]) rfl (by kernel_rfl) (fun _ _ _ h => (h : False).elim) (by kernel_rfl) (fun _ => ‹_›) ?_ ?_
      · intro w _; go_simp
      try simp only [ga, gb, gc, Act.put, gd, ge, gf]
      have Ha1 := Lib.hid ha1
      have Ha2 := Lib.hid ha2
      have Hb1 := Lib.hid hb1
      have Hb2 := Lib.hid hb2
      have Hc1 := Lib.hid hc1
      have Hc2 := Lib.hid hc2
      clear ha1 ha2 hb1 hb2 hc1 hc2
      have Hy := Lib.hid hx21
      have hG := hG.out
      have e0 := fro_cells hG 0
      have e1 := fro_cells hG 1
      have e2 := fro_cells hG 2
      have e3 := fro_cells hG 3
      have e4 := fro_cells hG 4
      have e5 := fro_cells hG 5
      have f0 := cells_at hG 0
      have f1 := cells_at hG 1
      have f2 := cells_at hG 2
      have f3 := cells_at hG 3
      have f4 := cells_at hG 4
      have f5 := cells_at hG 5
      have HG := Lib.hid hG
      clear hG
      refine wpAnyL_late (i := 11) (by kernel_rfl) rfl (by kernel_rfl) (fun K hK => ?_)
      go_wp2_with fail
      refine hK.out _ _ (fun _ => ?_)
      clear hK K
      try simp only [ga, gb, gc, Act.put, gd, ge, gf]
      refine wpAnyL_done (by kernel_rfl) ?_ _
      refine NoPanic.normal ?_
      go_wp2_with fail
      go_meet
      exact six_put (knil hk1 Hy.out) HG.out (by have := hk1.size; have := hl0; omega) Ha1.out Ha2.out Hb1.out Hb2.out Hc1.out Hc2.out
    refine AllL.cons (i := 10) rfl (fun K hK => ?_) AllL.nil
    go_simp
    obtain ⟨y0, hwy0⟩ : ∃ y0, (wd).alloc (.cells #[.slice none 0 0, .slice none 0 0, .slice none 0 0, .slice none 0 0, .slice none 0 0, .slice none 0 0] 123) = y0 := ⟨_, rfl⟩
    obtain ⟨g, hgg⟩ : ∃ g, (wd).heap.size = g := ⟨_, rfl⟩
    have hky : Keeps (fun _ => False) (wd) y0 := by rw [← hwy0]; exact (Keeps.refl _ _).alloc _
    have hy0 : Keeps (fun _ => False) w1 y0 := knil hwd hky
    have hG := Lib.hid (show y0.heap[g]? = some (.cells #[.slice none 0 0, .slice none 0 0, .slice none 0 0, .slice none 0 0, .slice none 0 0, .slice none 0 0] 123 (0, 0)) by rw [← hwy0, ← hgg]; exact heap_alloc_new _ _)
    have hgs : w1.heap.size ≤ g := by rw [← hgg]; exact (hwd).size
    try rw [hwy0]
    try rw [hgg]
    refine hK.out _ _ ⟨((hy0).cell (p := ⟨w.heap.size, 0, none⟩) hl0 (fun h => h)).trans c0, ((hy0).cell (p := ⟨w.heap.size, 1, none⟩) hl0 (fun h => h)).trans c1, ((hy0).cell (p := ⟨w.heap.size + 1, 0, none⟩) hl1 (fun h => h)).trans c2, ((hy0).cell (p := ⟨w.heap.size + 1, 1, none⟩) hl1 (fun h => h)).trans c3, ((hy0).cell (p := ⟨w.heap.size + 1 + 1, 0, none⟩) hl2 (fun h => h)).trans c4, ((hy0).cell (p := ⟨w.heap.size + 1 + 1, 1, none⟩) hl2 (fun h => h)).trans c5, ((hy0).cell (p := ⟨w.heap.size + 1 + 1 + 1, 0, none⟩) hl3 (fun h => h)).trans c6, ((hy0).cell (p := ⟨w.heap.size + 1 + 1 + 1, 1, none⟩) hl3 (fun h => h)).trans c7⟩ (fun hHeld => ?_)
    clear hK K
    try simp only [ga, gb, gc, Act.put, gd, ge, gf]
    refine wpAnyL_next (i := 2) (by kernel_rfl) rfl (fun K hK => ?_)
    go_simp
    refine (between_calls d a hd ha _).mono ?_; rintro e x01 ⟨va, rfl, hva, hkk⟩
    have hx01 : Keeps (fun _ => False) w1 x01 := knil hy0 hkk
    have hG := Lib.hid ((hkk.block _ (Array.getElem?_eq_some_iff.1 hG.out).1 (fun h => h)).trans hG.out)
    clear hkk
    go_wp2_with fail
    refine hK.out _ _ ⟨((hx01).cell (p := ⟨w.heap.size, 0, none⟩) hl0 (fun h => h)).trans c0, ((hx01).cell (p := ⟨w.heap.size, 1, none⟩) hl0 (fun h => h)).trans c1, ((hx01).cell (p := ⟨w.heap.size + 1, 0, none⟩) hl1 (fun h => h)).trans c2, ((hx01).cell (p := ⟨w.heap.size + 1, 1, none⟩) hl1 (fun h => h)).trans c3, ((hx01).cell (p := ⟨w.heap.size + 1 + 1, 0, none⟩) hl2 (fun h => h)).trans c4, ((hx01).cell (p := ⟨w.heap.size + 1 + 1, 1, none⟩) hl2 (fun h => h)).trans c5, ((hx01).cell (p := ⟨w.heap.size + 1 + 1 + 1, 0, none⟩) hl3 (fun h => h)).trans c6, ((hx01).cell (p := ⟨w.heap.size + 1 + 1 + 1, 1, none⟩) hl3 (fun h => h)).trans c7⟩ (fun hHeld => ?_)
    clear hK K
    try simp only [ga, gb, gc, Act.put, gd, ge, gf]
    refine wpAnyL_next (i := 5) (by kernel_rfl) rfl (fun K hK => ?_)
    go_simp
    refine (between_calls d b hd hb _).mono ?_; rintro e x11 ⟨vb, rfl, hvb, hkk⟩
    have hx11 : Keeps (fun _ => False) w1 x11 := knil hx01 hkk
    have hva := hva.kept hkk
    have hG := Lib.hid ((hkk.block _ (Array.getElem?_eq_some_iff.1 hG.out).1 (fun h => h)).trans hG.out)
    clear hkk
    go_wp2_with fail
    refine hK.out _ _ ⟨((hx11).cell (p := ⟨w.heap.size, 0, none⟩) hl0 (fun h => h)).trans c0, ((hx11).cell (p := ⟨w.heap.size, 1, none⟩) hl0 (fun h => h)).trans c1, ((hx11).cell (p := ⟨w.heap.size + 1, 0, none⟩) hl1 (fun h => h)).trans c2, ((hx11).cell (p := ⟨w.heap.size + 1, 1, none⟩) hl1 (fun h => h)).trans c3, ((hx11).cell (p := ⟨w.heap.size + 1 + 1, 0, none⟩) hl2 (fun h => h)).trans c4, ((hx11).cell (p := ⟨w.heap.size + 1 + 1, 1, none⟩) hl2 (fun h => h)).trans c5, ((hx11).cell (p := ⟨w.heap.size + 1 + 1 + 1, 0, none⟩) hl3 (fun h => h)).trans c6, ((hx11).cell (p := ⟨w.heap.size + 1 + 1 + 1, 1, none⟩) hl3 (fun h => h)).trans c7⟩ (fun hHeld => ?_)
    clear hK K
    try simp only [ga, gb, gc, Act.put, gd, ge, gf]
    refine wpAnyL_next (i := 8) (by kernel_rfl) rfl (fun K hK => ?_)
    go_simp
    refine (between_calls d c hd hc _).mono ?_; rintro e x21 ⟨vc, rfl, hvc, hkk⟩
    have hx21 : Keeps (fun _ => False) w1 x21 := knil hx11 hkk
    have hva := hva.kept hkk
    have hvb := hvb.kept hkk
    have hG := Lib.hid ((hkk.block _ (Array.getElem?_eq_some_iff.1 hG.out).1 (fun h => h)).trans hG.out)
    clear hkk
    go_wp2_with fail
    refine hK.out _ _ ⟨((hx21).cell (p := ⟨w.heap.size, 0, none⟩) hl0 (fun h => h)).trans c0, ((hx21).cell (p := ⟨w.heap.size, 1, none⟩) hl0 (fun h => h)).trans c1, ((hx21).cell (p := ⟨w.heap.size + 1, 0, none⟩) hl1 (fun h => h)).trans c2, ((hx21).cell (p := ⟨w.heap.size + 1, 1, none⟩) hl1 (fun h => h)).trans c3, ((hx21).cell (p := ⟨w.heap.size + 1 + 1, 0, none⟩) hl2 (fun h => h)).trans c4, ((hx21).cell (p := ⟨w.heap.size + 1 + 1, 1, none⟩) hl2 (fun h => h)).trans c5, ((hx21).cell (p := ⟨w.heap.size + 1 + 1 + 1, 0, none⟩) hl3 (fun h => h)).trans c6, ((hx21).cell (p := ⟨w.heap.size + 1 + 1 + 1, 1, none⟩) hl3 (fun h => h)).trans c7⟩ (fun hHeld => ?_)
    clear hK K
    try simp only [ga, gb, gc, Act.put, gd, ge, gf]
    obtain ⟨a1, a2, rfl, ha1, ha2⟩ := hva
    obtain ⟨b1, b2, rfl, hb1, hb2⟩ := hvb
    obtain ⟨c1_, c2_, rfl, hc1, hc2⟩ := hvc
    obtain ⟨a1b, a1o, a1c, rfl⟩ := ha1.shape
    obtain ⟨a2b, a2o, a2c, rfl⟩ := ha2.shape
    obtain ⟨b1b, b1o, b1c, rfl⟩ := hb1.shape
    obtain ⟨b2b, b2o, b2c, rfl⟩ := hb2.shape
    obtain ⟨c1b, c1o, c1c, rfl⟩ := hc1.shape
    obtain ⟨c2b, c2o, c2c, rfl⟩ := hc2.shape
    refine tkA 9 (.agg #[.slice (some ⟨a1b, a1o, none⟩) 2 a1c, .slice (some ⟨a2b, a2o, none⟩) 2 a2c, .slice (some ⟨b1b, b1o, none⟩) 2 b1c, .slice (some ⟨b2b, b2o, none⟩) 2 b2c, .slice (some ⟨c1b, c1o, none⟩) 2 c1c, .slice (some ⟨c2b, c2o, none⟩) 2 c2c]) rfl (by kernel_rfl) (fun _ _ _ h => (h : False).elim) (by kernel_rfl) (fun _ => ‹_›) ?_ ?_
    · intro w _; go_simp
    try simp only [ga, gb, gc, Act.put, gd, ge, gf]
    have Ha1 := Lib.hid ha1
    have Ha2 := Lib.hid ha2
    have Hb1 := Lib.hid hb1
    have Hb2 := Lib.hid hb2
    have Hc1 := Lib.hid hc1
    have Hc2 := Lib.hid hc2
    clear ha1 ha2 hb1 hb2 hc1 hc2
    have Hy := Lib.hid hx21
    have hG := hG.out
    have e0 := fro_cells hG 0
    have e1 := fro_cells hG 1
    have e2 := fro_cells hG 2
    have e3 := fro_cells hG 3
    have e4 := fro_cells hG 4
    have e5 := fro_cells hG 5
    have f0 := cells_at hG 0
    have f1 := cells_at hG 1
    have f2 := cells_at hG 2
    have f3 := cells_at hG 3
    have f4 := cells_at hG 4
    have f5 := cells_at hG 5
    have HG := Lib.hid hG
    clear hG
    refine wpAnyL_late (i := 11) (by kernel_rfl) rfl (by kernel_rfl) (fun K hK => ?_)
    go_wp2_with fail
    refine hK.out _ _ (fun _ => ?_)
    clear hK K
    try simp only [ga, gb, gc, Act.put, gd, ge, gf]
    refine wpAnyL_done (by kernel_rfl) ?_ _
    refine NoPanic.normal ?_
    go_wp2_with fail
    go_meet
    exact six_put (knil hk1 Hy.out) HG.out (by have := hk1.size; have := hl0; omega) Ha1.out Ha2.out Hb1.out Hb2.out Hc1.out Hc2.out
  case rest =>
    obtain ⟨g, rfl, ⟨s0, s1, s2, s3, s4, s5, hg, n0, n1, n2, n3, n4, n5⟩, hkc⟩ := hcut
    obtain ⟨b0, o0, q0, rfl⟩ := n0.shape
    have N0 := Lib.hid n0
    obtain ⟨b1, o1, q1, rfl⟩ := n1.shape
    have N1 := Lib.hid n1
    obtain ⟨b2, o2, q2, rfl⟩ := n2.shape
    have N2 := Lib.hid n2
    obtain ⟨b3, o3, q3, rfl⟩ := n3.shape
    have N3 := Lib.hid n3
    obtain ⟨b4, o4, q4, rfl⟩ := n4.shape
    have N4 := Lib.hid n4
    obtain ⟨b5, o5, q5, rfl⟩ := n5.shape
    have N5 := Lib.hid n5
    clear n0 n1 n2 n3 n4 n5
    have HG := Lib.hid hg
    have hgl : g < wc.heap.size := (Array.getElem?_eq_some_iff.1 hg).1
    clear hg c0 c1 c2 c3 c4 c5 c6 c7
    have fa := vec_fit hd ha
    have fb := vec_fit hd hb
    have fc := vec_fit hd hc
    have FA := Lib.hid fa
    have FB := Lib.hid fb
    have FC := Lib.hid fc
    clear fa fb fc
    go_wp2_with fail
    refine (from_calls 0 (by unfold IsS; omega) 5 (by decide) (by decide) _).mono ?_; rintro e w2 ⟨vs, rfl, hvs, hk2⟩
    obtain ⟨b7, o7, q7, rfl⟩ := hvs.shape
    have HS0 := Lib.hid hvs
    clear hvs
    have HK2 := Lib.hid hk2
    clear hk2
    go_wp2_with fail
    go_loopw [10, 11, 12, 13, 25] (fun s _ _ _ i wr => ∃ (k bs os cs : Nat), k ≤ 3 ∧ i = .int .i64 k ∧ s = .slice (some ⟨bs, os, none⟩) 5 cs ∧ RowKit.Hid (numAt wr (.slice (some ⟨bs, os, none⟩) 5 cs) 5 (part (vec d a) (vec d b) (vec d c) k)) ∧ RowKit.Hid (Keeps (fun _ => False) wc wr)) (fun _ _ _ _ i _ => 3 - (intOf i).toNat)
    case atStart => exact ⟨0, _, _, _, by omega, rfl, rfl, HS0, HK2⟩
    case round =>
      obtain ⟨k, bs, os, cs, hk, rfl, rfl, HS, HK⟩ := hrel
      have hwr1 : IntKind.i64.wrap 1 = 1 := by decide
      have hwr2 : IntKind.i64.wrap 2 = 2 := by decide
      have hwr3 : IntKind.i64.wrap 3 = 3 := by decide
      have hwr4 : IntKind.i64.wrap 4 = 4 := by decide
      rcases (show k = 0 ∨ k = 1 ∨ k = 2 ∨ k = 3 by omega) with rfl | rfl | rfl | rfl
      · have hgr : g < wr.heap.size := Nat.lt_of_lt_of_le hgl HK.out.size
        have hg := (HK.out.block _ hgl (fun h => h)).trans HG.out
        have c0 := cells_at hg 2
        have c1 := cells_at hg 3
        have c2 := cells_at hg 4
        have c3 := cells_at hg 5
        have d0 := cells_at hg 0
        have d1 := cells_at hg 1
        have HGR := Lib.hid hg
        clear hg d0 d1
        go_wp2_with fail
        refine wp_region_late (fun W => W.cell? ⟨g, 2, none⟩ = some (.slice (some ⟨b2, o2, none⟩) 2 q2) ∧ W.cell? ⟨g, 3, none⟩ = some (.slice (some ⟨b3, o3, none⟩) 2 q3) ∧ W.cell? ⟨g, 4, none⟩ = some (.slice (some ⟨b4, o4, none⟩) 2 q4) ∧ W.cell? ⟨g, 5, none⟩ = some (.slice (some ⟨b5, o5, none⟩) 2 q5)) [] (by kernel_rfl) ?_
        have hS : wr.drew.cell? ⟨g, 2, none⟩ = some (.slice (some ⟨b2, o2, none⟩) 2 q2) ∧ wr.drew.cell? ⟨g, 3, none⟩ = some (.slice (some ⟨b3, o3, none⟩) 2 q3) ∧ wr.drew.cell? ⟨g, 4, none⟩ = some (.slice (some ⟨b4, o4, none⟩) 2 q4) ∧ wr.drew.cell? ⟨g, 5, none⟩ = some (.slice (some ⟨b5, o5, none⟩) 2 q5) := ⟨c0, c1, c2, c3⟩
        refine tkA 0 (.int .i64 0) rfl (by kernel_rfl) (fun _ _ _ h => (h : False).elim) (by kernel_rfl) (fun _ => ‹_›) ?_ ?_
        · intro w _; go_simp
        try simp only [ga, gb, gc, Act.put, gd, ge, gf]
        refine tkA 1 (.int .i64 1) rfl (by kernel_rfl) (fun _ _ _ h => (h : False).elim) (by kernel_rfl) (fun _ => ‹_›) ?_ ?_
        · intro w _; go_simp
        try simp only [ga, gb, gc, Act.put, gd, ge, gf]
        refine tkA 2 (.int .i64 1) rfl (by kernel_rfl) (fun _ _ _ h => (h : False).elim) (by kernel_rfl) (fun _ => ‹_›) ?_ ?_
        · intro w _; go_simp
        try simp only [ga, gb, gc, Act.put, gd, ge, gf]
        refine tkA 3 (.pointer (some ⟨g, 2, none⟩)) rfl (by kernel_rfl) (fun _ _ _ h => (h : False).elim) (by kernel_rfl) (fun _ => ‹_›) ?_ ?_
        · intro w _; go_simp
        try simp only [ga, gb, gc, Act.put, gd, ge, gf]
        refine tkL 4 (.agg #[.slice (some ⟨b2, o2, none⟩) 2 q2, .slice (some ⟨b3, o3, none⟩) 2 q3]) rfl (by kernel_rfl) (fun _ _ _ h => (h : False).elim) (by kernel_rfl) ‹_› ?_ ?_
        · intro w hSw
          obtain ⟨s0, s1, s2, s3⟩ := hSw
          go_simp
        try simp only [ga, gb, gc, Act.put, gd, ge, gf]
        refine tkA 5 (.int .i64 0) rfl (by kernel_rfl) (fun _ _ _ h => (h : False).elim) (by kernel_rfl) (fun _ => ‹_›) ?_ ?_
        · intro w _; go_simp
        try simp only [ga, gb, gc, Act.put, gd, ge, gf]
        refine tkA 6 (.int .i64 2) rfl (by kernel_rfl) (fun _ _ _ h => (h : False).elim) (by kernel_rfl) (fun _ => ‹_›) ?_ ?_
        · intro w _; go_simp
        try simp only [ga, gb, gc, Act.put, gd, ge, gf]
        refine tkA 7 (.int .i64 2) rfl (by kernel_rfl) (fun _ _ _ h => (h : False).elim) (by kernel_rfl) (fun _ => ‹_›) ?_ ?_
        · intro w _; go_simp
        try simp only [ga, gb, gc, Act.put, gd, ge, gf]
        refine tkA 8 (.pointer (some ⟨g, 4, none⟩)) rfl (by kernel_rfl) (fun _ _ _ h => (h : False).elim) (by kernel_rfl) (fun _ => ‹_›) ?_ ?_
        · intro w _; go_simp
        try simp only [ga, gb, gc, Act.put, gd, ge, gf]
        refine tkL 9 (.agg #[.slice (some ⟨b4, o4, none⟩) 2 q4, .slice (some ⟨b5, o5, none⟩) 2 q5]) rfl (by kernel_rfl) (fun _ _ _ h => (h : False).elim) (by kernel_rfl) ‹_› ?_ ?_
        · intro w hSw
          obtain ⟨s0, s1, s2, s3⟩ := hSw
          go_simp
        try simp only [ga, gb, gc, Act.put, gd, ge, gf]
        refine wpAnyL_next (i := 10) (by kernel_rfl) rfl (fun K hK => ?_)
        go_simp
        refine (cross_calls _ _ (vec d b) (vec d c) _ (vecAt_mk N2.out N3.out (HK.out.drewN 1)) (vecAt_mk N4.out N5.out (HK.out.drewN 1)) FB.out FC.out).mono ?_; rintro e w3 ⟨v3, rfl, hv3, hk3⟩
        have hk13 : Keeps (fun _ => False) wr w3 := knil ((Keeps.refl _ wr).drewN 1) hk3
        go_wp2_with fail
        refine hK.out _ _ ⟨((hk13).cell (p := ⟨g, 2, none⟩) hgr (fun h => h)).trans c0, ((hk13).cell (p := ⟨g, 3, none⟩) hgr (fun h => h)).trans c1, ((hk13).cell (p := ⟨g, 4, none⟩) hgr (fun h => h)).trans c2, ((hk13).cell (p := ⟨g, 5, none⟩) hgr (fun h => h)).trans c3⟩ (fun hHeld => ?_)
        clear hK K
        try simp only [ga, gb, gc, Act.put, gd, ge, gf]
        refine wpAnyL_next (i := 11) (by kernel_rfl) rfl (fun K hK => ?_)
        go_simp
        refine (extend_calls v3 3 3 _ (by decide) (by decide) (by decide) (.inl (by decide)) _ hv3).mono ?_; rintro e w4 ⟨v4, rfl, hv4, hk4⟩
        have hk14 : Keeps (fun _ => False) wr w4 := knil hk13 hk4
        go_wp2_with fail
        refine hK.out _ _ ⟨((hk14).cell (p := ⟨g, 2, none⟩) hgr (fun h => h)).trans c0, ((hk14).cell (p := ⟨g, 3, none⟩) hgr (fun h => h)).trans c1, ((hk14).cell (p := ⟨g, 4, none⟩) hgr (fun h => h)).trans c2, ((hk14).cell (p := ⟨g, 5, none⟩) hgr (fun h => h)).trans c3⟩ (fun hHeld => ?_)
        clear hK K
        try simp only [ga, gb, gc, Act.put, gd, ge, gf]
        refine tkA 12 (v4) rfl (by kernel_rfl) (fun _ _ _ h => (h : False).elim) (by kernel_rfl) (fun _ => ‹_›) ?_ ?_
        · intro w _; go_simp
        try simp only [ga, gb, gc, Act.put, gd, ge, gf]
        refine wpAnyL_done (by kernel_rfl) ?_ _
        refine NoPanic.normal ?_
        have hg := (hk14.block _ hgr (fun h => h)).trans HGR.out
        have d0 := cells_at hg 0
        have d1 := cells_at hg 1
        clear hg hS c0 c1 c2 c3
        obtain ⟨b8, o8, q8, rfl⟩ := hv4.shape
        have HV4 := Lib.hid hv4
        clear hv4 hv3
        have HK14 := Lib.hid hk14
        clear hk14 hk13 hk3 hk4
        go_wp2_with fail
        refine (norm_calls _ (vec d a) _ (vecAt_mk N0.out N1.out (knil HK.out HK14.out)) FA.out).mono ?_; rintro e w5 ⟨v5, rfl, hv5, hk5⟩
        clear d0 d1
        go_wp2_with fail
        refine (extend_calls v5 3 3 _ (by decide) (by decide) (by decide) (.inl (by decide)) _ hv5).mono ?_; rintro e w6 ⟨v6, rfl, hv6, hk6⟩
        obtain ⟨b9, o9, q9, rfl⟩ := hv6.shape
        have hk46 := knil hk5 hk6
        have hk16 := knil HK14.out hk46
        have h4 := HV4.out.kept hk46
        have HV6 := Lib.hid hv6
        have HV4 := Lib.hid h4
        have HK16 := Lib.hid hk16
        clear hv5 hv6 hk5 hk6 hk46 hk16 h4
        go_wp2_with fail
        refine (lmul_calls _ _ 2 2 (nrm (vec d a)) (cr (vec d b) (vec d c)) (by decide) _ HV6.out HV4.out (fit_nrm hd ha) (fit_cr hd hb hc)).mono ?_; rintro e w7 ⟨v7, rfl, hv7, hk7⟩
        go_wp2_with fail
        refine (extend_calls v7 5 5 _ (by decide) (by decide) (by decide) (.inl (by decide)) _ hv7).mono ?_; rintro e w8 ⟨v8, rfl, hv8, hk8⟩
        have hk18 := knil (knil HK16.out hk7) hk8
        have hs8 := HS.out.kept hk18
        go_wp2_with fail
        refine (ladd_calls _ v8 5 _ _ (by decide) (by decide) _ hs8 hv8).mono ?_; rintro e w9 ⟨v9, rfl, hv9, hk9⟩
        obtain ⟨ba, oa, qa, rfl⟩ := hv9.shape
        have HV9 := Lib.hid hv9
        have HK19 := Lib.hid (knil hk18 hk9)
        clear hv9 hs8 hv8 hk8 hk7 hv7 hk9 hk18
        go_wp2
        go_roundw
        case rel => exact ⟨1, _, _, _, by omega, rfl, rfl, HV9, knil HK.out HK19.out⟩
        case measure => simp [intOf]
      · have hgr : g < wr.heap.size := Nat.lt_of_lt_of_le hgl HK.out.size
        have hg := (HK.out.block _ hgl (fun h => h)).trans HG.out
        have c0 := cells_at hg 4
        have c1 := cells_at hg 5
        have c2 := cells_at hg 0
        have c3 := cells_at hg 1
        have d0 := cells_at hg 2
        have d1 := cells_at hg 3
        have HGR := Lib.hid hg
        clear hg d0 d1
        go_wp2_with fail
        refine wp_region_late (fun W => W.cell? ⟨g, 4, none⟩ = some (.slice (some ⟨b4, o4, none⟩) 2 q4) ∧ W.cell? ⟨g, 5, none⟩ = some (.slice (some ⟨b5, o5, none⟩) 2 q5) ∧ W.cell? ⟨g, 0, none⟩ = some (.slice (some ⟨b0, o0, none⟩) 2 q0) ∧ W.cell? ⟨g, 1, none⟩ = some (.slice (some ⟨b1, o1, none⟩) 2 q1)) [] (by kernel_rfl) ?_
        have hS : wr.drew.cell? ⟨g, 4, none⟩ = some (.slice (some ⟨b4, o4, none⟩) 2 q4) ∧ wr.drew.cell? ⟨g, 5, none⟩ = some (.slice (some ⟨b5, o5, none⟩) 2 q5) ∧ wr.drew.cell? ⟨g, 0, none⟩ = some (.slice (some ⟨b0, o0, none⟩) 2 q0) ∧ wr.drew.cell? ⟨g, 1, none⟩ = some (.slice (some ⟨b1, o1, none⟩) 2 q1) := ⟨c0, c1, c2, c3⟩
        refine tkA 0 (.int .i64 1) rfl (by kernel_rfl) (fun _ _ _ h => (h : False).elim) (by kernel_rfl) (fun _ => ‹_›) ?_ ?_
        · intro w _; go_simp
        try simp only [ga, gb, gc, Act.put, gd, ge, gf]
        refine tkA 1 (.int .i64 2) rfl (by kernel_rfl) (fun _ _ _ h => (h : False).elim) (by kernel_rfl) (fun _ => ‹_›) ?_ ?_
        · intro w _; go_simp
        try simp only [ga, gb, gc, Act.put, gd, ge, gf]
        refine tkA 2 (.int .i64 2) rfl (by kernel_rfl) (fun _ _ _ h => (h : False).elim) (by kernel_rfl) (fun _ => ‹_›) ?_ ?_
        · intro w _; go_simp
        try simp only [ga, gb, gc, Act.put, gd, ge, gf]
        refine tkA 3 (.pointer (some ⟨g, 4, none⟩)) rfl (by kernel_rfl) (fun _ _ _ h => (h : False).elim) (by kernel_rfl) (fun _ => ‹_›) ?_ ?_
        · intro w _; go_simp
        try simp only [ga, gb, gc, Act.put, gd, ge, gf]
        refine tkL 4 (.agg #[.slice (some ⟨b4, o4, none⟩) 2 q4, .slice (some ⟨b5, o5, none⟩) 2 q5]) rfl (by kernel_rfl) (fun _ _ _ h => (h : False).elim) (by kernel_rfl) ‹_› ?_ ?_
        · intro w hSw
          obtain ⟨s0, s1, s2, s3⟩ := hSw
          go_simp
        try simp only [ga, gb, gc, Act.put, gd, ge, gf]
        refine tkA 5 (.int .i64 1) rfl (by kernel_rfl) (fun _ _ _ h => (h : False).elim) (by kernel_rfl) (fun _ => ‹_›) ?_ ?_
        · intro w _; go_simp
        try simp only [ga, gb, gc, Act.put, gd, ge, gf]
        refine tkA 6 (.int .i64 3) rfl (by kernel_rfl) (fun _ _ _ h => (h : False).elim) (by kernel_rfl) (fun _ => ‹_›) ?_ ?_
        · intro w _; go_simp
        try simp only [ga, gb, gc, Act.put, gd, ge, gf]
        refine tkA 7 (.int .i64 0) rfl (by kernel_rfl) (fun _ _ _ h => (h : False).elim) (by kernel_rfl) (fun _ => ‹_›) ?_ ?_
        · intro w _; go_simp
        try simp only [ga, gb, gc, Act.put, gd, ge, gf]
        refine tkA 8 (.pointer (some ⟨g, 0, none⟩)) rfl (by kernel_rfl) (fun _ _ _ h => (h : False).elim) (by kernel_rfl) (fun _ => ‹_›) ?_ ?_
        · intro w _; go_simp
        try simp only [ga, gb, gc, Act.put, gd, ge, gf]
        refine tkL 9 (.agg #[.slice (some ⟨b0, o0, none⟩) 2 q0, .slice (some ⟨b1, o1, none⟩) 2 q1]) rfl (by kernel_rfl) (fun _ _ _ h => (h : False).elim) (by kernel_rfl) ‹_› ?_ ?_
        · intro w hSw
          obtain ⟨s0, s1, s2, s3⟩ := hSw
          go_simp
        try simp only [ga, gb, gc, Act.put, gd, ge, gf]
        refine wpAnyL_next (i := 10) (by kernel_rfl) rfl (fun K hK => ?_)
        go_simp
        refine (cross_calls _ _ (vec d c) (vec d a) _ (vecAt_mk N4.out N5.out (HK.out.drewN 1)) (vecAt_mk N0.out N1.out (HK.out.drewN 1)) FC.out FA.out).mono ?_; rintro e w3 ⟨v3, rfl, hv3, hk3⟩
        have hk13 : Keeps (fun _ => False) wr w3 := knil ((Keeps.refl _ wr).drewN 1) hk3
        go_wp2_with fail
        refine hK.out _ _ ⟨((hk13).cell (p := ⟨g, 4, none⟩) hgr (fun h => h)).trans c0, ((hk13).cell (p := ⟨g, 5, none⟩) hgr (fun h => h)).trans c1, ((hk13).cell (p := ⟨g, 0, none⟩) hgr (fun h => h)).trans c2, ((hk13).cell (p := ⟨g, 1, none⟩) hgr (fun h => h)).trans c3⟩ (fun hHeld => ?_)
        clear hK K
        try simp only [ga, gb, gc, Act.put, gd, ge, gf]
        refine wpAnyL_next (i := 11) (by kernel_rfl) rfl (fun K hK => ?_)
        go_simp
        refine (extend_calls v3 3 3 _ (by decide) (by decide) (by decide) (.inl (by decide)) _ hv3).mono ?_; rintro e w4 ⟨v4, rfl, hv4, hk4⟩
        have hk14 : Keeps (fun _ => False) wr w4 := knil hk13 hk4
        go_wp2_with fail
        refine hK.out _ _ ⟨((hk14).cell (p := ⟨g, 4, none⟩) hgr (fun h => h)).trans c0, ((hk14).cell (p := ⟨g, 5, none⟩) hgr (fun h => h)).trans c1, ((hk14).cell (p := ⟨g, 0, none⟩) hgr (fun h => h)).trans c2, ((hk14).cell (p := ⟨g, 1, none⟩) hgr (fun h => h)).trans c3⟩ (fun hHeld => ?_)
        clear hK K
        try simp only [ga, gb, gc, Act.put, gd, ge, gf]
        refine tkA 12 (v4) rfl (by kernel_rfl) (fun _ _ _ h => (h : False).elim) (by kernel_rfl) (fun _ => ‹_›) ?_ ?_
        · intro w _; go_simp
        try simp only [ga, gb, gc, Act.put, gd, ge, gf]
        refine wpAnyL_done (by kernel_rfl) ?_ _
        refine NoPanic.normal ?_
        have hg := (hk14.block _ hgr (fun h => h)).trans HGR.out
        have d0 := cells_at hg 2
        have d1 := cells_at hg 3
        clear hg hS c0 c1 c2 c3
        obtain ⟨b8, o8, q8, rfl⟩ := hv4.shape
        have HV4 := Lib.hid hv4
        clear hv4 hv3
        have HK14 := Lib.hid hk14
        clear hk14 hk13 hk3 hk4
        go_wp2_with fail
        refine (norm_calls _ (vec d b) _ (vecAt_mk N2.out N3.out (knil HK.out HK14.out)) FB.out).mono ?_; rintro e w5 ⟨v5, rfl, hv5, hk5⟩
        clear d0 d1
        go_wp2_with fail
        refine (extend_calls v5 3 3 _ (by decide) (by decide) (by decide) (.inl (by decide)) _ hv5).mono ?_; rintro e w6 ⟨v6, rfl, hv6, hk6⟩
        obtain ⟨b9, o9, q9, rfl⟩ := hv6.shape
        have hk46 := knil hk5 hk6
        have hk16 := knil HK14.out hk46
        have h4 := HV4.out.kept hk46
        have HV6 := Lib.hid hv6
        have HV4 := Lib.hid h4
        have HK16 := Lib.hid hk16
        clear hv5 hv6 hk5 hk6 hk46 hk16 h4
        go_wp2_with fail
        refine (lmul_calls _ _ 2 2 (nrm (vec d b)) (cr (vec d c) (vec d a)) (by decide) _ HV6.out HV4.out (fit_nrm hd hb) (fit_cr hd hc ha)).mono ?_; rintro e w7 ⟨v7, rfl, hv7, hk7⟩
        go_wp2_with fail
        refine (extend_calls v7 5 5 _ (by decide) (by decide) (by decide) (.inl (by decide)) _ hv7).mono ?_; rintro e w8 ⟨v8, rfl, hv8, hk8⟩
        have hk18 := knil (knil HK16.out hk7) hk8
        have hs8 := HS.out.kept hk18
        go_wp2_with fail
        refine (ladd_calls _ v8 5 _ _ (by decide) (by decide) _ hs8 hv8).mono ?_; rintro e w9 ⟨v9, rfl, hv9, hk9⟩
        obtain ⟨ba, oa, qa, rfl⟩ := hv9.shape
        have HV9 := Lib.hid hv9
        have HK19 := Lib.hid (knil hk18 hk9)
        clear hv9 hs8 hv8 hk8 hk7 hv7 hk9 hk18
        go_wp2
        go_roundw
        case rel => exact ⟨2, _, _, _, by omega, rfl, rfl, HV9, knil HK.out HK19.out⟩
        case measure => simp [intOf]
      · have hgr : g < wr.heap.size := Nat.lt_of_lt_of_le hgl HK.out.size
        have hg := (HK.out.block _ hgl (fun h => h)).trans HG.out
        have c0 := cells_at hg 0
        have c1 := cells_at hg 1
        have c2 := cells_at hg 2
        have c3 := cells_at hg 3
        have d0 := cells_at hg 4
        have d1 := cells_at hg 5
        have HGR := Lib.hid hg
        clear hg d0 d1
        go_wp2_with fail
        refine wp_region_late (fun W => W.cell? ⟨g, 0, none⟩ = some (.slice (some ⟨b0, o0, none⟩) 2 q0) ∧ W.cell? ⟨g, 1, none⟩ = some (.slice (some ⟨b1, o1, none⟩) 2 q1) ∧ W.cell? ⟨g, 2, none⟩ = some (.slice (some ⟨b2, o2, none⟩) 2 q2) ∧ W.cell? ⟨g, 3, none⟩ = some (.slice (some ⟨b3, o3, none⟩) 2 q3)) [] (by kernel_rfl) ?_
        have hS : wr.drew.cell? ⟨g, 0, none⟩ = some (.slice (some ⟨b0, o0, none⟩) 2 q0) ∧ wr.drew.cell? ⟨g, 1, none⟩ = some (.slice (some ⟨b1, o1, none⟩) 2 q1) ∧ wr.drew.cell? ⟨g, 2, none⟩ = some (.slice (some ⟨b2, o2, none⟩) 2 q2) ∧ wr.drew.cell? ⟨g, 3, none⟩ = some (.slice (some ⟨b3, o3, none⟩) 2 q3) := ⟨c0, c1, c2, c3⟩
        refine tkA 0 (.int .i64 2) rfl (by kernel_rfl) (fun _ _ _ h => (h : False).elim) (by kernel_rfl) (fun _ => ‹_›) ?_ ?_
        · intro w _; go_simp
        try simp only [ga, gb, gc, Act.put, gd, ge, gf]
        refine tkA 1 (.int .i64 3) rfl (by kernel_rfl) (fun _ _ _ h => (h : False).elim) (by kernel_rfl) (fun _ => ‹_›) ?_ ?_
        · intro w _; go_simp
        try simp only [ga, gb, gc, Act.put, gd, ge, gf]
        refine tkA 2 (.int .i64 0) rfl (by kernel_rfl) (fun _ _ _ h => (h : False).elim) (by kernel_rfl) (fun _ => ‹_›) ?_ ?_
        · intro w _; go_simp
        try simp only [ga, gb, gc, Act.put, gd, ge, gf]
        refine tkA 3 (.pointer (some ⟨g, 0, none⟩)) rfl (by kernel_rfl) (fun _ _ _ h => (h : False).elim) (by kernel_rfl) (fun _ => ‹_›) ?_ ?_
        · intro w _; go_simp
        try simp only [ga, gb, gc, Act.put, gd, ge, gf]
        refine tkL 4 (.agg #[.slice (some ⟨b0, o0, none⟩) 2 q0, .slice (some ⟨b1, o1, none⟩) 2 q1]) rfl (by kernel_rfl) (fun _ _ _ h => (h : False).elim) (by kernel_rfl) ‹_› ?_ ?_
        · intro w hSw
          obtain ⟨s0, s1, s2, s3⟩ := hSw
          go_simp
        try simp only [ga, gb, gc, Act.put, gd, ge, gf]
        refine tkA 5 (.int .i64 2) rfl (by kernel_rfl) (fun _ _ _ h => (h : False).elim) (by kernel_rfl) (fun _ => ‹_›) ?_ ?_
        · intro w _; go_simp
        try simp only [ga, gb, gc, Act.put, gd, ge, gf]
        refine tkA 6 (.int .i64 4) rfl (by kernel_rfl) (fun _ _ _ h => (h : False).elim) (by kernel_rfl) (fun _ => ‹_›) ?_ ?_
        · intro w _; go_simp
        try simp only [ga, gb, gc, Act.put, gd, ge, gf]
        refine tkA 7 (.int .i64 1) rfl (by kernel_rfl) (fun _ _ _ h => (h : False).elim) (by kernel_rfl) (fun _ => ‹_›) ?_ ?_
        · intro w _; go_simp
        try simp only [ga, gb, gc, Act.put, gd, ge, gf]
        refine tkA 8 (.pointer (some ⟨g, 2, none⟩)) rfl (by kernel_rfl) (fun _ _ _ h => (h : False).elim) (by kernel_rfl) (fun _ => ‹_›) ?_ ?_
        · intro w _; go_simp
        try simp only [ga, gb, gc, Act.put, gd, ge, gf]
        refine tkL 9 (.agg #[.slice (some ⟨b2, o2, none⟩) 2 q2, .slice (some ⟨b3, o3, none⟩) 2 q3]) rfl (by kernel_rfl) (fun _ _ _ h => (h : False).elim) (by kernel_rfl) ‹_› ?_ ?_
        · intro w hSw
          obtain ⟨s0, s1, s2, s3⟩ := hSw
          go_simp
        try simp only [ga, gb, gc, Act.put, gd, ge, gf]
        refine wpAnyL_next (i := 10) (by kernel_rfl) rfl (fun K hK => ?_)
        go_simp
        refine (cross_calls _ _ (vec d a) (vec d b) _ (vecAt_mk N0.out N1.out (HK.out.drewN 1)) (vecAt_mk N2.out N3.out (HK.out.drewN 1)) FA.out FB.out).mono ?_; rintro e w3 ⟨v3, rfl, hv3, hk3⟩
        have hk13 : Keeps (fun _ => False) wr w3 := knil ((Keeps.refl _ wr).drewN 1) hk3
        go_wp2_with fail
        refine hK.out _ _ ⟨((hk13).cell (p := ⟨g, 0, none⟩) hgr (fun h => h)).trans c0, ((hk13).cell (p := ⟨g, 1, none⟩) hgr (fun h => h)).trans c1, ((hk13).cell (p := ⟨g, 2, none⟩) hgr (fun h => h)).trans c2, ((hk13).cell (p := ⟨g, 3, none⟩) hgr (fun h => h)).trans c3⟩ (fun hHeld => ?_)
        clear hK K
        try simp only [ga, gb, gc, Act.put, gd, ge, gf]
        refine wpAnyL_next (i := 11) (by kernel_rfl) rfl (fun K hK => ?_)
        go_simp
        refine (extend_calls v3 3 3 _ (by decide) (by decide) (by decide) (.inl (by decide)) _ hv3).mono ?_; rintro e w4 ⟨v4, rfl, hv4, hk4⟩
        have hk14 : Keeps (fun _ => False) wr w4 := knil hk13 hk4
        go_wp2_with fail
        refine hK.out _ _ ⟨((hk14).cell (p := ⟨g, 0, none⟩) hgr (fun h => h)).trans c0, ((hk14).cell (p := ⟨g, 1, none⟩) hgr (fun h => h)).trans c1, ((hk14).cell (p := ⟨g, 2, none⟩) hgr (fun h => h)).trans c2, ((hk14).cell (p := ⟨g, 3, none⟩) hgr (fun h => h)).trans c3⟩ (fun hHeld => ?_)
        clear hK K
        try simp only [ga, gb, gc, Act.put, gd, ge, gf]
        refine tkA 12 (v4) rfl (by kernel_rfl) (fun _ _ _ h => (h : False).elim) (by kernel_rfl) (fun _ => ‹_›) ?_ ?_
        · intro w _; go_simp
        try simp only [ga, gb, gc, Act.put, gd, ge, gf]
        refine wpAnyL_done (by kernel_rfl) ?_ _
        refine NoPanic.normal ?_
        have hg := (hk14.block _ hgr (fun h => h)).trans HGR.out
        have d0 := cells_at hg 4
        have d1 := cells_at hg 5
        clear hg hS c0 c1 c2 c3
        obtain ⟨b8, o8, q8, rfl⟩ := hv4.shape
        have HV4 := Lib.hid hv4
        clear hv4 hv3
        have HK14 := Lib.hid hk14
        clear hk14 hk13 hk3 hk4
        go_wp2_with fail
        refine (norm_calls _ (vec d c) _ (vecAt_mk N4.out N5.out (knil HK.out HK14.out)) FC.out).mono ?_; rintro e w5 ⟨v5, rfl, hv5, hk5⟩
        clear d0 d1
        go_wp2_with fail
        refine (extend_calls v5 3 3 _ (by decide) (by decide) (by decide) (.inl (by decide)) _ hv5).mono ?_; rintro e w6 ⟨v6, rfl, hv6, hk6⟩
        obtain ⟨b9, o9, q9, rfl⟩ := hv6.shape
        have hk46 := knil hk5 hk6
        have hk16 := knil HK14.out hk46
        have h4 := HV4.out.kept hk46
        have HV6 := Lib.hid hv6
        have HV4 := Lib.hid h4
        have HK16 := Lib.hid hk16
        clear hv5 hv6 hk5 hk6 hk46 hk16 h4
        go_wp2_with fail
        refine (lmul_calls _ _ 2 2 (nrm (vec d c)) (cr (vec d a) (vec d b)) (by decide) _ HV6.out HV4.out (fit_nrm hd hc) (fit_cr hd ha hb)).mono ?_; rintro e w7 ⟨v7, rfl, hv7, hk7⟩
        go_wp2_with fail
        refine (extend_calls v7 5 5 _ (by decide) (by decide) (by decide) (.inl (by decide)) _ hv7).mono ?_; rintro e w8 ⟨v8, rfl, hv8, hk8⟩
        have hk18 := knil (knil HK16.out hk7) hk8
        have hs8 := HS.out.kept hk18
        go_wp2_with fail
        refine (ladd_calls _ v8 5 _ _ (by decide) (by decide) _ hs8 hv8).mono ?_; rintro e w9 ⟨v9, rfl, hv9, hk9⟩
        obtain ⟨ba, oa, qa, rfl⟩ := hv9.shape
        have HV9 := Lib.hid hv9
        have HK19 := Lib.hid (knil hk18 hk9)
        clear hv9 hs8 hv8 hk8 hk7 hv7 hk9 hk18
        go_wp2
        go_roundw
        case rel => exact ⟨3, _, _, _, by omega, rfl, rfl, HV9, knil HK.out HK19.out⟩
        case measure => simp [intOf]
      · go_wp2
        go_ret
        refine ⟨_, rfl, ?_, knil hkc HK.out⟩
        have h := HS.out
        rw [part_end] at h
        exact h
set_option maxRecDepth 100000 in
theorem csign_calls (a b c d : Int × Int) (ha : Pt a) (hb : Pt b) (hc : Pt c) (hd : Pt d) (w : World) (hG : Gl w) : Calls Tryz.prog 21 #[.agg #[.int .i64 a.1, .int .i64 a.2], .agg #[.int .i64 b.1, .int .i64 b.2], .agg #[.int .i64 c.1, .int .i64 c.2], .agg #[.int .i64 d.1, .int .i64 d.2]] w fun e w' => e = .returned (.int .i64 (sgnI (inc a b c d))) ∧ Keeps (fun _ => False) w w' := by
  have HG := Lib.hid hG
  clear hG
  go_enter Tryz.func21, Tryz.ntmps21
  go_wp2_with fail
  obtain ⟨w1, hw1⟩ : ∃ w1, ((((w.alloc (.cells #[.int .i64 a.1, .int .i64 a.2] 35)).alloc (.cells #[.int .i64 b.1, .int .i64 b.2] 35)).alloc (.cells #[.int .i64 c.1, .int .i64 c.2] 35)).alloc (.cells #[.int .i64 d.1, .int .i64 d.2] 35)) = w1 := ⟨_, rfl⟩
  have hk1 : Keeps (fun _ => False) w w1 := by rw [← hw1]; exact (((((Keeps.refl _ w).alloc _).alloc _).alloc _).alloc _)
  have hg0 : w1.heap[w.heap.size]? = some (.cells #[.int .i64 a.1, .int .i64 a.2] 35 (0, 0)) := by
    rw [← hw1, Below.heap_alloc _ _ _ (by simp <;> omega), Below.heap_alloc _ _ _ (by simp <;> omega), Below.heap_alloc _ _ _ (by simp <;> omega)]
    have := heap_alloc_new w (.cells #[.int .i64 a.1, .int .i64 a.2] 35)
    simpa using this
  have hg1 : w1.heap[w.heap.size + 1]? = some (.cells #[.int .i64 b.1, .int .i64 b.2] 35 (0, 0)) := by
    rw [← hw1, Below.heap_alloc _ _ _ (by simp <;> omega), Below.heap_alloc _ _ _ (by simp <;> omega)]
    have := heap_alloc_new (w.alloc (.cells #[.int .i64 a.1, .int .i64 a.2] 35)) (.cells #[.int .i64 b.1, .int .i64 b.2] 35)
    simpa using this
  have hg2 : w1.heap[w.heap.size + 1 + 1]? = some (.cells #[.int .i64 c.1, .int .i64 c.2] 35 (0, 0)) := by
    rw [← hw1, Below.heap_alloc _ _ _ (by simp <;> omega)]
    have := heap_alloc_new ((w.alloc (.cells #[.int .i64 a.1, .int .i64 a.2] 35)).alloc (.cells #[.int .i64 b.1, .int .i64 b.2] 35)) (.cells #[.int .i64 c.1, .int .i64 c.2] 35)
    simpa using this
  have hg3 : w1.heap[w.heap.size + 1 + 1 + 1]? = some (.cells #[.int .i64 d.1, .int .i64 d.2] 35 (0, 0)) := by
    rw [← hw1]
    have := heap_alloc_new (((w.alloc (.cells #[.int .i64 a.1, .int .i64 a.2] 35)).alloc (.cells #[.int .i64 b.1, .int .i64 b.2] 35)).alloc (.cells #[.int .i64 c.1, .int .i64 c.2] 35)) (.cells #[.int .i64 d.1, .int .i64 d.2] 35)
    simpa using this
  have c0 := cells_at hg0 0
  have c1 := cells_at hg0 1
  have hl0 : w.heap.size < w1.heap.size := (Array.getElem?_eq_some_iff.1 hg0).1
  have c2 := cells_at hg1 0
  have c3 := cells_at hg1 1
  have hl1 : w.heap.size + 1 < w1.heap.size := (Array.getElem?_eq_some_iff.1 hg1).1
  have c4 := cells_at hg2 0
  have c5 := cells_at hg2 1
  have hl2 : w.heap.size + 1 + 1 < w1.heap.size := (Array.getElem?_eq_some_iff.1 hg2).1
  have c6 := cells_at hg3 0
  have c7 := cells_at hg3 1
  have hl3 : w.heap.size + 1 + 1 + 1 < w1.heap.size := (Array.getElem?_eq_some_iff.1 hg3).1
  rw [hw1]
  clear hw1 hg0 hg1 hg2 hg3
  refine (cvalue_calls a b c d ha hb hc hd _).mono ?_; rintro e w2 ⟨v1, rfl, hv1, hk2⟩
  obtain ⟨b7, o7, q7, rfl⟩ := hv1.shape
  clear c0 c1 c2 c3 c4 c5 c6 c7
  go_wp2_with fail
  refine (lsign_calls _ 4 _ (by decide) (fit_inc ha hb hc hd) w2 (HG.out.kept (knil hk1 hk2)) hv1).mono ?_; rintro e w3 ⟨rfl, hk3⟩
  go_wp2
  go_ret
  exact ⟨rfl, knil (knil hk1 hk2) hk3⟩
theorem sgn_mul_wrap (x y : Int) : IntKind.i64.wrap (sgnI x * sgnI y) = sgnI x * sgnI y := by
  rcases sgnI_cases x with ⟨_, e⟩ | ⟨_, e⟩ | ⟨_, e⟩ <;> rcases sgnI_cases y with ⟨_, f⟩ | ⟨_, f⟩ | ⟨_, f⟩ <;> rw [e, f] <;> decide
set_option maxRecDepth 100000 in
set_option maxHeartbeats 4000000 in
theorem cside_calls (a b c d : Int × Int) (ha : Pt a) (hb : Pt b) (hc : Pt c) (hd : Pt d) (w : World) (hG : Gl w) : Calls Tryz.prog 22 #[.agg #[.int .i64 a.1, .int .i64 a.2], .agg #[.int .i64 b.1, .int .i64 b.2], .agg #[.int .i64 c.1, .int .i64 c.2], .agg #[.int .i64 d.1, .int .i64 d.2]] w fun e w' => e = .returned (.int .i64 (sgnI (inc a b c d) * sgnI (det a b c))) ∧ Keeps (fun _ => False) w w' := by
  have HG := Lib.hid hG
  have hmw := sgn_mul_wrap (inc a b c d) (det a b c)
  clear hG
  go_enter Tryz.func22, Tryz.ntmps22
  go_wp2_with fail
  obtain ⟨w1, hw1⟩ : ∃ w1, ((((w.alloc (.cells #[.int .i64 a.1, .int .i64 a.2] 35)).alloc (.cells #[.int .i64 b.1, .int .i64 b.2] 35)).alloc (.cells #[.int .i64 c.1, .int .i64 c.2] 35)).alloc (.cells #[.int .i64 d.1, .int .i64 d.2] 35)) = w1 := ⟨_, rfl⟩
  have hk1 : Keeps (fun _ => False) w w1 := by rw [← hw1]; exact (((((Keeps.refl _ w).alloc _).alloc _).alloc _).alloc _)
  have hg0 : w1.heap[w.heap.size]? = some (.cells #[.int .i64 a.1, .int .i64 a.2] 35 (0, 0)) := by
    rw [← hw1, Below.heap_alloc _ _ _ (by simp <;> omega), Below.heap_alloc _ _ _ (by simp <;> omega), Below.heap_alloc _ _ _ (by simp <;> omega)]
    have := heap_alloc_new w (.cells #[.int .i64 a.1, .int .i64 a.2] 35)
    simpa using this
  have hg1 : w1.heap[w.heap.size + 1]? = some (.cells #[.int .i64 b.1, .int .i64 b.2] 35 (0, 0)) := by
    rw [← hw1, Below.heap_alloc _ _ _ (by simp <;> omega), Below.heap_alloc _ _ _ (by simp <;> omega)]
    have := heap_alloc_new (w.alloc (.cells #[.int .i64 a.1, .int .i64 a.2] 35)) (.cells #[.int .i64 b.1, .int .i64 b.2] 35)
    simpa using this
  have hg2 : w1.heap[w.heap.size + 1 + 1]? = some (.cells #[.int .i64 c.1, .int .i64 c.2] 35 (0, 0)) := by
    rw [← hw1, Below.heap_alloc _ _ _ (by simp <;> omega)]
    have := heap_alloc_new ((w.alloc (.cells #[.int .i64 a.1, .int .i64 a.2] 35)).alloc (.cells #[.int .i64 b.1, .int .i64 b.2] 35)) (.cells #[.int .i64 c.1, .int .i64 c.2] 35)
    simpa using this
  have hg3 : w1.heap[w.heap.size + 1 + 1 + 1]? = some (.cells #[.int .i64 d.1, .int .i64 d.2] 35 (0, 0)) := by
    rw [← hw1]
    have := heap_alloc_new (((w.alloc (.cells #[.int .i64 a.1, .int .i64 a.2] 35)).alloc (.cells #[.int .i64 b.1, .int .i64 b.2] 35)).alloc (.cells #[.int .i64 c.1, .int .i64 c.2] 35)) (.cells #[.int .i64 d.1, .int .i64 d.2] 35)
    simpa using this
  have c0 := cells_at hg0 0
  have c1 := cells_at hg0 1
  have hl0 : w.heap.size < w1.heap.size := (Array.getElem?_eq_some_iff.1 hg0).1
  have c2 := cells_at hg1 0
  have c3 := cells_at hg1 1
  have hl1 : w.heap.size + 1 < w1.heap.size := (Array.getElem?_eq_some_iff.1 hg1).1
  have c4 := cells_at hg2 0
  have c5 := cells_at hg2 1
  have hl2 : w.heap.size + 1 + 1 < w1.heap.size := (Array.getElem?_eq_some_iff.1 hg2).1
  have c6 := cells_at hg3 0
  have c7 := cells_at hg3 1
  have hl3 : w.heap.size + 1 + 1 + 1 < w1.heap.size := (Array.getElem?_eq_some_iff.1 hg3).1
  rw [hw1]
  clear hw1 hg0 hg1 hg2 hg3
  refine wp_region_late (fun W => W.cell? ⟨w.heap.size, 0, none⟩ = some (.int .i64 a.1) ∧ W.cell? ⟨w.heap.size, 1, none⟩ = some (.int .i64 a.2) ∧ W.cell? ⟨w.heap.size + 1, 0, none⟩ = some (.int .i64 b.1) ∧ W.cell? ⟨w.heap.size + 1, 1, none⟩ = some (.int .i64 b.2) ∧ W.cell? ⟨w.heap.size + 1 + 1, 0, none⟩ = some (.int .i64 c.1) ∧ W.cell? ⟨w.heap.size + 1 + 1, 1, none⟩ = some (.int .i64 c.2) ∧ W.cell? ⟨w.heap.size + 1 + 1 + 1, 0, none⟩ = some (.int .i64 d.1) ∧ W.cell? ⟨w.heap.size + 1 + 1 + 1, 1, none⟩ = some (.int .i64 d.2)) [] (by kernel_rfl) ?_
  have hS : w1.drew.cell? ⟨w.heap.size, 0, none⟩ = some (.int .i64 a.1) ∧ w1.drew.cell? ⟨w.heap.size, 1, none⟩ = some (.int .i64 a.2) ∧ w1.drew.cell? ⟨w.heap.size + 1, 0, none⟩ = some (.int .i64 b.1) ∧ w1.drew.cell? ⟨w.heap.size + 1, 1, none⟩ = some (.int .i64 b.2) ∧ w1.drew.cell? ⟨w.heap.size + 1 + 1, 0, none⟩ = some (.int .i64 c.1) ∧ w1.drew.cell? ⟨w.heap.size + 1 + 1, 1, none⟩ = some (.int .i64 c.2) ∧ w1.drew.cell? ⟨w.heap.size + 1 + 1 + 1, 0, none⟩ = some (.int .i64 d.1) ∧ w1.drew.cell? ⟨w.heap.size + 1 + 1 + 1, 1, none⟩ = some (.int .i64 d.2) := ⟨c0, c1, c2, c3, c4, c5, c6, c7⟩
  refine tkL 0 (.agg #[.int .i64 a.1, .int .i64 a.2]) rfl (by kernel_rfl) (fun _ _ _ h => (h : False).elim) (by kernel_rfl) ‹_› ?_ ?_
  · intro w hSw
    obtain ⟨s0, s1, s2, s3, s4, s5, s6, s7⟩ := hSw
    go_simp
  try simp only [ga, gb, gc, Act.put, gd, ge, gf]
  refine tkL 1 (.agg #[.int .i64 b.1, .int .i64 b.2]) rfl (by kernel_rfl) (fun _ _ _ h => (h : False).elim) (by kernel_rfl) ‹_› ?_ ?_
  · intro w hSw
    obtain ⟨s0, s1, s2, s3, s4, s5, s6, s7⟩ := hSw
    go_simp
  try simp only [ga, gb, gc, Act.put, gd, ge, gf]
  refine tkL 2 (.agg #[.int .i64 c.1, .int .i64 c.2]) rfl (by kernel_rfl) (fun _ _ _ h => (h : False).elim) (by kernel_rfl) ‹_› ?_ ?_
  · intro w hSw
    obtain ⟨s0, s1, s2, s3, s4, s5, s6, s7⟩ := hSw
    go_simp
  try simp only [ga, gb, gc, Act.put, gd, ge, gf]
  refine tkL 3 (.agg #[.int .i64 d.1, .int .i64 d.2]) rfl (by kernel_rfl) (fun _ _ _ h => (h : False).elim) (by kernel_rfl) ‹_› ?_ ?_
  · intro w hSw
    obtain ⟨s0, s1, s2, s3, s4, s5, s6, s7⟩ := hSw
    go_simp
  try simp only [ga, gb, gc, Act.put, gd, ge, gf]
  refine tkL 5 (.agg #[.int .i64 a.1, .int .i64 a.2]) rfl (by kernel_rfl) (fun _ _ _ h => (h : False).elim) (by kernel_rfl) ‹_› ?_ ?_
  · intro w hSw
    obtain ⟨s0, s1, s2, s3, s4, s5, s6, s7⟩ := hSw
    go_simp
  try simp only [ga, gb, gc, Act.put, gd, ge, gf]
  refine tkL 6 (.agg #[.int .i64 b.1, .int .i64 b.2]) rfl (by kernel_rfl) (fun _ _ _ h => (h : False).elim) (by kernel_rfl) ‹_› ?_ ?_
  · intro w hSw
    obtain ⟨s0, s1, s2, s3, s4, s5, s6, s7⟩ := hSw
    go_simp
  try simp only [ga, gb, gc, Act.put, gd, ge, gf]
  refine tkL 7 (.agg #[.int .i64 c.1, .int .i64 c.2]) rfl (by kernel_rfl) (fun _ _ _ h => (h : False).elim) (by kernel_rfl) ‹_› ?_ ?_
  · intro w hSw
    obtain ⟨s0, s1, s2, s3, s4, s5, s6, s7⟩ := hSw
    go_simp
  try simp only [ga, gb, gc, Act.put, gd, ge, gf]
  refine wpAnyL_next (i := 4) (by kernel_rfl) rfl (fun K hK => ?_)
  go_simp
  refine (csign_calls a b c d ha hb hc hd _ (HG.out.kept (hk1.drewN 1))).mono ?_; rintro e w2 ⟨rfl, hk2⟩
  have hk12 : Keeps (fun _ => False) w1 w2 := knil ((Keeps.refl _ w1).drewN 1) hk2
  go_wp2_with fail
  refine hK.out _ _ ⟨((hk12).cell (p := ⟨w.heap.size, 0, none⟩) hl0 (fun h => h)).trans c0, ((hk12).cell (p := ⟨w.heap.size, 1, none⟩) hl0 (fun h => h)).trans c1, ((hk12).cell (p := ⟨w.heap.size + 1, 0, none⟩) hl1 (fun h => h)).trans c2, ((hk12).cell (p := ⟨w.heap.size + 1, 1, none⟩) hl1 (fun h => h)).trans c3, ((hk12).cell (p := ⟨w.heap.size + 1 + 1, 0, none⟩) hl2 (fun h => h)).trans c4, ((hk12).cell (p := ⟨w.heap.size + 1 + 1, 1, none⟩) hl2 (fun h => h)).trans c5, ((hk12).cell (p := ⟨w.heap.size + 1 + 1 + 1, 0, none⟩) hl3 (fun h => h)).trans c6, ((hk12).cell (p := ⟨w.heap.size + 1 + 1 + 1, 1, none⟩) hl3 (fun h => h)).trans c7⟩ (fun hHeld => ?_)
  clear hK K
  try simp only [ga, gb, gc, Act.put, gd, ge, gf]
  refine wpAnyL_next (i := 8) (by kernel_rfl) rfl (fun K hK => ?_)
  go_simp
  refine (osign_calls a b c ha hb hc _ (HG.out.kept (knil hk1 hk12))).mono ?_; rintro e w3 ⟨rfl, hk3⟩
  have hk13 : Keeps (fun _ => False) w1 w3 := knil hk12 hk3
  go_wp2_with fail
  refine hK.out _ _ ⟨((hk13).cell (p := ⟨w.heap.size, 0, none⟩) hl0 (fun h => h)).trans c0, ((hk13).cell (p := ⟨w.heap.size, 1, none⟩) hl0 (fun h => h)).trans c1, ((hk13).cell (p := ⟨w.heap.size + 1, 0, none⟩) hl1 (fun h => h)).trans c2, ((hk13).cell (p := ⟨w.heap.size + 1, 1, none⟩) hl1 (fun h => h)).trans c3, ((hk13).cell (p := ⟨w.heap.size + 1 + 1, 0, none⟩) hl2 (fun h => h)).trans c4, ((hk13).cell (p := ⟨w.heap.size + 1 + 1, 1, none⟩) hl2 (fun h => h)).trans c5, ((hk13).cell (p := ⟨w.heap.size + 1 + 1 + 1, 0, none⟩) hl3 (fun h => h)).trans c6, ((hk13).cell (p := ⟨w.heap.size + 1 + 1 + 1, 1, none⟩) hl3 (fun h => h)).trans c7⟩ (fun hHeld => ?_)
  clear hK K
  try simp only [ga, gb, gc, Act.put, gd, ge, gf]
  refine tkA 9 (.int .i64 (sgnI (inc a b c d) * sgnI (det a b c))) rfl (by kernel_rfl) (fun _ _ _ h => (h : False).elim) (by kernel_rfl) (fun _ => ‹_›) ?_ ?_
  · intro w _; go_simp
  try simp only [ga, gb, gc, Act.put, gd, ge, gf]
  refine tkA 10 (.int .i64 (sgnI (inc a b c d) * sgnI (det a b c))) rfl (by kernel_rfl) (fun _ _ _ h => (h : False).elim) (by kernel_rfl) (fun _ => ‹_›) ?_ ?_
  · intro w _; go_simp
  try simp only [ga, gb, gc, Act.put, gd, ge, gf]
  refine wpAnyL_done (by kernel_rfl) ?_ _
  refine NoPanic.normal ?_
  clear hS c0 c1 c2 c3 c4 c5 c6 c7
  go_wp2
  go_ret
  exact ⟨rfl, knil hk1 hk13⟩
end Go.Proofs.YtmoajobnhiopiaaGreatDoor.lm
set_option linter.unusedSimpArgs false
set_option linter.unusedVariables false
namespace Go.Proofs.YtmoajobnhiopiaaGreatDoor.po
open Go Go.RowKit Go.Shelf Go.Maps Go.Proofs.YtmoajobnhiopiaaGreatDoor.mk Go.Proofs.YtmoajobnhiopiaaGreatDoor.tp Go.Proofs.YtmoajobnhiopiaaGreatDoor.rg Go.Proofs.YtmoajobnhiopiaaGreatDoor.lm Go.Proofs.YtmoajobnhiopiaaGreatDoor.gm Go.Proofs.YtmoajobnhiopiaaGreatDoor.nb
theorem run_copyP {P : Program} (w : World) (dT sT ty elem : TypeId) (g o dLen dCap : Nat) (a : Addr) (sLen sCap sz k : Nat) (cur : Array Value) (t : TypeId) (cs : List Value)
    (hu : P.underlying dT = some (.slice elem)) (hs : (P.info? elem).map (·.size) = some sz)
    (hg : w.heap[g]? = some (.cells cur t (0, 0))) (hk : k = Nat.min sLen dLen) (hn : cs.length = k * sz)
    (hsrc : ∀ j v, cs[j]? = some v → w.cell? (a.add j) = some v) (hfit : o + cs.length ≤ cur.size) (h1 : ∀ v ∈ cs, v.oneCell' = true) :
    (Builtin.copy_ #[dT, sT] ty #[.slice (some ⟨g, o, none⟩) dLen dCap, .slice (some a) sLen sCap]).run P w =
      .ok (goInt k) (w.setRow g (cur.toList.take o ++ cs ++ cur.toList.drop (o + cs.length)).toArray) := by
  have hl := run_loadCells_list (P := P) w a cs hsrc
  have hst := run_storeCells_at P g o t cs 0 cur w hg (by simpa using hfit) h1
  cases hq : P.info? elem with
  | none => simp [hq] at hs
  | some i =>
    have hi : i.size = sz := by simpa [hq] using hs
    rw [hn] at hl
    simp [Builtin.copy_, run_underlying hu, Builtin.lenOf, Builtin.firstCells, sizeOf, typeInfo, hq, hi, ← hk, hl, hst]
theorem wpList_copyP {P : Program} {w : World} {ops : Array Oper} {rest : List Oper} {o : Oper} {a : Act} {Q : Exit → Act → World → Prop} (hgd : o.guard = none) (d s : Operand) (dT sT : TypeId)
    (ho : o.op = .call { callee := .builtin .copy, args := #[d, s], argTypes := #[dT, sT] }) (elem : TypeId) (hu : P.underlying dT = some (.slice elem)) (sz : Nat) (hsz : (P.info? elem).map (·.size) = some sz)
    (g off dLen dCap : Nat) (ad : Addr) (sLen sCap k : Nat) (hd : a.eval d = .slice (some ⟨g, off, none⟩) dLen dCap) (hs : a.eval s = .slice (some ad) sLen sCap)
    (cur : Array Value) (t : TypeId) (hg : w.heap[g]? = some (.cells cur t (0, 0))) (cs : List Value) (hk : k = Nat.min sLen dLen) (hn : cs.length = k * sz)
    (hsrc : ∀ j v, cs[j]? = some v → w.cell? (ad.add j) = some v) (hfit : off + cs.length ≤ cur.size) (h1 : ∀ v ∈ cs, v.oneCell' = true)
    (h : wpList P ops Q rest (a.put o.dst (goInt k)) (w.setRow g (cur.toList.take off ++ (cs ++ cur.toList.drop (off + cs.length))).toArray)) : wpList P ops Q (o :: rest) a w := by
  refine wpList_plain hgd fun K hK => ?_
  have hrun := run_copyP (P := P) w dT sT o.type elem g off dLen dCap ad sLen sCap sz k cur t cs hu hsz hg hk hn hsrc hfit h1
  unfold Oper.wp
  simp [execOp, ho, resolve, invoke, builtin, hd, hs, hrun, Result.andThen]
  exact hK _ _ h
theorem not_masksD (a : Bool) : bits .xor .u64 IntKind.u64.max (maskI a) = maskI (!a) := by cases a <;> decide
theorem sgn_convU' (x : Int) (h : -1 ≤ x ∧ x ≤ 1) : IntKind.u64.wrap x = x % 18446744073709551616 ∧ IsU (x % 18446744073709551616) ∧ (x % 18446744073709551616 == 0) = (x == 0) := by
  refine ⟨by rw [IntKind.wrap_u64], by unfold IsU; omega, ?_⟩
  rcases (show x = -1 ∨ x = 0 ∨ x = 1 by omega) with rfl | rfl | rfl <;> decide
theorem results_six {fn : Func} {p q : Tmp} (h : fn.results = #[.cell p 87, .tmp q]) (tmps : Array Value) (w : World) (g : Nat) (t : TypeId) (a b c d e f : Value) (fr : Nat × Nat)
    (hp : tmps.getD p undef = .pointer (some ⟨g, 0, none⟩)) (hg : w.heap[g]? = some (.cells #[a, b, c, d, e, f] t fr)) : (results fn tmps).run Tryz.prog w = .ok (.tuple #[.agg #[a, b, c, d, e, f], tmps.getD q undef]) w := by
  have e' := run_loadVar_row (P := Tryz.prog) w g t 87 #[a, b, c, d, e, f] fr _ hg Tryz.underlying87 rfl (by kernel_rfl)
  rw [Array.getD_eq_getD_getElem?] at hp
  simp only [results, h]
  simp [Sem.run_bind, Result.andThen, hp, asAddr, e']
theorem cells_six {w : World} {g : Nat} {t : TypeId} {fr : Nat × Nat} {z0 z1 z2 z3 z4 z5 a b c d e f : Value} (h : w.heap[g]? = some (.cells #[z0, z1, z2, z3, z4, z5] t fr)) :
    ((((((w.setCell ⟨g, 0, none⟩ a).setCell ⟨g, 1, none⟩ b).setCell ⟨g, 2, none⟩ c).setCell ⟨g, 3, none⟩ d).setCell ⟨g, 4, none⟩ e).setCell ⟨g, 5, none⟩ f).heap[g]? = some (.cells #[a, b, c, d, e, f] t fr) :=
  cells_put (cells_put (cells_put (cells_put (cells_put (cells_put h 0 a) 1 b) 2 c) 3 d) 4 e) 5 f
theorem keeps_six {a w : World} (h : Keeps (fun _ => False) a w) {g : Nat} (hb : a.heap.size ≤ g) (x0 x1 x2 x3 x4 x5 : Value) : Keeps (fun _ => False) a ((((((w.setCell ⟨g, 0, none⟩ x0).setCell ⟨g, 1, none⟩ x1).setCell ⟨g, 2, none⟩ x2).setCell ⟨g, 3, none⟩ x3).setCell ⟨g, 4, none⟩ x4).setCell ⟨g, 5, none⟩ x5) := by
  have n : ∀ i, (⟨g, i, none⟩ : Addr).block < a.heap.size → False := fun i hp => by have : g < a.heap.size := hp; omega
  exact (((((h.setCell ⟨g, 0, none⟩ (n 0) x0).setCell ⟨g, 1, none⟩ (n 1) x1).setCell ⟨g, 2, none⟩ (n 2) x2).setCell ⟨g, 3, none⟩ (n 3) x3).setCell ⟨g, 4, none⟩ (n 4) x4).setCell ⟨g, 5, none⟩ (n 5) x5
def six (a b c : Int × Int) : List Value := [.int .i64 a.1, .int .i64 a.2, .int .i64 b.1, .int .i64 b.2, .int .i64 c.1, .int .i64 c.2]
set_option maxRecDepth 100000 in
set_option maxHeartbeats 2000000 in
theorem from3_calls (v : Value) (l : List (Int × Int)) (h3 : l.length = 3) (w : World) (h : ptsAt w v l) :
    Calls Tryz.prog 47 #[v] w fun e w' => e = .returned (.tuple #[.agg #[.int .i64 (pt l 0).1, .int .i64 (pt l 0).2, .int .i64 (pt l 1).1, .int .i64 (pt l 1).2, .int .i64 (pt l 2).1, .int .i64 (pt l 2).2], .bool true]) ∧ Keeps (fun _ => False) w w' := by
  obtain ⟨b, off, cap, rfl, hb, hc⟩ := h.block (i := 0) (by omega)
  rw [h3]
  obtain ⟨wz, hwz⟩ : ∃ wz, (w.alloc (.cells #[.int .i64 0, .int .i64 0, .int .i64 0, .int .i64 0, .int .i64 0, .int .i64 0] 87)).alloc (.cells #[.int .i64 0, .int .i64 0, .int .i64 0, .int .i64 0, .int .i64 0, .int .i64 0] 87) = wz := ⟨_, rfl⟩
  have hkz : Keeps (fun _ => False) w wz := by rw [← hwz]; exact ((Keeps.refl _ w).alloc _).alloc _
  have hg := heap_two w (.cells #[.int .i64 0, .int .i64 0, .int .i64 0, .int .i64 0, .int .i64 0, .int .i64 0] 87) (.cells #[.int .i64 0, .int .i64 0, .int .i64 0, .int .i64 0, .int .i64 0, .int .i64 0] 87)
  rw [hwz] at hg
  obtain ⟨hg0, hg1⟩ := hg
  have hsrc : ∀ j v, (six (pt l 0) (pt l 1) (pt l 2))[j]? = some v → wz.cell? ((⟨b, off, none⟩ : Addr).add j) = some v := by
    intro j v hj
    have hadd : (⟨b, off, none⟩ : Addr).add j = ⟨b, off + j, none⟩ := by unfold Addr.add; split <;> simp_all
    rw [hadd, hkz.cell (p := ⟨b, off + j, none⟩) hb (fun h => h)]
    match j, hj with
    | 0, hj => injection hj with hj; subst hj; exact (hc 0 (by omega)).1
    | 1, hj => injection hj with hj; subst hj; exact (hc 0 (by omega)).2
    | 2, hj => injection hj with hj; subst hj; exact (hc 1 (by omega)).1
    | 3, hj => injection hj with hj; subst hj; exact (hc 1 (by omega)).2
    | 4, hj => injection hj with hj; subst hj; exact (hc 2 (by omega)).1
    | 5, hj => injection hj with hj; subst hj; exact (hc 2 (by omega)).2
    | k + 6, hj => simp [six] at hj
  have HG0 := Lib.hid hg0
  have HG1 := Lib.hid hg1
  have HS := Lib.hid hsrc
  clear hg0 hg1 hsrc hc h h3
  go_enter Tryz.func47, Tryz.ntmps47
  go_upto_region 4 with fail
  try rw [hwz]
  go_upto_region 5 with (refine wpList_copyP rfl _ _ 38 38 rfl 35 Tryz.underlying38 2 (by kernel_rfl) (w.heap.size + 1) 0 3 3 ⟨b, off, none⟩ 3 cap 3 rfl rfl _ 87 HG1.out (six (pt l 0) (pt l 1) (pt l 2)) rfl rfl HS.out (by simp [six]) (by intro u hu; simp [six] at hu; rcases hu with rfl | rfl | rfl | rfl | rfl | rfl <;> rfl) ?_)
  obtain ⟨wc, hwc⟩ : ∃ wc, World.setRow wz (w.heap.size + 1) (List.take 0 ([.int .i64 0, .int .i64 0, .int .i64 0, .int .i64 0, .int .i64 0, .int .i64 0] : List Value) ++ (six (pt l 0) (pt l 1) (pt l 2) ++ List.drop (0 + (six (pt l 0) (pt l 1) (pt l 2)).length) ([.int .i64 0, .int .i64 0, .int .i64 0, .int .i64 0, .int .i64 0, .int .i64 0] : List Value))).toArray = wc := ⟨_, rfl⟩
  have hgc : wc.heap[w.heap.size + 1]? = some (.cells #[.int .i64 (pt l 0).1, .int .i64 (pt l 0).2, .int .i64 (pt l 1).1, .int .i64 (pt l 1).2, .int .i64 (pt l 2).1, .int .i64 (pt l 2).2] 87 (0, 0)) := by rw [← hwc, setRow_heap wz _ _ _ _ _ HG1.out]; rfl
  have hg0c : wc.heap[w.heap.size]? = some (.cells #[.int .i64 0, .int .i64 0, .int .i64 0, .int .i64 0, .int .i64 0, .int .i64 0] 87 (0, 0)) := by rw [← hwc, setRow_other _ _ _ _ (by omega)]; exact HG0.out
  have hkc : Keeps (fun i => i = w.heap.size + 1) wz wc := by rw [← hwc]; exact ⟨rfl, rfl, rfl, by simp, fun k _ h => setRow_other _ _ _ _ h⟩
  have hkw : Keeps (fun _ => False) w wc := hkz.trans hkc (fun i hi h => by omega)
  rw [hwc]
  have HGC := Lib.hid hg0c
  have c0 := cells_at hgc 0
  have c1 := cells_at hgc 1
  have c2 := cells_at hgc 2
  have c3 := cells_at hgc 3
  have c4 := cells_at hgc 4
  have c5 := cells_at hgc 5
  have d0 := cells_at hg0c 0
  have d1 := cells_at hg0c 1
  have d2 := cells_at hg0c 2
  have d3 := cells_at hg0c 3
  have d4 := cells_at hg0c 4
  have d5 := cells_at hg0c 5
  have e0 := two_frozen hg0c 0
  have e1 := two_frozen hg0c 1
  have e2 := two_frozen hg0c 2
  have e3 := two_frozen hg0c 3
  have e4 := two_frozen hg0c 4
  have e5 := two_frozen hg0c 5
  clear hgc hg0c hwz hwc
  go_wp2_with fail
  refine bodyPost_ret (results_six rfl _ _ _ _ _ _ _ _ _ _ _ rfl (cells_six HGC.out)) rfl ⟨rfl, keeps_six hkw (Nat.le_refl _) _ _ _ _ _ _⟩
set_option maxRecDepth 100000 in
set_option maxHeartbeats 2000000 in
theorem dvalid_calls (v : Value) (l : List (Int × Int)) (h3 : l.length = 3) (hp : Pts l) (w : World) (hG : Gl w) (h : ptsAt w v l) :
    Calls Tryz.prog 25 #[.pointer none, v] w fun e w' => e = .returned (.int .u64 (maskI (!(polyS l == 0)))) ∧ Keeps (fun _ => False) w w' := by
  obtain ⟨b, off, cap, rfl, hb, hc⟩ := h.block (i := 0) (by omega)
  have H := Lib.hid h
  have HG := Lib.hid hG
  have hz := sgn_convU' (polyS l) (polyS_ok l)
  have H3 := Lib.hid h3
  clear h hc hG h3
  go_enter Tryz.func25, Tryz.ntmps25
  go_wp2_with fail
  refine (from3_calls _ l H3.out w H.out).mono ?_; rintro e w1 ⟨rfl, hk1⟩
  go_upto_region 2 with fail
  obtain ⟨w2, hw2⟩ : ∃ w2, w1.alloc (.cells #[.int .i64 (pt l 0).1, .int .i64 (pt l 0).2, .int .i64 (pt l 1).1, .int .i64 (pt l 1).2, .int .i64 (pt l 2).1, .int .i64 (pt l 2).2] 87) = w2 := ⟨_, rfl⟩
  have hg := heap_alloc_new w1 (.cells #[.int .i64 (pt l 0).1, .int .i64 (pt l 0).2, .int .i64 (pt l 1).1, .int .i64 (pt l 1).2, .int .i64 (pt l 2).1, .int .i64 (pt l 2).2] 87)
  have hk2 : Keeps (fun _ => False) w1 w2 := by rw [← hw2]; exact (Keeps.refl _ w1).alloc _
  rw [hw2] at hg ⊢
  clear hw2
  have c0 := cells_at hg 0
  have c1 := cells_at hg 1
  have c2 := cells_at hg 2
  have c3 := cells_at hg 3
  have c4 := cells_at hg 4
  have c5 := cells_at hg 5
  have hw1' := hz.1
  have hnm := not_masksD (polyS l == 0)
  clear hg
  go_wp2_with fail
  refine (noteN _ _ _ _).mono ?_; rintro e w3 ⟨rfl, hw3⟩
  rw [hw3]
  clear hw3 w3
  go_wp2_with fail
  refine (osign_calls (pt l 0) (pt l 1) (pt l 2) (hp.at 0) (hp.at 1) (hp.at 2) _ (HG.out.kept (knil hk1 hk2))).mono ?_; rintro e w4 ⟨rfl, hk4⟩
  rw [show sgnI (det (pt l 0) (pt l 1) (pt l 2)) = polyS l from rfl]
  go_wp2_with fail
  refine (zero_calls _ hz.2.1 _).mono ?_; rintro e w5 ⟨rfl, hw5⟩
  rw [hw5, hz.2.2]
  clear hw5 w5
  go_wp2
  go_ret
  exact ⟨rfl, knil (knil hk1 hk2) hk4⟩
set_option maxRecDepth 100000 in
set_option maxHeartbeats 2000000 in
theorem dlocate_calls (v : Value) (l : List (Int × Int)) (p : Int × Int) (h3 : l.length = 3) (hp : Pts l) (hpp : Pt p) (w : World) (hG : Gl w) (h : ptsAt w v l) :
    Calls Tryz.prog 28 #[.pointer none, v, .agg #[.int .i64 p.1, .int .i64 p.2]] w fun e w' => e = .returned (.int .i64 (sgnI (inc (pt l 0) (pt l 1) (pt l 2) p) * polyS l)) ∧ Keeps (fun _ => False) w w' := by
  obtain ⟨b, off, cap, rfl, hb, hc⟩ := h.block (i := 0) (by omega)
  have hk0 : Keeps (fun _ => False) w (w.alloc (.cells #[.int .i64 p.1, .int .i64 p.2] 35)) := (Keeps.refl _ w).alloc _
  have hg0 := heap_alloc_new w (.cells #[.int .i64 p.1, .int .i64 p.2] 35)
  have hl0 : w.heap.size < (w.alloc (.cells #[.int .i64 p.1, .int .i64 p.2] 35)).heap.size := (Array.getElem?_eq_some_iff.1 hg0).1
  have H := Lib.hid h
  have HG := Lib.hid hG
  have HG0 := Lib.hid hg0
  have H3 := Lib.hid h3
  clear h hc hG hg0 h3
  go_enter Tryz.func28, Tryz.ntmps28
  go_upto_region 1 with fail
  generalize w.alloc (.cells #[.int .i64 p.1, .int .i64 p.2] 35) = w0 at hk0 HG0 hl0 ⊢
  go_wp2_with fail
  refine (from3_calls _ l H3.out w0 (H.out.kept hk0)).mono ?_; rintro e w1 ⟨rfl, hk1⟩
  go_upto_region 2 with fail
  obtain ⟨w2, hw2⟩ : ∃ w2, w1.alloc (.cells #[.int .i64 (pt l 0).1, .int .i64 (pt l 0).2, .int .i64 (pt l 1).1, .int .i64 (pt l 1).2, .int .i64 (pt l 2).1, .int .i64 (pt l 2).2] 87) = w2 := ⟨_, rfl⟩
  have hg := heap_alloc_new w1 (.cells #[.int .i64 (pt l 0).1, .int .i64 (pt l 0).2, .int .i64 (pt l 1).1, .int .i64 (pt l 1).2, .int .i64 (pt l 2).1, .int .i64 (pt l 2).2] 87)
  have hk2 : Keeps (fun _ => False) w1 w2 := by rw [← hw2]; exact (Keeps.refl _ w1).alloc _
  rw [hw2] at hg ⊢
  clear hw2
  have hk02 := knil hk1 hk2
  have hgp := (hk02.block _ hl0 (fun h => h)).trans HG0.out
  have c0 := cells_at hg 0
  have c1 := cells_at hg 1
  have c2 := cells_at hg 2
  have c3 := cells_at hg 3
  have c4 := cells_at hg 4
  have c5 := cells_at hg 5
  have d0 := cells_at hgp 0
  have d1 := cells_at hgp 1
  clear hg hgp
  go_wp2_with fail
  refine (noteN _ _ _ _).mono ?_; rintro e w3 ⟨rfl, hw3⟩
  rw [hw3]
  clear hw3 w3
  go_wp2_with fail
  refine (cside_calls (pt l 0) (pt l 1) (pt l 2) p (hp.at 0) (hp.at 1) (hp.at 2) hpp _ (HG.out.kept (knil hk0 hk02))).mono ?_; rintro e w4 ⟨rfl, hk4⟩
  go_wp2
  go_ret
  exact ⟨rfl, knil (knil hk0 hk02) hk4⟩
end Go.Proofs.YtmoajobnhiopiaaGreatDoor.po

/- The law TapeSums, by walking its text: its set of kinds, its loop. -/
import Derived.Test.YtoefjgcehmcbcaaTapeL
namespace Go.Proofs.Ytoefjgcehmcbcaa.tp
open Go Go.RowKit Go.Maps

theorem plainElem_bool_inv {H : Type} {P : Program} {e : TypeId} (he : P.underlying e = some .bool) {v : Value} {z : DataW H × List MemPlace} (h : plainElem P e v = some z) : ∃ x, v = .bool x ∧ z = (.lit (.bool x), []) := by
  unfold plainElem at h
  rw [he] at h
  cases v <;> simp at h
  exact ⟨_, rfl, h.symm⟩
/-- 'm[k]' on a map to bools that the call has made. -/
theorem wpList_lookup_own_bool {H : Type} {P : Program} (w : World) {ops : Array Oper} {rest : List Oper} {o : Oper} {a : Act} {Q : Exit → Act → World → Prop}
    (hg : o.guard = none) (m x : Operand) (t : TypeId) (hop : o.op = Op.lookup t m x false)
    (k e : TypeId) (K : Keyed P k) (ht : P.underlying t = some (.map k e)) (he : P.underlying e = some .bool) (hz : (zeroValue e).run P w = .ok (.bool false) w) (b n : Nat) (D : DataW H)
    (hm : a.eval m = .map (some b)) (hown : w.ownsMap P k (plainElem P e) b n D) (key : Value) (kl : Lit) (hx : a.eval x = key) (hkey : keyOf P k key = some kl) (c : Bool) (hc : D.atKey kl (.lit (.bool false)) = .lit (.bool c))
    (hK : wpList P ops Q rest (a.put o.dst (.bool c)) w) :
    wpList P ops Q (o :: rest) a w := by
  refine wpList_plain hg fun K' hK' => ?_
  obtain ⟨v, ps, hrun, hv⟩ := hown.lookup K ht hz (plainElem_bool he false) hkey
  obtain ⟨y, rfl, hy⟩ := plainElem_bool_inv he hv
  have hyc : y = c := by
    rw [hc] at hy
    have := congrArg Prod.fst hy
    simpa using this.symm
  subst hyc
  unfold Oper.wp
  simp [execOp, hop, hm, hx, hrun, Result.andThen]
  exact hK' _ _ hK

/-! ### the kinds that have been seen; the sum of their numbers -/
def seenE (l : List Ev) (q : Int) : Bool := l.any fun e => e.1 == q
theorem seenE_snoc (l : List Ev) (e : Ev) (q : Int) : seenE (l ++ [e]) q = (seenE l q || (e.1 == q)) := by simp [seenE]
/-- How many events of l are of a kind that occurs among the first k. -/
def sumK (l : List Ev) (k : Nat) : Nat := (l.filter fun e => seenE (l.take k) e.1).length
theorem sumK_zero (l : List Ev) : sumK l 0 = 0 := by
  unfold sumK
  have : (l.filter fun e => seenE (l.take 0) e.1) = [] := by
    rw [List.filter_eq_nil_iff]
    intro e _
    simp [seenE]
  rw [this]; rfl
theorem sumK_le (l : List Ev) (k : Nat) : sumK l k ≤ l.length := List.length_filter_le _ _
theorem sumK_all (l : List Ev) : sumK l l.length = l.length := by
  unfold sumK
  rw [List.take_length, List.filter_eq_self.2]
  intro e he
  simp only [seenE, List.any_eq_true]
  exact ⟨e, he, by simp⟩
theorem filter_or (p q : Ev → Bool) : ∀ l : List Ev, (∀ e ∈ l, p e = true → q e = false) → (l.filter fun e => p e || q e).length = (l.filter p).length + (l.filter q).length
  | [], _ => rfl
  | x :: l, h => by
    have ih := filter_or p q l (fun e he => h e (List.mem_cons_of_mem _ he))
    have hx := h x List.mem_cons_self
    cases hp : p x
    · cases hq : q x
      · simp [hp, hq]; exact ih
      · simp [hp, hq]; omega
    · have hq := hx hp
      simp [hp, hq]; omega
theorem sumK_old {l : List Ev} {k : Nat} {e : Ev} (he : l[k]? = some e) (h : seenE (l.take k) e.1 = true) : sumK l (k + 1) = sumK l k := by
  unfold sumK
  rw [List.take_add_one, he]
  congr 1
  apply List.filter_congr
  intro x _
  show seenE (l.take k ++ [e]) x.1 = _
  rw [seenE_snoc]
  by_cases hx : e.1 = x.1
  · rw [← hx, h, Bool.true_or]
  · have : (e.1 == x.1) = false := by simpa using hx
    rw [this, Bool.or_false]
theorem sumK_new {l : List Ev} {k : Nat} {e : Ev} (he : l[k]? = some e) (h : seenE (l.take k) e.1 = false) : sumK l (k + 1) = sumK l k + cntE l e.1 := by
  unfold sumK cntE
  rw [List.take_add_one, he]
  have e1 : (fun x : Ev => seenE (l.take k ++ [e]) x.1) = fun x => seenE (l.take k) x.1 || (x.1 == e.1) := by
    funext x
    rw [seenE_snoc]
    congr 1
    rw [Bool.eq_iff_iff, beq_iff_eq, beq_iff_eq]
    exact eq_comm
  show (l.filter fun x => seenE (l.take k ++ [e]) x.1).length = _
  rw [e1, filter_or]
  intro x _ hx
  by_cases hxe : x.1 = e.1
  · rw [hxe, h] at hx; cases hx
  · simpa using hxe
def SeenOk (D : DataW Unit) (l : List Ev) : Prop := IsMap D ∧ ∀ q, wf64 q = true → D.atKey (.int .i64 q) (.lit (.bool false)) = .lit (.bool (seenE l q))
theorem SeenOk.start : SeenOk (.map []) [] := ⟨⟨[], rfl⟩, fun _ _ => rfl⟩
theorem SeenOk.old {D : DataW Unit} {l : List Ev} (h : SeenOk D l) {e : Ev} (hs : seenE l e.1 = true) : SeenOk D (l ++ [e]) := by
  refine ⟨h.1, fun q hq => ?_⟩
  rw [h.2 q hq, seenE_snoc]
  by_cases hx : e.1 = q
  · rw [← hx, hs, Bool.true_or]
  · have : (e.1 == q) = false := by simpa using hx
    rw [this, Bool.or_false]
theorem SeenOk.new {D : DataW Unit} {l : List Ev} (h : SeenOk D l) (e : Ev) : SeenOk (D.put (.int .i64 e.1) (.lit (.bool true))) (l ++ [e]) := by
  refine ⟨by obtain ⟨es, rfl⟩ := h.1; exact ⟨_, rfl⟩, fun q hq => ?_⟩
  rw [seenE_snoc]
  by_cases hx : e.1 = q
  · subst hx
    rw [atKey_put_same h.1 (by simp [WideAt.IsKeyLit])]
    simp
  · rw [atKey_put_other (by intro e'; exact hx (by simpa using e'.symm)), h.2 q hq]
    have : (e.1 == q) = false := by simpa using hx
    rw [this, Bool.or_false]

theorem zeroBool (w : World) : (zeroValue 4).run Try.prog w = .ok (.bool false) w := by kernel_rfl
theorem ownsMap_keep {w w' : World} {b n : Nat} {D : DataW Unit} {T : Nat → Prop} {e : TypeId} (h : w.ownsMap Try.prog 3 (plainElem Try.prog e) b n D) (hk : Keeps T w w') (hT : ¬ T b) : w'.ownsMap Try.prog 3 (plainElem Try.prog e) b n D := by
  have hl := h.lt
  obtain ⟨es, clock, hb, r⟩ := h
  exact ⟨es, clock, (hk.block b hl hT).trans hb, r⟩

set_option maxHeartbeats 800000 in
theorem sums_some (c off cap : Nat) (l : List Ev) (w : World) (hlt : c < w.heap.size) (h : cellsAt w c off l) (hok : ∀ e ∈ l, EvOk e) (hl : l.length ≤ 1000) :
    Calls Try.prog 6 #[.slice (some ⟨c, off, none⟩) l.length cap] w (Yes w) := by
  have hmm := @run_makeMap Try.prog
  have hev : evAt w (.slice (some ⟨c, off, none⟩) l.length cap) l := by
    by_cases hne : l = []
    · subst hne; exact .inl ⟨rfl, _, _, rfl⟩
    · exact .inr ⟨hne, c, off, cap, rfl, hlt, h⟩
  go_enter Try.func6, Try.ntmps6
  go_wp2_with fail
  refine (record_calls _ l w (by omega) hev hok).mono ?_; rintro e w1 ⟨b, rfl, hT1, hk1⟩
  have hTa := (hT1.mono (T := fun k => w.heap.size ≤ k ∧ k < w1.heap.size) (fun k hk h => ⟨h, hk⟩)).still ((Keeps.refl (fun _ => False) w1).alloc (.map #[] 0))
  have hka := hk1.alloc (.map #[] 0)
  have hma := World.ownsMap_made (H := Unit) w1 Try.prog 3 (plainElem Try.prog 4)
  have hsz1 := hk1.size
  clear hT1 hk1
  go_wp2_with fail
  go_loopw [5, 7, 19] (fun s _ i wr => ∃ k D, k ≤ l.length ∧ i = .int .i64 (k : Nat) ∧ s = .int .i64 (sumK l k : Nat) ∧ SeenOk D (l.take k) ∧ wr.ownsMap Try.prog 3 (plainElem Try.prog 4) w1.heap.size k D ∧ tapeAt wr (fun k => w.heap.size ≤ k ∧ k < w1.heap.size) b l ∧ Keeps (fun _ => False) w wr) (fun _ _ i _ => l.length - (intOf i).toNat)
  case atStart => exact ⟨0, .map [], Nat.zero_le _, rfl, by rw [sumK_zero]; rfl, SeenOk.start, hma, hTa, hka⟩
  case round =>
    obtain ⟨k, D, hk, rfl, rfl, hseen, hm, hT, hK⟩ := hrel
    have hsl := sumK_le l k
    by_cases hlk : k < l.length
    · obtain ⟨⟨x0, x1, x2⟩, hx⟩ : ∃ e, l[k]? = some e := ⟨l[k], by simp [hlk]⟩
      have hxo := hok _ (List.mem_of_getElem? hx)
      obtain ⟨p0, p1, p2⟩ := (h.keep hK hlt (fun h => h)) k _ hx
      have htk : l.take (k + 1) = l.take k ++ [(x0, x1, x2)] := by rw [List.take_add_one, hx]; rfl
      have hkey := keyOf_int_mk Try.underlying3 hxo.1
      have Hat := Lib.hid (hseen.2 x0 hxo.1)
      have hma2 := hm.alloc (.cells #[.int .i64 x0, .int .i64 x1, .int .i64 x2] 36)
      have hTa2 := hT.still ((Keeps.refl (fun _ => False) wr).alloc (.cells #[.int .i64 x0, .int .i64 x1, .int .i64 x2] 36))
      have hKa2 := hK.alloc (.cells #[.int .i64 x0, .int .i64 x1, .int .i64 x2] 36)
      have hmlt := hm.lt
      have hbox : (wr.alloc (.cells #[.int .i64 x0, .int .i64 x1, .int .i64 x2] 36)).cell? ⟨wr.heap.size, 0, none⟩ = some (.int .i64 x0) := by rw [cell_of_row _ _ 0 _ _ _ (heap_alloc_new wr _)]; rfl
      have hneq : some wr.heap.size ≠ some w1.heap.size := by simp; omega
      cases hs : seenE (l.take k) x0
      · have Hn := Lib.hid (sumK_new hx hs)
        have Hs := Lib.hid (show SeenOk (D.put (.int .i64 x0) (.lit (.bool true))) (l.take (k + 1)) by rw [htk]; exact hseen.new (x0, x1, x2))
        have hcl := cntE_le l x0
        have hat := Hat.out
        rw [hs] at hat
        have HAT := Lib.hid hat
        clear hat Hat htk hx hs hm hT hK
        go_wp2_with (first | (at_lookup; refine wpList_lookup_own_bool _ rfl _ _ 39 rfl 3 4 lawInt Try.underlying39 Try.underlying4 (zeroBool _) w1.heap.size k D rfl hma2 _ _ rfl hkey false HAT.out ?_) | (at_mapUpdate; refine wpList_mapUpdate_own _ rfl _ _ _ 39 rfl 3 4 lawInt Try.underlying39 _ w1.heap.size k D rfl hma2 (by unfold maxLen; omega) _ _ _ rfl rfl hkey _ [] (plainElem_bool Try.underlying4 true) ?_; intro w3 hown3 hgrow3; have hc3 := hgrow3.cell (a := ⟨wr.heap.size, 0, none⟩) hbox hneq))
        have hK3 : Keeps (fun k => k = w1.heap.size) (wr.alloc (.cells #[.int .i64 x0, .int .i64 x1, .int .i64 x2] 36)) w3 := (Keeps.refl _ _).grown hgrow3 (fun k e _ => by cases e; rfl)
        have hT3 : tapeAt w3 (fun k => w.heap.size ≤ k ∧ k < w1.heap.size) b l := hTa2.keep hK3 (fun k _ hk e => by omega)
        have hKw3 : Keeps (fun _ => False) w w3 := (hKa2.trans (T := fun k => k = w1.heap.size) (S := fun _ => False) hK3 (fun i hi e => by omega))
        refine (count_any _ _ l x0 _ hT3.ptr hxo.1).mono ?_; rintro e w4 ⟨rfl, rfl⟩
        clear hma2 hTa2 hKa2 hgrow3 hK3 hmlt hbox hneq hc3 p0 p1 p2
        go_wp2_with fail
        go_roundw
        case rel => exact ⟨k + 1, _, by omega, by go_num, by rw [Hn.out]; go_num, Hs.out, hown3, hT3, hKw3⟩
        case measure => simp [intOf]; omega
      · have Hn := Lib.hid (sumK_old hx hs)
        have Hs := Lib.hid (show SeenOk D (l.take (k + 1)) by rw [htk]; exact hseen.old hs)
        have hat := Hat.out
        rw [hs] at hat
        have HAT := Lib.hid hat
        clear hat Hat htk hx hs hm hT hK
        go_wp2_with (at_lookup; refine wpList_lookup_own_bool _ rfl _ _ 39 rfl 3 4 lawInt Try.underlying39 Try.underlying4 (zeroBool _) w1.heap.size k D rfl hma2 _ _ rfl hkey true HAT.out ?_)
        go_roundw
        case rel => exact ⟨k + 1, _, by omega, by go_num, by rw [Hn.out], Hs.out, hma2.mono (Nat.le_succ _), hTa2, hKa2⟩
        case measure => simp [intOf]; omega
    · have e : k = l.length := by omega
      subst e
      have HS := Lib.hid (sumK_all l)
      rw [HS.out]
      clear hseen hsl hm hka hma
      go_wp2_with fail
      refine (alive_calls _).mono ?_; rintro e w2 ⟨rfl, hk2⟩
      have hT2 := hT.still hk2
      have hK2 := hK.nil_trans hk2
      go_wp2_with fail
      refine (len_calls _ _ l _ hT2.ptr).mono ?_; rintro e w' ⟨rfl, n, rfl⟩
      go_wp2_with fail
      go_ret
      exact ⟨rfl, hK2.drewN _⟩
theorem sums_empty (ao : Option Addr) (cap : Nat) (w : World) :
    Calls Try.prog 6 #[.slice ao 0 cap] w (Yes w) := by
  have hmm := @run_makeMap Try.prog
  go_enter Try.func6, Try.ntmps6
  go_wp2_with fail
  refine (record_empty ao cap w).mono ?_; rintro e w1 ⟨b, rfl, hT1, hk1⟩
  have hTa := hT1.still ((Keeps.refl (fun _ => False) w1).alloc (.map #[] 0))
  have hka := hk1.alloc (.map #[] 0)
  clear hT1 hk1
  go_wp2_with fail
  refine wp_loop_rounds 1 ?_
  rw [rounds_succ]
  go_wp2_with fail
  refine (alive_calls _).mono ?_; rintro e w2 ⟨rfl, hk2⟩
  have hT2 := hTa.still hk2
  have hK2 := hka.nil_trans hk2
  go_wp2_with fail
  have cc := len_calls _ _ [] w2 hT2.ptr
  rw [List.length_nil] at cc
  refine cc.mono ?_; clear cc; rintro e w' ⟨rfl, n, rfl⟩
  go_wp2_with fail
  go_ret
  exact ⟨rfl, hK2.drewN _⟩
theorem sums_big (v : Value) (l : List Ev) (w : World) (h : evAt w v l) (hbig : 1000 < l.length) (hreach : l.length ≤ 9223372036854775807) :
    Calls Try.prog 6 #[v] w (Yes w) := by
  obtain ⟨ao, cap, rfl⟩ := h.shape
  go_enter Try.func6, Try.ntmps6
  go_wp2_with fail
  refine (alive_calls _).mono ?_; rintro e w1 ⟨rfl, hk1⟩
  go_wp2_with fail
  go_ret
  exact ⟨rfl, hk1⟩
theorem sums_law (v : Value) (l : List Ev) (w : World) (h : evAt w v l) (hok : ∀ e ∈ l, EvOk e) (hreach : l.length ≤ 9223372036854775807) :
    Calls Try.prog 6 #[v] w (Yes w) := by
  by_cases hbig : 1000 < l.length
  · exact sums_big v l w h hbig hreach
  · rcases h with ⟨rfl, ao, cap, rfl⟩ | ⟨_, b, off, cap, rfl, hlt, hc⟩
    · exact sums_empty ao cap w
    · exact sums_some b off cap l w hlt hc hok (by omega)
end Go.Proofs.Ytoefjgcehmcbcaa.tp

/- A region that draws its order: what is loaded may be taken first as long as no store that waits for it has come up. -/
import Derived.Test.YtmoajobnhiopiaaGreatDoorRound
import Derived.Deep.RegionHeld3
set_option linter.unusedSimpArgs false
set_option linter.unusedVariables false
namespace Go.Proofs.YtmoajobnhiopiaaGreatDoor.rg
open Go Go.RowKit Go.Shelf

/-- None of the late operations has come up. -/
def early (late : List Nat) (listed : Array Bool) : Bool := late.all fun j => !listed.getD j true
/-- Number j waits for number i, itself or through others. -/
def reach (md : Region.Mode) (ops : Array Oper) (i : Nat) : Nat → Nat → Bool
  | 0, _ => false
  | f + 1, j => match ops[j]? with
    | none => false
    | some o => o.after.any fun e => Region.binds md e && (e.on == i || reach md ops i f e.on)
/-- Each of the late operations waits for number i. -/
def waits (md : Region.Mode) (ops : Array Oper) (late : List Nat) (i : Nat) : Bool := late.all fun j => reach md ops i ops.size j
/-- Whoever has come up has waited. -/
def closed (md : Region.Mode) (ops : Array Oper) (listed : Array Bool) : Bool := (List.range ops.size).all fun j => !listed.getD j true || match ops[j]? with
  | none => true
  | some o => o.after.all fun e => !Region.binds md e || listed.getD e.on false
theorem early_spec {late : List Nat} {listed : Array Bool} : early late listed = true ↔ ∀ j ∈ late, listed.getD j true = false := by
  unfold early
  simp
theorem closed_spec {md : Region.Mode} {ops : Array Oper} {listed : Array Bool} (h : closed md ops listed = true) {j : Nat} {o : Oper} (ho : ops[j]? = some o) (hl : listed.getD j true = true) : ∀ e ∈ o.after, Region.binds md e = true → listed.getD e.on false = true := by
  have hlt : j < ops.size := (Array.getElem?_eq_some_iff.1 ho).1
  have := List.all_eq_true.1 h j (by rw [List.mem_range]; exact hlt)
  rw [hl, ho] at this
  simp only [Bool.not_true, Bool.false_or, Array.all_eq_true_iff_forall_mem] at this
  intro e he hb
  have h1 := this e he
  rw [hb] at h1
  simpa using h1
theorem closed_set {md : Region.Mode} {ops : Array Oper} {listed : Array Bool} (h : closed md ops listed = true) {j : Nat} (hj : j ∈ Region.ready md ops listed) : closed md ops (listed.setIfInBounds j true) = true := by
  obtain ⟨hjun, oj, hoj, hall⟩ := mem_ready.1 hj
  have mono : ∀ k, listed.getD k false = true → (listed.setIfInBounds j true).getD k false = true := by
    intro k hk
    by_cases hjk : j = k
    · subst hjk
      rcases Nat.lt_or_ge j listed.size with h' | h'
      · simp [h']
      · simp [Array.getElem?_eq_none h'] at hk
    · rw [getD_set_ne false hjk]; exact hk
  unfold closed
  rw [List.all_eq_true]
  intro k hk
  rw [List.mem_range] at hk
  rw [Bool.or_eq_true]
  by_cases hkl : (listed.setIfInBounds j true).getD k true = true
  · right
    cases ho : ops[k]? with
    | none => rfl
    | some o =>
      simp only [Array.all_eq_true_iff_forall_mem]
      intro e he
      rw [Bool.or_eq_true]
      by_cases hb : Region.binds md e = true
      · right
        by_cases hjk : j = k
        · subst hjk
          rw [hoj] at ho
          cases ho
          exact mono _ (hall e he hb)
        · rw [getD_set_ne true hjk] at hkl
          exact mono _ (closed_spec h ho hkl e he hb)
      · left; simpa using hb
  · left; simpa using hkl
theorem reach_not {md : Region.Mode} {ops : Array Oper} {listed : Array Bool} (h : closed md ops listed = true) {i : Nat} (hi : listed.getD i false = false) : ∀ (f j : Nat) (o : Oper), ops[j]? = some o → reach md ops i f j = true → ¬ ∀ e ∈ o.after, Region.binds md e = true → listed.getD e.on false = true
  | 0, _, _, _, hr, _ => by cases hr
  | f + 1, j, o, ho, hr, hall => by
    unfold reach at hr
    rw [ho] at hr
    simp only [Array.any_eq_true', Bool.and_eq_true, Bool.or_eq_true, beq_iff_eq] at hr
    obtain ⟨e, he, hb, hon⟩ := hr
    have hl := hall e he hb
    rcases hon with hon | hon
    · rw [hon, hi] at hl; cases hl
    · cases ho2 : ops[e.on]? with
      | none =>
        cases f with
        | zero => cases hon
        | succ f => unfold reach at hon; rw [ho2] at hon; cases hon
      | some o2 =>
        refine reach_not h hi f e.on o2 ho2 hon ?_
        have hl' : listed.getD e.on true = true := by
          rcases Nat.lt_or_ge e.on listed.size with h' | h'
          · simpa [h'] using hl
          · simp [Array.getElem?_eq_none h']
        exact closed_spec h ho2 hl'
section
variable {P : Program} {ops : Array Oper} {Q : Exit → Act → World → Prop} {md : Region.Mode} {S : World → Prop} {late : List Nat}

/-- Whatever order is picked from here on; S holds as long as none of the late operations has come up. -/
def wpAnyL (P : Program) (md : Region.Mode) (ops : Array Oper) (Q : Exit → Act → World → Prop) (S : World → Prop) (late : List Nat) : Nat → Array Bool → Act → World → Prop
  | 0, listed, a, w => Region.ready md ops listed = [] ∧ Q .normal a w
  | fuel + 1, listed, a, w =>
    (Region.ready md ops listed = [] → Q .normal a w) ∧
    ∀ i ∈ Region.ready md ops listed, wpOp P ops Q i (fun a' w' => (early late (listed.setIfInBounds i true) = true → S w') ∧ wpAnyL P md ops Q S late fuel (listed.setIfInBounds i true) a' w') a w
theorem wpAny_of_late : ∀ (fuel : Nat) (listed : Array Bool) (a : Act) (w : World), wpAnyL P md ops Q S late fuel listed a w → wpAny P md ops Q fuel listed a w
  | 0, _, _, _, h => h
  | fuel + 1, _, _, _, h => ⟨h.1, fun i hi => wpOp_mono (fun a' w' h' => wpAny_of_late fuel _ a' w' h'.2) (h.2 i hi)⟩
theorem early_set {listed : Array Bool} {i : Nat} (hi : i ∉ late) : early late (listed.setIfInBounds i true) = early late listed := by
  have : ∀ j ∈ late, (listed.setIfInBounds i true).getD j true = listed.getD j true := fun j hj => getD_set_ne true (fun h => hi (h ▸ hj))
  unfold early
  rw [Bool.eq_iff_iff, List.all_eq_true, List.all_eq_true]
  exact ⟨fun h j hj => by rw [← this j hj]; exact h j hj, fun h j hj => by rw [this j hj]; exact h j hj⟩

theorem wpAnyL_first {i : Nat} {oi : Oper} {v : Value} (hi : ops[i]? = some oi) (hsel : ∀ (j : Nat) (o : Oper) cs b, ops[j]? = some o → o.op ≠ .select cs b)
    (hQ : ∀ c a w, Q (.panic c) (a.put oi.dst v) w → Q (.panic c) a w) (T : World → Prop) (hil : i ∉ late) :
    ∀ (fuel : Nat) (listed : Array Bool) (a : Act) (w : World),
      (∀ j oj, ops[j]? = some oj → j ≠ i → listed.getD j true = false → (∀ e ∈ oj.after, Region.binds md e = true → e.on ≠ i) → oi.apart ops oj = true) →
      i ∈ Region.ready md ops listed → YieldsIf P ops T oi v a → T w → (early late listed = true → S w) →
      ((∀ w, T w) ∨ (T = S ∧ waits md ops late i = true ∧ early late listed = true ∧ closed md ops listed = true)) →
      wpAnyL P md ops Q S late fuel (listed.setIfInBounds i true) (a.put oi.dst v) w → wpAnyL P md ops Q S late (fuel + 1) listed a w := by
  intro fuel
  induction fuel with
  | zero =>
    intro listed a w _ hr hy hT hS _ H
    refine ⟨fun h => (by rw [h] at hr; cases hr), fun j hj => ?_⟩
    by_cases hji : j = i
    · subst hji; exact hy.wpOp hi hT ⟨fun h => hS (by rwa [early_set hil] at h), H⟩
    · have := ready_mono hj hji
      rw [H.1] at this
      cases this
  | succ fuel ih =>
    intro listed a w hfree hr hy hT hS hcase H
    refine ⟨fun h => (by rw [h] at hr; cases hr), fun j hj => ?_⟩
    by_cases hji : j = i
    · subst hji; exact hy.wpOp hi hT ⟨fun h => hS (by rwa [early_set hil] at h), H⟩
    · have h1 := H.2 j (ready_mono hj hji)
      obtain ⟨hjun, oj, hoj, hall⟩ := mem_ready.1 hj
      have hnot : ∀ e ∈ oj.after, Region.binds md e = true → e.on ≠ i := fun e he hb heq => by
        have h1 := hall e he hb
        have h0 := (mem_ready.1 hr).1
        rw [heq] at h1
        rcases Nat.lt_or_ge i listed.size with h' | h'
        · simp [h'] at h0 h1; rw [h0] at h1; cases h1
        · simp [Array.getElem?_eq_none h'] at h1
      have h2 := wpOp_putIf hoj (hfree j oj hoj hji hjun hnot) (fun cs b => hsel i oi cs b hi) (fun cs b => hsel j oj cs b hoj) hQ hy h1
      have hfree' : ∀ k ok, ops[k]? = some ok → k ≠ i → (listed.setIfInBounds j true).getD k true = false →
          (∀ e ∈ ok.after, Region.binds md e = true → e.on ≠ i) → oi.apart ops ok = true := fun k ok hk hki hun hno => by
        refine hfree k ok hk hki ?_ hno
        by_cases hjk : j = k
        · subst hjk; exact hjun
        · rw [getD_set_ne true hjk] at hun; exact hun
      have hcomm : early late ((listed.setIfInBounds i true).setIfInBounds j true) = early late (listed.setIfInBounds j true) := by
        rw [Array.setIfInBounds_comm _ _ (fun h => hji h.symm), early_set hil]
      have hcase' : (∀ w, T w) ∨ (T = S ∧ waits md ops late i = true ∧ early late (listed.setIfInBounds j true) = true ∧ closed md ops (listed.setIfInBounds j true) = true) := by
        rcases hcase with h | ⟨h1, h2, h3, h4⟩
        · exact .inl h
        · refine .inr ⟨h1, h2, ?_, closed_set h4 hj⟩
          rw [early_set (fun hjl => ?_)]
          · exact h3
          · have h0 := (mem_ready.1 hr).1
            have h0' : listed.getD i false = false := by
              rcases Nat.lt_or_ge i listed.size with h' | h'
              · simpa [h'] using h0
              · simp [Array.getElem?_eq_none h']
            exact reach_not h4 h0' _ j oj hoj (List.all_eq_true.1 h2 j hjl) hall
      refine wpOp_mono (fun a' w' h3 => ⟨fun he => h3.2.1 (by rw [hcomm]; exact he), ih (listed.setIfInBounds j true) a' w' hfree' (ready_mono hr (Ne.symm hji)) h3.1 ?_ (fun he => h3.2.1 (by rw [hcomm]; exact he)) hcase' ?_⟩) h2
      · rcases hcase' with h | ⟨h1, _, h4, _⟩
        · exact h _
        · rw [h1]; exact h3.2.1 (by rw [hcomm]; exact h4)
      · rw [Array.setIfInBounds_comm _ _ hji]
        exact h3.2.2
/-- Take number i first: it may come up, yields v as long as S holds, and the late operations wait for it. -/
theorem wpAnyL_take {i : Nat} {oi : Oper} {v : Value} {fuel : Nat} {listed : Array Bool} {a : Act} {w : World} (hi : ops[i]? = some oi)
    (hs : Region.noSelect ops = true) (hf : Region.free md ops listed i = true) (hr : (Region.ready md ops listed).contains i = true)
    (hw : (!late.contains i && waits md ops late i && early late listed && closed md ops listed) = true)
    (hQ : ∀ c a w, Q (.panic c) (a.put oi.dst v) w → Q (.panic c) a w) (hy : YieldsIf P ops S oi v a) (hS : S w)
    (h : wpAnyL P md ops Q S late fuel (listed.setIfInBounds i true) (a.put oi.dst v) w) : wpAnyL P md ops Q S late (fuel + 1) listed a w := by
  simp only [Bool.and_eq_true, Bool.not_eq_true', List.contains_eq_mem, decide_eq_false_iff_not] at hw
  exact wpAnyL_first hi (Region.noSelect_spec hs) hQ S hw.1.1.1 fuel listed a w (Region.free_spec hi hf) (by simpa using hr) hy hS (fun _ => hS) (.inr ⟨rfl, hw.1.1.2, hw.1.2, hw.2⟩) h
/-- Take number i first: it may come up and yields v in whatever world. -/
theorem wpAnyL_any {i : Nat} {oi : Oper} {v : Value} {fuel : Nat} {listed : Array Bool} {a : Act} {w : World} (hi : ops[i]? = some oi)
    (hs : Region.noSelect ops = true) (hf : Region.free md ops listed i = true) (hr : (Region.ready md ops listed).contains i = true)
    (hw : late.contains i = false)
    (hQ : ∀ c a w, Q (.panic c) (a.put oi.dst v) w → Q (.panic c) a w) (hy : YieldsIf P ops (fun _ => True) oi v a) (hS : early late listed = true → S w)
    (h : wpAnyL P md ops Q S late fuel (listed.setIfInBounds i true) (a.put oi.dst v) w) : wpAnyL P md ops Q S late (fuel + 1) listed a w := by
  simp only [List.contains_eq_mem, decide_eq_false_iff_not] at hw
  exact wpAnyL_first hi (Region.noSelect_spec hs) hQ (fun _ => True) hw fuel listed a w (Region.free_spec hi hf) (by simpa using hr) hy trivial hS (.inl fun _ => trivial) h
/-- .. where a late one has come up. -/
theorem wpAnyL_after {i : Nat} {oi : Oper} {v : Value} {fuel : Nat} {listed : Array Bool} {a : Act} {w : World} (hi : ops[i]? = some oi)
    (hs : Region.noSelect ops = true) (hf : Region.free md ops listed i = true) (hr : (Region.ready md ops listed).contains i = true)
    (hw : late.contains i = false) (hl : early late listed = false)
    (hQ : ∀ c a w, Q (.panic c) (a.put oi.dst v) w → Q (.panic c) a w) (hy : YieldsIf P ops (fun _ => True) oi v a)
    (h : wpAnyL P md ops Q S late fuel (listed.setIfInBounds i true) (a.put oi.dst v) w) : wpAnyL P md ops Q S late (fuel + 1) listed a w :=
  wpAnyL_any hi hs hf hr hw hQ hy (fun h => by rw [hl] at h; cases h) h
theorem wpAnyL_done {listed : Array Bool} {a : Act} {w : World} (hr : Region.ready md ops listed = []) (h : Q .normal a w) :
    ∀ fuel, wpAnyL P md ops Q S late fuel listed a w
  | 0 => ⟨hr, h⟩
  | _ + 1 => ⟨fun _ => h, by rw [hr]; simp⟩
/-- Number i comes up next, and S holds behind it. -/
theorem wpAnyL_next {i : Nat} {o : Oper} {fuel : Nat} {listed : Array Bool} {a : Act} {w : World} (hr : Region.ready md ops listed = [i]) (ho : ops[i]? = some o)
    (h : ∀ K' : Act → World → Prop, Shut (∀ a w, S w → (S w → wpAnyL P md ops Q S late fuel (listed.setIfInBounds i true) a w) → K' a w) → if Region.wanted o (yielded ops a.tmps) = true then Oper.wp P o a w K' Q else K' (a.put o.dst undef) w) :
    wpAnyL P md ops Q S late (fuel + 1) listed a w :=
  ⟨fun h0 => (by rw [hr] at h0; cases h0), fun j hj => by
    rw [hr, List.mem_singleton] at hj
    subst hj
    exact wpOp_step ho (fun K' hK => h K' (fun a w hS hW => hK a w ⟨fun _ => hS, hW hS⟩))⟩
/-- A late operation comes up next: S is no more. -/
theorem wpAnyL_late {i : Nat} {o : Oper} {fuel : Nat} {listed : Array Bool} {a : Act} {w : World} (hr : Region.ready md ops listed = [i]) (ho : ops[i]? = some o) (hl : early late (listed.setIfInBounds i true) = false)
    (h : ∀ K' : Act → World → Prop, Shut (∀ a w, (True → wpAnyL P md ops Q S late fuel (listed.setIfInBounds i true) a w) → K' a w) → if Region.wanted o (yielded ops a.tmps) = true then Oper.wp P o a w K' Q else K' (a.put o.dst undef) w) :
    wpAnyL P md ops Q S late (fuel + 1) listed a w :=
  ⟨fun h0 => (by rw [hr] at h0; cases h0), fun j hj => by
    rw [hr, List.mem_singleton] at hj
    subst hj
    exact wpOp_step ho (fun K' hK => h K' (fun a w hW => hK a w ⟨fun he => (by rw [hl] at he; cases he), hW trivial⟩))⟩
/-- The beginning. -/
theorem wp_region_late {id : Nat} {a : Act} {w : World} (S : World → Prop) (late : List Nat) (hm : P.follows .mixedOrders = true)
    (h : wpAnyL P .any ops (NoPanic Q) S late ops.size (Array.replicate ops.size false) a w.drew) : (Code.region id ops true).wp P Q a w :=
  wp_region_noPanic (wp_region_any hm (wpAny_of_late _ _ _ _ h))
/-- .. in a round. -/
theorem round_region_late {n L : Nat} {id : Nat} {a : Act} {w : World} (S : World → Prop) (late : List Nat) (hm : P.follows .mixedOrders = true) (hn : noDefer ops = true) (hQ : ¬ LetsOut Q)
    (h : wpAnyL P .any ops Q S late ops.size (Array.replicate ops.size false) a w.drew) : (Code.region id ops true).wpIn (Fence.wide.inRound L) n P Q a w :=
  wpIn_region_any hm (anyIn_of hn hQ _ _ _ _ (wpAny_of_late _ _ _ _ h))
end
end Go.Proofs.YtmoajobnhiopiaaGreatDoor.rg

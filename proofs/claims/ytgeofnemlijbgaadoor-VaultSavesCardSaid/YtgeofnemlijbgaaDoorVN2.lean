/- A last operation, which waits for all others, taken off a region that draws its order. Plain: over any program. -/
import Derived.Test.YtgeofnemlijbgaaDoorVN1
namespace Go.Proofs.YtgeofnemlijbgaaDoor
open Go.RowKit

section
variable {P : Program} {ops : Array Oper} {Q : Exit → Act → World → Prop} {S : World → Prop}

/-- What is wanted of the others where m is the last: behind them m is done. -/
def lastQ (P : Program) (ops : Array Oper) (m : Nat) (Q : Exit → Act → World → Prop) : Exit → Act → World → Prop
  | .normal, a, w => wpOp P ops Q m (Q .normal) a w
  | e, a, w => Q e a w

theorem upon_last {m : Nat} {o : Oper} {a : Act} {K : Act → World → Prop} {r : Result Next} (h : o.upon P a K (lastQ P ops m Q) r) : o.upon P a K Q r := by
  cases r with
  | ok n w =>
    cases n with
    | enter f args =>
      refine Calls.mono (P := P) (f := f) (args := args) h fun e w' he => ?_
      cases e with
      | returned u => exact he
      | panicked c => exact he
      | outgrown => obtain ⟨a', w'', q⟩ := he; exact ⟨a', w'', q⟩
    | value u => exact h
    | skip => exact h
    | defer d => exact h
    | row r args => exact h
    | _ => exact h
  | halt x w => cases x <;> exact h

theorem wpOp_last {m j : Nat} {K : Act → World → Prop} {a : Act} {w : World} (h : wpOp P ops (lastQ P ops m Q) j K a w) : wpOp P ops Q j K a w := by
  unfold wpOp at *
  cases ho : ops[j]? with
  | none => simpa only [ho] using h
  | some o =>
    simp only [ho] at h ⊢
    split
    · rename_i hw
      rw [if_pos hw] at h
      rcases h with h | ⟨h1, h2⟩
      · exact .inl (upon_last h)
      · obtain ⟨a', w', q⟩ := h2
        exact .inr ⟨h1, a', w', q⟩
    · rename_i hw
      rw [if_neg hw] at h
      exact h

/-- Every edge goes down; every operation but m is waited for by a later one. -/
def lastOk (ops : Array Oper) (m : Nat) : Bool :=
  (List.range ops.size).all fun i =>
    (((ops[i]?).map fun o => o.after.toList.all fun e => decide (e.on < i)).getD false) &&
    (decide (i = m) || (List.range ops.size).any fun k => decide (i < k) && ((ops[k]?).map fun o => o.after.toList.any fun e => Region.binds .any e && decide (e.on = i)).getD false)
theorem lastOk_spec {m : Nat} (h : lastOk ops m = true) {i : Nat} (hi : i < ops.size) :
    (∃ o, ops[i]? = some o ∧ ∀ e ∈ o.after, e.on < i) ∧ (i = m ∨ ∃ k o, i < k ∧ k < ops.size ∧ ops[k]? = some o ∧ ∃ e ∈ o.after, Region.binds .any e = true ∧ e.on = i) := by
  unfold lastOk at h
  have := List.all_eq_true.1 h i (List.mem_range.2 hi)
  simp only [Bool.and_eq_true, Bool.or_eq_true, decide_eq_true_eq] at this
  obtain ⟨h1, h2⟩ := this
  refine ⟨?_, ?_⟩
  · cases ho : ops[i]? with
    | none => simp [ho] at h1
    | some o =>
      simp only [ho, Option.map_some, Option.getD_some, List.all_eq_true, Array.mem_toList_iff, decide_eq_true_eq] at h1
      exact ⟨o, rfl, h1⟩
  · rcases h2 with h2 | h2
    · exact .inl h2
    · obtain ⟨k, hk, h3⟩ := List.any_eq_true.1 h2
      rw [List.mem_range] at hk
      simp only [Bool.and_eq_true, decide_eq_true_eq] at h3
      obtain ⟨hik, h3⟩ := h3
      cases ho : ops[k]? with
      | none => simp [ho] at h3
      | some o =>
        simp only [ho, Option.map_some, Option.getD_some, List.any_eq_true, Array.mem_toList_iff, Bool.and_eq_true, decide_eq_true_eq] at h3
        obtain ⟨e, he, hb, hon⟩ := h3
        exact .inr ⟨k, o, hik, hk, ho, e, he, hb, hon⟩

/-- Who is listed, those that he waits for are too. -/
def Shutd (ops : Array Oper) (L : Array Bool) : Prop := ∀ i o, ops[i]? = some o → L.getD i false = true → ∀ e ∈ o.after, Region.binds .any e = true → L.getD e.on false = true
theorem Shutd.set_ {L : Array Bool} {j : Nat} (h : Shutd ops L) (hj : j ∈ Region.ready .any ops L) : Shutd ops (L.setIfInBounds j true) := by
  intro i o ho hi e he hb
  obtain ⟨_, oj, hoj, hall⟩ := mem_ready.1 hj
  by_cases hij : i = j
  · subst hij
    rw [ho] at hoj
    injection hoj with hoj
    subst hoj
    exact getD_set_true (hall e he hb)
  · rw [getD_set_ne false (Ne.symm hij)] at hi
    exact getD_set_true (h i o ho hi e he hb)
theorem getD_ft {L : Array Bool} {i : Nat} (h : L.getD i false = true) : L.getD i true = true := by
  rcases Nat.lt_or_ge i L.size with h' | h'
  · simpa [h'] using h
  · simp [Array.getElem?_eq_none h']
/-- Where m may come up, all others have. -/
theorem last_all {m : Nat} (hok : lastOk ops m = true) {L : Array Bool} (hs : Shutd ops L) (hm : m ∈ Region.ready .any ops L) :
    ∀ d i, ops.size - i ≤ d → i < ops.size → i ≠ m → L.getD i false = true := by
  obtain ⟨_, om, hom, hall⟩ := mem_ready.1 hm
  intro d
  induction d with
  | zero => intro i hd hi; omega
  | succ d ih =>
    intro i hd hi him
    rcases (lastOk_spec hok hi).2 with h | ⟨k, o, hik, hk, ho, e, he, hb, rfl⟩
    · exact absurd h him
    · by_cases hkm : k = m
      · subst hkm
        rw [hom] at ho
        injection ho with ho
        subst ho
        exact hall e he hb
      · exact hs k o ho (ih k (by omega) hk hkm) e he hb
theorem last_ready {m : Nat} (hok : lastOk ops m = true) {L : Array Bool} (hs : Shutd ops L) (hm : m ∈ Region.ready .any ops L) : Region.ready .any ops (L.setIfInBounds m true) = [] := by
  rw [List.eq_nil_iff_forall_not_mem]
  intro i hi
  obtain ⟨hu, o, ho, _⟩ := mem_ready.1 hi
  have hlt := (Array.getElem?_eq_some_iff.1 ho).1
  by_cases him : i = m
  · subst him
    have h0 := (mem_ready.1 hm).1
    rcases Nat.lt_or_ge i L.size with h' | h'
    · simp [h'] at hu
    · simp [Array.getElem?_eq_none h'] at h0
  · rw [getD_set_ne true (Ne.symm him)] at hu
    have := getD_ft (last_all hok hs hm _ i (Nat.le_refl _) hlt him)
    rw [this] at hu
    cases hu
/-- As long as m has not come up, one may come up. -/
theorem last_some {m : Nat} (hok : lastOk ops m = true) {L : Array Bool} (hm : m < ops.size) (hu : L.getD m true = false) : Region.ready .any ops L ≠ [] := by
  intro h
  have key : ∀ d i, i ≤ d → i < ops.size → L.getD i false = true := by
    intro d
    induction d with
    | zero =>
      intro i hi hs
      obtain ⟨⟨o, ho, hd⟩, _⟩ := lastOk_spec hok hs
      rcases Bool.eq_false_or_eq_true (L.getD i true) with ht | ht
      · rcases Nat.lt_or_ge i L.size with h' | h'
        · simpa [h'] using ht
        · exfalso
          rcases Nat.lt_or_ge m L.size with h2 | h2
          · omega
          · simp [Array.getElem?_eq_none h2] at hu
      · exfalso
        have : i ∈ Region.ready .any ops L := mem_ready.2 ⟨ht, o, ho, fun e he _ => by have := hd e he; omega⟩
        rw [h] at this
        cases this
    | succ d ih =>
      intro i hi hs
      obtain ⟨⟨o, ho, hd⟩, _⟩ := lastOk_spec hok hs
      rcases Bool.eq_false_or_eq_true (L.getD i true) with ht | ht
      · rcases Nat.lt_or_ge i L.size with h' | h'
        · simpa [h'] using ht
        · exfalso
          rcases Nat.lt_or_ge m L.size with h2 | h2
          · have hmi : m ≤ d ∨ m = d + 1 := by omega
            rcases hmi with hmi | hmi
            · have := getD_ft (ih m hmi hm)
              rw [this] at hu
              cases hu
            · omega
          · simp [Array.getElem?_eq_none h2] at hu
      · exfalso
        have : i ∈ Region.ready .any ops L := mem_ready.2 ⟨ht, o, ho, fun e he _ => ih e.on (by have := hd e he; omega) (by have := hd e he; omega)⟩
        rw [h] at this
        cases this
  have := getD_ft (key m m (Nat.le_refl _) hm)
  rw [this] at hu
  cases hu

theorem wpAny_last {m : Nat} (hok : lastOk ops m = true) (hms : m < ops.size) : ∀ (fuel : Nat) (L : Array Bool) (a : Act) (w : World), Shutd ops L → L.getD m true = false →
    wpAnyH P .any ops (lastQ P ops m Q) S fuel (L.setIfInBounds m true) a w → wpAny P .any ops Q (fuel + 1) L a w := by
  intro fuel
  induction fuel with
  | zero =>
    intro L a w hs hu H
    refine ⟨fun h => absurd h (last_some hok hms hu), fun j hj => ?_⟩
    by_cases hjm : j = m
    · subst hjm
      refine wpOp_mono (fun a' w' q => ?_) (show wpOp P ops Q j (Q .normal) a w from H.2)
      exact ⟨last_ready hok hs hj, q⟩
    · have := ready_mono hj hjm
      rw [H.1] at this
      cases this
  | succ fuel ih =>
    intro L a w hs hu H
    refine ⟨fun h => absurd h (last_some hok hms hu), fun j hj => ?_⟩
    by_cases hjm : j = m
    · subst hjm
      have hr := last_ready hok hs hj
      refine wpOp_mono (fun a' w' q => ?_) (show wpOp P ops Q j (Q .normal) a w from H.1 hr)
      exact ⟨fun _ => q, by rw [hr]; simp⟩
    · refine wpOp_mono (fun a' w' h3 => ih (L.setIfInBounds j true) a' w' (hs.set_ hj) (by rw [getD_set_ne true hjm]; exact hu) ?_) (wpOp_last (H.2 j (ready_mono hj hjm)))
      rw [Array.setIfInBounds_comm _ _ hjm]
      exact h3.2

/-- The beginning: m is the last of the region; S is shown behind each of the others, and not behind m. -/
theorem region_last {id : Nat} {a : Act} {w : World} (n : Nat) (hm : P.follows .mixedOrders = true) (hn : ops.size = n + 1) (hok : lastOk ops n = true) (hS : S w.drew)
    (h : S w.drew → wpAnyH P .any ops (lastQ P ops n Q) S n ((Array.replicate (n + 1) false).setIfInBounds n true) a w.drew) : (Code.region id ops true).wp P Q a w := by
  refine wp_region_any hm ?_
  have hms : n < ops.size := by omega
  rw [hn]
  refine wpAny_last hok hms n _ a _ (fun i o _ hi => ?_) (by simp) (h hS)
  rcases Nat.lt_or_ge i (n + 1) with h' | h' <;> simp [h'] at hi
/-- The end: m itself. -/
theorem last_step {m : Nat} {o : Oper} {a : Act} {w : World} (ho : ops[m]? = some o)
    (h : ∀ K' : Act → World → Prop, Shut (∀ a w, Q .normal a w → K' a w) → if Region.wanted o (yielded ops a.tmps) = true then Oper.wp P o a w K' Q else K' (a.put o.dst undef) w) : lastQ P ops m Q .normal a w :=
  wpOp_step ho (fun K' hK => h K' (fun a w q => hK a w q))
end
end Go.Proofs.YtgeofnemlijbgaaDoor

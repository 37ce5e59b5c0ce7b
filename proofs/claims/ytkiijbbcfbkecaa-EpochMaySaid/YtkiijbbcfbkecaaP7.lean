/- Whatever is done to a book keeps what it had. Plain Lean: no program here. -/
import Derived.Test.YtkiijbbcfbkecaaP3
namespace Go.Proofs.Ytkiijbbcfbkecaa
open Go.RowKit

/-- Entry y is x, kept. -/
structure KeptE (x y : Ent) : Prop where
  label : y.label = x.label
  ver : y.ver = x.ver
  ep : x.ep = 0 ∨ x.ep = y.ep
  er : x.er = true → y.er = true
  value : y.er = true ∨ y.value = x.value
theorem KeptE.refl (x : Ent) : KeptE x x := ⟨rfl, rfl, .inr rfl, id, .inr rfl⟩
/-- Book k2 is k, with what was done to it; as it was if there was an error. -/
structure Kept (k k2 : Bk) (e : Int) : Prop where
  ck : checkBk k2 = true
  err : e ≠ 0 → k2 = k
  le : k.ents.length ≤ k2.ents.length
  ge : k2.ents.length ≤ k.ents.length + 1
  at_ : ∀ (i : Nat) (x : Ent), k.ents[i]? = some x → ∃ y, k2.ents[i]? = some y ∧ KeptE x y
theorem Kept.same {k : Bk} (h : checkBk k = true) (e : Int) : Kept k k e := ⟨h, fun _ => rfl, Nat.le_refl _, by omega, fun i x hx => ⟨x, hx, KeptE.refl x⟩⟩
theorem kept_pub {k : Bk} (h : checkBk k = true) (lab val : List UInt8) : Kept k (pubK k lab val) (pubE k lab val) := by
  by_cases h0 : pubE k lab val = 0
  · refine ⟨pub_check lab val h, fun hn => absurd h0 hn, ?_, ?_, fun i x hx => ⟨x, ?_, KeptE.refl x⟩⟩
    · unfold pubK; rw [if_pos h0]; simp
    · unfold pubK; rw [if_pos h0]; simp
    · unfold pubK; rw [if_pos h0]; dsimp only
      rw [List.getElem?_append_left (List.getElem?_eq_some_iff.1 hx).1]
      exact hx
  · have : pubK k lab val = k := by unfold pubK; rw [if_neg h0]
    rw [this]
    exact Kept.same h _
theorem kept_tick {k : Bk} (h : checkBk k = true) : Kept k (tickK k) (tickE k) := by
  by_cases h0 : tickE k = 0
  · have hk : tickK k = ⟨tkL k.ents (k.eps + 1) k.ents.length, k.eps + 1⟩ := by unfold tickK; rw [if_pos h0]
    refine ⟨tick_check h, fun hn => absurd h0 hn, ?_, ?_, fun i x hx => ?_⟩
    · rw [hk]; dsimp only; rw [tkL_len]; exact Nat.le_refl _
    · rw [hk]; dsimp only; rw [tkL_len]; omega
    · rw [hk]
      dsimp only
      rw [tkL_get, hx]
      refine ⟨_, rfl, ?_⟩
      split
      · rename_i hm
        obtain ⟨_, y, hy, hy0⟩ := tkP_mem _ _ i hm
        rw [hx] at hy
        injection hy with hy
        subst hy
        exact ⟨rfl, rfl, .inl hy0, id, .inr rfl⟩
      · exact KeptE.refl x
  · have : tickK k = k := by unfold tickK; rw [if_neg h0]
    rw [this]
    exact Kept.same h _
theorem kept_era {k : Bk} (h : checkBk k = true) (lab : List UInt8) (ver : Int) : Kept k (eraK k lab ver) (eraE k lab ver) := by
  by_cases h0 : eraE k lab ver = 0
  · obtain ⟨_, i, x, hg, hx, hx0, he⟩ := era_zero h0
    have hk : eraK k lab ver = ⟨k.ents.set i { x with er := true, value := [] }, k.eps⟩ := by
      unfold eraK; rw [if_pos h0, hg, Option.getD_some, he]
    refine ⟨era_check lab ver h, fun hn => absurd h0 hn, ?_, ?_, fun j y hy => ?_⟩
    · rw [hk]; dsimp only; rw [List.length_set]; exact Nat.le_refl _
    · rw [hk]; dsimp only; rw [List.length_set]; omega
    · rw [hk]
      dsimp only
      by_cases hij : i = j
      · subst hij
        rw [hx] at hy
        injection hy with hy
        subst hy
        exact ⟨_, List.getElem?_set_self (List.getElem?_eq_some_iff.1 hx).1, rfl, rfl, .inr rfl, fun _ => rfl, .inl rfl⟩
      · exact ⟨y, by rw [List.getElem?_set_ne hij]; exact hy, KeptE.refl y⟩
  · have : eraK k lab ver = k := by unfold eraK; rw [if_neg h0]
    rw [this]
    exact Kept.same h _
end Go.Proofs.Ytkiijbbcfbkecaa

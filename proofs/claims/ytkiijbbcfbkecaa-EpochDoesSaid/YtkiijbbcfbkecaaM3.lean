/- Steps in memory: a slice of steps that reads as a list. -/
import Derived.Test.YtkiijbbcfbkecaaM0
namespace Go.Proofs.Ytkiijbbcfbkecaa
open Go.RowKit
set_option linter.unusedVariables false

structure Stp where
  kind : UInt8
  label : List UInt8
  value : List UInt8
  ver : Int
/-- A slice of steps reads as l. -/
def Stps (w : World) (B : Nat) (A : Option Addr) (n : Nat) (l : List Stp) : Prop :=
  l.length = n ∧ ∃ xs : List Value, Rd w B A (n * 4) xs ∧ ∀ (i : Nat) (x : Stp), l[i]? = some x → ∃ vl vv, xs[i * 4]? = some (.int .u8 (x.kind.toNat : Int)) ∧ xs[i * 4 + 1]? = some vl ∧ Bs w B vl x.label ∧ xs[i * 4 + 2]? = some vv ∧ Bs w B vv x.value ∧
    xs[i * 4 + 3]? = some (.int .i64 x.ver)
section
variable {w w' : World} {B B' n : Nat} {A : Option Addr} {l : List Stp}
theorem Stps.keep (h : Stps w B A n l) (hk : ∀ p : Addr, p.block < B → w'.cell? p = w.cell? p) : Stps w' B A n l := by
  obtain ⟨h0, xs, h1, h2⟩ := h
  refine ⟨h0, xs, h1.keep hk, fun i x hx => ?_⟩
  obtain ⟨vl, vv, g1, g2, g3, g4, g5, g6⟩ := h2 i x hx
  exact ⟨vl, vv, g1, g2, g3.keep hk, g4, g5.keep hk, g6⟩
theorem Stps.more (h : Stps w B A n l) (hB : B ≤ B') : Stps w B' A n l := by
  obtain ⟨h0, xs, h1, h2⟩ := h
  refine ⟨h0, xs, h1.more hB, fun i x hx => ?_⟩
  obtain ⟨vl, vv, g1, g2, g3, g4, g5, g6⟩ := h2 i x hx
  exact ⟨vl, vv, g1, g2, g3.more hB, g4, g5.more hB, g6⟩
theorem Stps.below (h : Stps w B A n l) (hb : Below B w w') : Stps w' B A n l := h.keep fun _ hp => hb.cell hp
/-- Step k: its cells. -/
theorem Stps.at_ {k : Nat} (h : Stps w B A n l) (hk : k < n) : ∃ b o x Al cl Av cv, A = some ⟨b, o, none⟩ ∧ b < B ∧ l[k]? = some x ∧ w.cell? ⟨b, o + k * 4, none⟩ = some (.int .u8 (x.kind.toNat : Int)) ∧ w.cell? ⟨b, o + k * 4 + 1, none⟩ = some (.slice Al x.label.length cl) ∧
    w.cell? ⟨b, o + k * 4 + 2, none⟩ = some (.slice Av x.value.length cv) ∧ w.cell? ⟨b, o + k * 4 + 3, none⟩ = some (.int .i64 x.ver) ∧
    x.label.length ≤ cl ∧ cl ≤ maxLen ∧ Rd w B Al x.label.length (bvs x.label) ∧ x.value.length ≤ cv ∧ cv ≤ maxLen ∧ Rd w B Av x.value.length (bvs x.value) := by
  obtain ⟨h0, xs, h1, h2⟩ := h
  obtain ⟨⟨b, o, sp⟩, e, hb, hc⟩ := h1.2 (by omega)
  have hx : l[k]? = some (l[k]'(by omega)) := List.getElem?_eq_getElem _
  obtain ⟨vl, vv, g1, g3, ⟨Al, cl, rfl, p1, p2, p3⟩, g5, ⟨Av, cv, rfl, q1, q2, q3⟩, g7⟩ := h2 k _ hx
  have c1 := hc _ _ g1
  have c2 := hc _ _ g3
  have c3 := hc _ _ g5
  have c4 := hc _ _ g7
  have hx0 : l[0]? = some (l[0]'(by omega)) := List.getElem?_eq_getElem _
  obtain ⟨v0, _, k0, _⟩ := h2 0 _ hx0
  have hsp : sp = none := by simpa [Addr.add] using World.cell?_spot (hc _ _ k0)
  subst hsp
  rw [Addr.add_lit] at c1 c2 c3 c4
  exact ⟨b, o, _, Al, cl, Av, cv, e, hb, hx, c1, c2, c3, c4, p1, p2, p3, q1, q2, q3⟩
end
end Go.Proofs.Ytkiijbbcfbkecaa

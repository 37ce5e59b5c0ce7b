/- bytes.Equal, bytes.Clone, epoch.item, commit.Check. -/
import Derived.Test.YtkiijbbcfbkecaaRows
import Derived.Test.YtkiijbbcfbkecaaM0
import Derived.Test.YtkiijbbcfbkecaaLaws
import Derived.WalkKit
import Derived.WalkSpells
import Derived.WalkLawsBesides
import Derived.Lib.Hide
namespace Go.Proofs.Ytkiijbbcfbkecaa
open Go.RowKit
set_option linter.unusedVariables false

theorem infoTB : (Try.prog.info? 5).map (fun i => (i.zero, i.size, i.bytes)) = some (some (.int .u8 0), 1, 1) := by kernel_rfl
theorem ret_b {a b : Bool} (h : a = b) : Ending.returned (.bool a) = .returned (.bool b) := by rw [h]
theorem ret_i {a b : Int} (h : a = b) : Ending.returned (.int .i64 a) = .returned (.int .i64 b) := by rw [h]
/-- 'string(b)' of bytes that read as l. -/
theorem conv_rd {w : World} {B : Nat} {A : Option Addr} {l : List UInt8} (h : Rd w B A l.length (bvs l)) (c : Nat) : (convert 26 9 (.slice A l.length c)).run Try.prog w = .ok (.string ⟨l.toArray⟩) w := by
  rcases A with _ | ad
  · have hl : l = [] := by
      cases l with
      | nil => rfl
      | cons b t => obtain ⟨ad, h', _⟩ := h.2 (by simp); cases h'
    subst hl
    show Sem.run Try.prog (convert 26 9 (.slice none 0 c)) w = _
    rw [run_convert_bytes_string w _ _ 5 none 0 c Try.underlying26 Try.underlying5 Try.underlying9]
    simp [Conv.bytesToString]
    rfl
  · refine run_convert_bytes_back w _ _ 5 ad c l Try.underlying26 Try.underlying5 Try.underlying9 (fun j hj => ?_)
    obtain ⟨ad', e, _, hc⟩ := h.2 (by omega)
    injection e with e
    subst e
    exact hc j _ (bvs_get hj)
def eqB (l l' : List UInt8) : Bool := decide (l = l')
theorem equal_any (A A' : Option Addr) (c c' : Nat) (l l' : List UInt8) (w : World) {B B' : Nat} (h : Rd w B A l.length (bvs l)) (h' : Rd w B' A' l'.length (bvs l')) :
    Calls Try.prog 42 #[.slice A l.length c, .slice A' l'.length c'] w fun e w' => e = .returned (.bool (eqB l l')) ∧ w = w' := by
  have v1 := conv_rd h c
  have v2 := conv_rd h' c'
  obtain ⟨S, hS⟩ : ∃ S : ByteArray, S = ⟨l.toArray⟩ := ⟨_, rfl⟩
  obtain ⟨S', hS'⟩ : ∃ S : ByteArray, S = ⟨l'.toArray⟩ := ⟨_, rfl⟩
  rw [← hS] at v1
  rw [← hS'] at v2
  have e1 : (S.toList == S'.toList) = eqB l l' := by
    rw [hS, hS']
    unfold eqB
    by_cases hl : l = l'
    · simp [hl]
    · simp [hl]
  have E1 := Lib.hid e1
  clear h h' hS hS' e1
  go_enter Try.func42, Try.ntmps42
  go_wp2
  go_ret
  exact ⟨ret_b E1.out, rfl⟩
/-- A call hands back bytes in memory of its own. -/
def BRet (w : World) (l : List UInt8) (e : Ending) (w' : World) : Prop :=
  ∃ A c, e = .returned (.slice A l.length c) ∧ w'.ownsRow w.heap.size 5 1 (.slice A l.length c) l.length (bvs l) ∧ Below w.heap.size w w'
theorem clone_any (A : Option Addr) (c : Nat) (l : List UInt8) (w : World) {B : Nat} (h : Rd w B A l.length (bvs l)) (hB : B ≤ w.heap.size) (hl : l.length ≤ 1000000) :
    Calls Try.prog 34 #[.slice A l.length c] w (BRet w l) := by
  obtain ⟨i2, hi2, hz2, hs2, hb2⟩ := info_parts infoTB
  rcases A with _ | ad
  · have hl0 : l = [] := by
      cases l with
      | nil => rfl
      | cons b t => obtain ⟨ad, h', _⟩ := h.2 (by simp); cases h'
    subst hl0
    have hnil := fun w : World => Lib.run_eql_slice_nil (P := Try.prog) w 26 5 none ([] : List UInt8).length c 0 0 Try.underlying26
    simp only [Option.isNone_none, List.length_nil] at hnil
    go_enter Try.func34, Try.ntmps34
    go_wp2
    go_ret
    exact ⟨none, 0, rfl, World.ownsRow_nil _ _ _ _, Below.refl _ _⟩
  · have hnil := fun w : World => Lib.run_eql_slice_nil (P := Try.prog) w 26 5 (some ad) l.length c 0 0 Try.underlying26
    simp only [Option.isNone_some] at hnil
    have hown : (w.alloc (.cells #[] 5)).ownsRow w.heap.size 5 1 (.slice (some ⟨w.heap.size, 0, none⟩) 0 0) 0 [] := World.ownsRow_made w #[] 0 (Nat.le_refl _) (Nat.zero_le _) rfl
    have hrd : Rd (w.alloc (.cells #[] 5)) B (some ad) (l.length * 1) (bvs l) := by rw [Nat.mul_one]; exact h.below ((below_one w _).mono hB)
    have m1 : 0 + l.length ≤ maxLen := by unfold maxLen; omega
    have m2 : (0 + l.length) * 1 ≤ 140737488355328 := by omega
    have m3 : w.heap.size ≤ (w.alloc (.cells #[] 5)).heap.size := by simp
    have HO := Lib.hid hown
    have HR := Lib.hid hrd
    have M1 := Lib.hid m1
    have M2 := Lib.hid m2
    have M3 := Lib.hid m3
    clear hown hrd m1 m2 m3 h
    go_enter Try.func34, Try.ntmps34
    go_wp2_with (at_builtin; refine wpList_append_any _ rfl (.tmp 5) (.tmp 6) 26 rfl w.heap.size 5 i2 (.int .u8 0) 1 1 Try.underlying26 hi2 hz2 hs2 hb2 rfl (by omega) (.slice (some ⟨w.heap.size, 0, none⟩) 0 0) 0 [] rfl HO.out B (some ad) l.length c (bvs l) rfl HR.out (bvs_one l) M1.out M2.out M3.out ?_; intro v1 w2 hown2 hgr2 hat2; simp only [Nat.zero_add, List.nil_append] at hown2; obtain ⟨A1, c1, rfl, q1, q2⟩ := own_form hown2)
    go_ret
    exact ⟨A1, c1, rfl, hown2, (below_one w _).grown hgr2 (by simp) (fun g e => by have e' : some w.heap.size = some g := e; injection e' with e'; omega)⟩
theorem item_any (Al : Option Addr) (nl cl : Nat) (Av : Option Addr) (nv cv : Nat) (ver ep : Int) (er : Bool) (w : World) :
    Calls Try.prog 36 #[env Al nl cl Av nv cv ver ep er] w fun e w' => e = .returned (.agg #[.slice Al nl cl, .int .i64 ver, .slice Av nv cv]) ∧ Below w.heap.size w w' := by
  go_enter Try.func36, Try.ntmps36
  go_wp2
  exact bodyPost_ret (v := .agg #[.slice Al nl cl, .int .i64 ver, .slice Av nv cv]) (by simp [results, Try.results36, go_sem]) rfl ⟨rfl, bel_alloc (below_one w _)⟩
theorem ccheck_any (Al : Option Addr) (cl : Nat) (Av : Option Addr) (cv : Nat) (ver : Int) (lab val : List UInt8) (w : World) :
    Calls Try.prog 35 #[.agg #[.slice Al lab.length cl, .int .i64 ver, .slice Av val.length cv]] w fun e w' => e = .returned (.int .i64 (if itemB lab val ver then 0 else 100)) ∧ Below w.heap.size w w' := by
  by_cases h1 : lab.length ≤ 32
  · by_cases h2 : val.length ≤ 64
    · by_cases h3 : 1 ≤ ver
      · by_cases h4 : ver ≤ 2147483647
        · skip
          have g0 : decide ((32 : Int) < (lab.length : Int)) = false := by simp; omega
          have g1 : decide ((64 : Int) < (val.length : Int)) = false := by simp; omega
          have g2 : decide (ver < 1) = false := by simp; omega
          have g3 : decide ((2147483647 : Int) < ver) = false := by simp; omega
          have hi : itemB lab val ver = true := by simp [itemB]; omega
          rw [hi]
          clear hi
          go_enter Try.func35, Try.ntmps35
          go_wp2
          go_ret
          exact ⟨rfl, below_one w _⟩
        · skip
          have g0 : decide ((32 : Int) < (lab.length : Int)) = false := by simp; omega
          have g1 : decide ((64 : Int) < (val.length : Int)) = false := by simp; omega
          have g2 : decide (ver < 1) = false := by simp; omega
          have g3 : decide ((2147483647 : Int) < ver) = true := by simp; omega
          have hi : itemB lab val ver = false := by simp [itemB]; omega
          rw [hi]
          clear hi
          go_enter Try.func35, Try.ntmps35
          go_wp2
          go_ret
          exact ⟨rfl, below_one w _⟩
      · skip
        have g0 : decide ((32 : Int) < (lab.length : Int)) = false := by simp; omega
        have g1 : decide ((64 : Int) < (val.length : Int)) = false := by simp; omega
        have g2 : decide (ver < 1) = true := by simp; omega
        have hi : itemB lab val ver = false := by simp [itemB]; omega
        rw [hi]
        clear hi
        go_enter Try.func35, Try.ntmps35
        go_wp2
        go_ret
        exact ⟨rfl, below_one w _⟩
    · skip
      have g0 : decide ((32 : Int) < (lab.length : Int)) = false := by simp; omega
      have g1 : decide ((64 : Int) < (val.length : Int)) = true := by simp; omega
      have hi : itemB lab val ver = false := by simp [itemB]; omega
      rw [hi]
      clear hi
      go_enter Try.func35, Try.ntmps35
      go_wp2
      go_ret
      exact ⟨rfl, below_one w _⟩
  · skip
    have g0 : decide ((32 : Int) < (lab.length : Int)) = true := by simp; omega
    have hi : itemB lab val ver = false := by simp [itemB]; omega
    rw [hi]
    clear hi
    go_enter Try.func35, Try.ntmps35
    go_wp2
    go_ret
    exact ⟨rfl, below_one w _⟩
end Go.Proofs.Ytkiijbbcfbkecaa

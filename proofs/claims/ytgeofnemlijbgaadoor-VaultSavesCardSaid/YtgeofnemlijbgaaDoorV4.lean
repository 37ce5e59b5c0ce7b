/- bytes.Equal, bytes.Clone, octet.Take at eight bytes. -/
import Derived.Test.YtgeofnemlijbgaaDoorV3
import Derived.Test.YtgeofnemlijbgaaDoorVE7
import Derived.WalkKit
import Derived.WalkSpells
import Derived.WalkLawsBesides
import Derived.Lib.SliceRun
import Derived.Laws.BitsAllLaws
namespace Go.Proofs.YtgeofnemlijbgaaDoor
open Go.RowKit
set_option linter.unusedVariables false

def eqB (l l' : List UInt8) : Bool := decide (l = l')
theorem equal_any (A A' : Option Addr) (c c' : Nat) (l l' : List UInt8) (w : World) {B B' : Nat} (h : Rd w B A l.length (bvs l)) (h' : Rd w B' A' l'.length (bvs l')) :
    Calls Tryd.prog 57 #[.slice A l.length c, .slice A' l'.length c'] w fun e w' => e = .returned (.bool (eqB l l')) ∧ w = w' := by
  have v1 := conv_rd h c
  have v2 := conv_rd h' c'
  obtain ⟨S, hS⟩ : ∃ S : ByteArray, S = ⟨l.toArray⟩ := ⟨_, rfl⟩
  obtain ⟨S', hS'⟩ : ∃ S : ByteArray, S = ⟨l'.toArray⟩ := ⟨_, rfl⟩
  rw [← hS] at v1
  rw [← hS'] at v2
  have e1 : (S.toList == S'.toList) = eqB l l' := by
    rw [hS, hS']
    unfold eqB
    by_cases hl : l = l'
    · simp [hl]
    · simp [hl]
  have E1 := Lib.hid e1
  clear h h' hS hS' e1
  go_enter Tryd.func57, Tryd.ntmps57
  go_wp2
  go_ret
  exact ⟨ret_b E1.out, rfl⟩
theorem bclone_any (A : Option Addr) (c : Nat) (l : List UInt8) (w : World) {B : Nat} (h : Rd w B A l.length (bvs l)) (hB : B ≤ w.heap.size) (hl : l.length ≤ 1000000) :
    Calls Tryd.prog 67 #[.slice A l.length c] w (BRet w l id) := by
  obtain ⟨i2, hi2, hz2, hs2, hb2⟩ := info_parts infoTB
  rcases A with _ | ad
  · have hl0 : l = [] := by
      cases l with
      | nil => rfl
      | cons b t => obtain ⟨ad, h', _⟩ := h.2 (by simp); cases h'
    subst hl0
    have hnil := fun w : World => Lib.run_eql_slice_nil (P := Tryd.prog) w 25 5 none ([] : List UInt8).length c 0 0 Tryd.underlying25
    simp only [Option.isNone_none, List.length_nil] at hnil
    go_enter Tryd.func67, Tryd.ntmps67
    go_wp2
    go_ret
    exact ⟨_, rfl, World.ownsRow_nil _ _ _ _, Below.refl _ _⟩
  · have hnil := fun w : World => Lib.run_eql_slice_nil (P := Tryd.prog) w 25 5 (some ad) l.length c 0 0 Tryd.underlying25
    simp only [Option.isNone_some] at hnil
    have hown : (w.alloc (.cells #[] 5)).ownsRow w.heap.size 5 1 (.slice (some ⟨w.heap.size, 0, none⟩) 0 0) 0 [] := World.ownsRow_made w #[] 0 (Nat.le_refl _) (Nat.zero_le _) rfl
    have hrd : Rd (w.alloc (.cells #[] 5)) B (some ad) (l.length * 1) (bvs l) := by rw [Nat.mul_one]; exact h.below ((below_one w _).mono hB)
    have m1 : 0 + l.length ≤ maxLen := by unfold maxLen; omega
    have m2 : (0 + l.length) * 1 ≤ 140737488355328 := by omega
    have m3 : w.heap.size ≤ (w.alloc (.cells #[] 5)).heap.size := by simp
    have HO := Lib.hid hown
    have HR := Lib.hid hrd
    have M1 := Lib.hid m1
    have M2 := Lib.hid m2
    have M3 := Lib.hid m3
    clear hown hrd m1 m2 m3 h
    go_enter Tryd.func67, Tryd.ntmps67
    go_wp2_with (at_builtin; refine wpList_append_any _ rfl (.tmp 5) (.tmp 6) 25 rfl w.heap.size 5 i2 (.int .u8 0) 1 1 Tryd.underlying25 hi2 hz2 hs2 hb2 rfl (by omega) (.slice (some ⟨w.heap.size, 0, none⟩) 0 0) 0 [] rfl HO.out B (some ad) l.length c (bvs l) rfl HR.out (bvs_one l) M1.out M2.out M3.out ?_; intro v1 w2 hown2 hgr2 hat2; simp only [Nat.zero_add, List.nil_append] at hown2; obtain ⟨A1, c1, rfl, q1, q2⟩ := own_form hown2)
    go_ret
    exact ⟨_, rfl, hown2, (below_one w _).grown hgr2 (by simp) (fun g e => by have e' : some w.heap.size = some g := e; injection e' with e'; omega)⟩
/-- The rest of a row of bytes, from t on. -/
theorem rest_rd {w : World} {B t : Nat} {ad : Addr} {l : List UInt8} (h : Rd w B (some ad) l.length (bvs l)) (ht : t ≤ l.length) : Rd w B (some (ad.add t)) (l.length - t) (bvs (l.drop t)) := by
  refine ⟨by rw [bvs_length, List.length_drop], fun hn => ?_⟩
  obtain ⟨ad', e, hb, hcell⟩ := h.2 (by omega)
  injection e with e
  subst e
  refine ⟨ad.add t, rfl, by rw [block_of_add]; exact hb, fun j u hu => ?_⟩
  rw [add_of_add]
  refine hcell (t + j) u ?_
  rw [← hu]
  simp [bvs]
theorem rest_none {w : World} {B t : Nat} {A : Option Addr} {l : List UInt8} (ht : t = l.length) : Rd w B A (l.length - t) (bvs (l.drop t)) := by
  subst ht
  simp [bvs]
  exact Rd.none_ _
theorem rest_zero {w : World} {B t : Nat} {A : Option Addr} {l : List UInt8} (ht : t = l.length) : Rd w B A 0 (bvs (l.drop t)) := by
  subst ht
  simp [bvs]
  exact Rd.none_ _
/-- The rest of a row from t on, as a value. -/
def restV (ad : Addr) (n c t : Nat) : Value := sliced (some ad) t n c 1
theorem run_rest (ad : Addr) (n c t : Nat) (w : World) (h : (t : Int) ≤ (n : Int)) : (Instr.slice 25 (.slice (some ad) n c) (some (.int .i64 (t : Int))) none none).run Tryd.prog w = .ok (restV ad n c t) w := by
  have hsz : (sizeOf (Tryd.prog.elem 25)).run Tryd.prog w = .ok 1 w := by
    obtain ⟨i2, hi2, hz2, hs2, hb2⟩ := info_parts infoTB
    have he : Tryd.prog.elem 25 = 5 := by kernel_rfl
    simp [he, sizeOf, typeInfo, hi2, hs2]
  have hr := run_slice_l (P := Tryd.prog) w 25 (some ad) n c (by kernel_rfl) .i64 (t : Int) (by omega) h
  rw [hsz] at hr
  simp only [Result.andThen, Int.toNat_natCast] at hr
  exact hr
theorem begin_rd {w : World} {B t : Nat} {A : Option Addr} {l : List UInt8} (h : Rd w B A l.length (bvs l)) (ht : t ≤ l.length) : Rd w B A t (bvs (l.take t)) := by
  refine ⟨by rw [bvs_length, List.length_take]; omega, fun hn => ?_⟩
  obtain ⟨ad, e, hb, hc⟩ := h.2 (by omega)
  refine ⟨ad, e, hb, fun j u hu => hc j u ?_⟩
  have hj : j < t := by have := (List.getElem?_eq_some_iff.1 hu).1; rw [bvs_length, List.length_take] at this; omega
  rw [← hu]
  simp [bvs, hj]
/-- 's[:h]' of bytes, h at most the capacity. -/
theorem run_cut (a : Option Addr) (n c : Nat) (h : Int) (w : World) (h0 : 0 ≤ h) (h1 : h ≤ (c : Int)) : (Instr.slice 25 (.slice a n c) none (some (.int .i64 h)) none).run Tryd.prog w = .ok (.slice a h.toNat c) w := by
  have hsz : (sizeOf (Tryd.prog.elem 25)).run Tryd.prog w = .ok 1 w := by
    obtain ⟨i2, hi2, hz2, hs2, hb2⟩ := info_parts infoTB
    have he : Tryd.prog.elem 25 = 5 := by kernel_rfl
    simp [he, sizeOf, typeInfo, hi2, hs2]
  have hr := run_slice_h (P := Tryd.prog) w 25 a n c (by kernel_rfl) .i64 h h0 h1
  rw [hsz] at hr
  simp only [Result.andThen] at hr
  rw [hr]
  have e : sliced a 0 h.toNat c 1 = .slice a h.toNat c := by
    unfold sliced
    by_cases hc : c = 0
    · simp [hc]
    · rcases a with _ | ad
      · simp [hc]
      · simp [hc, Addr.add]
  rw [e]
/-- 's[t:]' of bytes that are there. -/
theorem rest_any {w : World} {B c t : Nat} {A : Option Addr} {l : List UInt8} (h : Rd w B A l.length (bvs l)) (hn : 0 < l.length) (ht : t ≤ l.length) (hlc : l.length ≤ c) :
    ∃ A' c', (∀ w' : World, (Instr.slice 25 (.slice A l.length c) (some (.int .i64 (t : Int))) none none).run Tryd.prog w' = .ok (.slice A' (l.drop t).length c') w') ∧ Rd w B A' (l.drop t).length (bvs (l.drop t)) ∧ (l.drop t).length ≤ c' ∧ c' ≤ c := by
  obtain ⟨ad, rfl, hb, hc⟩ := h.2 hn
  by_cases hct : c = t
  · refine ⟨some ad, c - t, fun w' => (run_rest ad l.length c t w' (by omega)).trans ?_, ?_, ?_, Nat.sub_le _ _⟩
    · unfold restV sliced
      rw [if_pos hct, List.length_drop]
    · have : (l.drop t).length = 0 := by rw [List.length_drop]; omega
      rw [this]
      exact rest_zero (by omega)
    · rw [List.length_drop]; omega
  · refine ⟨some (ad.add t), c - t, fun w' => (run_rest ad l.length c t w' (by omega)).trans ?_, ?_, ?_, Nat.sub_le _ _⟩
    · unfold restV sliced
      rw [if_neg hct, List.length_drop, Nat.mul_one]
      rfl
    · rw [List.length_drop]; exact rest_rd h ht
    · rw [List.length_drop]; omega
attribute [local go_sem high] run_cut

/-- The number that bytes are, the highest first. -/
def num8 (l : List UInt8) : Nat := l.foldl (fun n b => n * 256 + b.toNat) 0
theorem num8_snoc (l : List UInt8) (b : UInt8) : num8 (l ++ [b]) = num8 l * 256 + b.toNat := by simp [num8, List.foldl_append]
theorem num8_lt (l : List UInt8) : num8 l < 256 ^ l.length := by
  obtain ⟨r, rfl⟩ : ∃ r, l = r.reverse := ⟨l.reverse, by simp⟩
  induction r with
  | nil => simp [num8]
  | cons b r ih =>
    have hb := UInt8.toNat_lt b
    rw [List.reverse_cons, num8_snoc, List.length_append, List.length_singleton, Nat.pow_succ]
    omega

theorem bvs_got {l : List UInt8} {j : Nat} {u : Value} (h : (bvs l)[j]? = some u) : ∃ b, l[j]? = some b ∧ u = bv b := by
  unfold bvs at h
  rw [List.getElem?_map] at h
  cases hb : l[j]? with
  | none => rw [hb] at h; cases h
  | some b => rw [hb] at h; injection h with h; exact ⟨b, rfl, h.symm⟩
theorem take_of_at {α : Type} {l : List α} {j : Nat} {b : α} (h : l[j]? = some b) : l.take (j + 1) = l.take j ++ [b] := by rw [List.take_add_one, h]; rfl
set_option maxRecDepth 100000 in
theorem or_byte (n b : Nat) (hb : b < 256) (hn : n * 256 + b < 18446744073709551616) : bits .or .u64 ((n : Int) * 256) (b : Int) = ((n * 256 + b : Nat) : Int) := by
  have h : (n * 256) ||| b = n * 256 + b := by
    have := Nat.shiftLeft_add_eq_or_of_lt (i := 8) (b := b) (by omega) n
    rw [Nat.shiftLeft_eq] at this
    exact this.symm
  have := u64_or_nat (n * 256) b (by omega) (by omega)
  rw [h] at this
  rw [← this]
  simp
theorem wrapU {x : Int} (h0 : 0 ≤ x) (h1 : x < 18446744073709551616) : IntKind.u64.wrap x = x := by
  have h : IntKind.u64.wrap x = x % 18446744073709551616 := by simp [IntKind.wrap, IntKind.signed, IntKind.bits]
  rw [h]
  omega
set_option maxRecDepth 100000 in
set_option maxHeartbeats 1000000 in
theorem take8_any (A : Option Addr) (c : Nat) (l : List UInt8) (w : World) {B : Nat} (hL : Rd w B A l.length (bvs l)) (hB : B ≤ w.heap.size) (h8 : 8 ≤ l.length) (hl : l.length ≤ 1000) (hlc : l.length ≤ c) :
    Calls Tryd.prog 56 #[.slice A l.length c, .int .i64 8] w (BRet w (l.drop 8) fun v => .tuple #[.int .u64 (num8 (l.take 8) : Int), v, .int .i64 0]) := by
  obtain ⟨A', c', hrest, hR', hl', hc'⟩ := rest_any (t := 8) hL (by omega) h8 hlc
  have hx : decide ((l.length : Int) < 8) = false := decide_eq_false (by omega)
  have hx2 : decide (l.length < 8) = false := decide_eq_false (by omega)
  have g1 : (0 : Int) ≤ 8 := by omega
  have g2 : (8 : Int) ≤ (c : Int) := by omega
  have HL := Lib.hid hL
  have HR := Lib.hid hR'
  have hdl : (l.drop 8).length ≤ 1000 := by rw [List.length_drop]; omega
  have HDL := Lib.hid hdl
  have hrest : ∀ w' : World, (Instr.slice 25 (.slice A l.length c) (some (.int .i64 8)) none none).run Tryd.prog w' = .ok (.slice A' (l.drop 8).length c') w' := hrest
  obtain ⟨r, hr⟩ : ∃ r, r = l.drop 8 := ⟨_, rfl⟩
  rw [← hr] at hrest HR HDL ⊢
  clear hL hR' hl' hc' hdl hr
  go_enter Tryd.func56, Tryd.ntmps56
  go_wp2_with (go_at_call 66; refine (sized8_any _).mono ?_; rintro e w1 ⟨rfl, rfl⟩)
  go_loopw [7, 23] (fun v i wr => ∃ j : Nat, j ≤ 8 ∧ i = .int .i64 j ∧ v = .int .u64 (num8 (l.take j) : Int) ∧ wr = w1) (fun v i _ => 8 - (intOf i).toNat)
  case atStart => exact ⟨0, by omega, rfl, rfl, rfl⟩
  case round =>
    obtain ⟨j, hj, rfl, rfl, rfl⟩ := hrel
    by_cases hlt : j < 8
    · obtain ⟨ad, u, rfl, hb, hu, hcu⟩ := HL.out.at_ (k := j) (by omega)
      have hk0 : (0 : Int) ≤ (j : Int) := by omega
      have hk1 : (j : Int) < 8 := by omega
      obtain ⟨b, hlb, rfl⟩ := bvs_got hu
      have hn := num8_lt (l.take j)
      have hlj : (l.take j).length = j := by rw [List.length_take]; omega
      have hp : (256 : Nat) ^ j ≤ 256 ^ 7 := Nat.pow_le_pow_right (by omega) (by omega)
      rw [hlj] at hn
      have hw : IntKind.u64.wrap ((num8 (l.take j) : Int) * 256) = (num8 (l.take j) : Int) * 256 := wrapU (by omega) (by omega)
      have hb := UInt8.toNat_lt b
      have hor : bits .or .u64 ((num8 (l.take j) : Int) * 256) (b.toNat : Int) = (num8 (l.take (j + 1)) : Int) := by
        rw [take_of_at hlb, num8_snoc]
        exact or_byte _ _ hb (by omega)
      unfold bv at *
      go_wp2
      go_roundw
      case rel => exact ⟨j + 1, by omega, by go_num, by first | rfl | rw [hor], by first | rfl | trivial⟩
      case measure => simp [intOf]; omega
    · obtain rfl : j = 8 := by omega
      go_wp2_with (go_at_call 67; refine (bclone_any A' c' r _ HR.out hB (by have := HDL.out; omega)).mono ?_; rintro e w2 ⟨v, rfl, hO, hB2⟩)
      refine bodyPost_ret (v := .tuple #[.int .u64 (num8 (l.take 8) : Int), v, .int .i64 0]) (by simp [results, Tryd.results56, go_sem]) rfl ?_
      exact ⟨v, rfl, hO, hB2⟩
end Go.Proofs.YtgeofnemlijbgaaDoor

/- The document's Latest, Get. -/
import Derived.Test.YtkiijbbcfbkecaaH7
namespace Go.Proofs.Ytkiijbbcfbkecaa
open Go.RowKit
set_option linter.unusedVariables false

theorem Ents.drewN {w : World} {B n : Nat} {A : Option Addr} {l : List Ent} (h : Ents w B A n l) (k : Nat) : Ents (w.drewN k) B A n l := h
theorem ret_2i {a b c d : Int} (h : a = c) (h' : b = d) : Ending.returned (.tuple #[.int .i64 a, .int .i64 b]) = .returned (.tuple #[.int .i64 c, .int .i64 d]) := by rw [h, h']

set_option maxRecDepth 100000 in
set_option maxHeartbeats 2000000 in
theorem rlatest_any (A : Option Addr) (c : Nat) (k : Bk) (Al : Option Addr) (cl : Nat) (lab : List UInt8) (w : World) (hA : Ents w w.heap.size A k.ents.length k.ents) (h1 : k.ents.length ≤ c) (h2 : c ≤ maxLen) (hL : Rd w w.heap.size Al lab.length (bvs lab)) :
    Calls Try.prog 12 #[bkv A k.ents.length c k.eps, .slice Al lab.length cl] w fun e w' => e = .returned (.tuple #[.int .i64 (latH k lab), .int .i64 (latA k lab)]) ∧ Below w.heap.size w w' := by
  have D0 := Lib.hid (BBox.arg hA h1 h2)
  have H1 := Lib.hid h1
  have H2 := Lib.hid h2
  have HLb := Lib.hid hL
  clear hA hL
  cases hck : checkBk k
  · have hw : latA k lab = 0 := by simp [latA, hck]
    have hw2 : latH k lab = 0 := by simp [latH, hck]
    rw [hw, hw2]
    have HC := Lib.hid hck
    clear hw hw2 hck
    obtain ⟨ents, eps⟩ := k
    dsimp only at D0 H1
    obtain ⟨q0, q1⟩ := D0.out.cells
    go_enter Try.func12, Try.ntmps12
    go_wp2_with (go_at_call 16; refine (rcheck_any A c ⟨ents, eps⟩ _ D0.out.ents H1.out H2.out).mono ?_; rw [HC.out]; simp only [errOf]; rintro e w1 ⟨rfl, hB1⟩)
    go_ret2
    exact ⟨rfl, keepB hB1 (below_one w _)⟩
  · have hw : latA k lab = (cntL k.ents lab : Int) := latA_ok hck lab
    have hw2 : latH k lab = (cntH k.ents lab : Int) := by rw [latH_eq, hck]; rfl
    rw [hw, hw2]
    have HC := Lib.hid hck
    have hlen : k.ents.length ≤ 72 := by simp [checkBk] at hck; omega
    clear hw hw2 hck
    obtain ⟨ents, eps⟩ := k
    dsimp only at D0 H1 hlen ⊢
    obtain ⟨q0, q1⟩ := D0.out.cells
    go_enter Try.func12, Try.ntmps12
    go_wp2_with (go_at_call 16; refine (rcheck_any A c ⟨ents, eps⟩ _ D0.out.ents H1.out H2.out).mono ?_; rw [HC.out]; simp only [errOf, if_true]; rintro e w1 ⟨rfl, hB1⟩)
    have d1 := Lib.hid (D0.out.after hB1)
    have HBW := Lib.hid (keepB hB1 (below_one w (.cells #[.slice A ents.length c, .int .i64 eps] 25)))
    have HL1 := Lib.hid (rd_after HLb.out HBW.out)
    clear q0 q1 hB1 D0
    obtain ⟨q0, q1⟩ := d1.out.cells
    dsimp only at q0 q1
    obtain ⟨SL, hSL⟩ : ∃ S : ByteArray, S = ⟨lab.toArray⟩ := ⟨_, rfl⟩
    have v2 : ∀ nq, (convert 26 9 (.slice Al lab.length cl)).run Try.prog (w1.drewN nq) = .ok (.string SL) (w1.drewN nq) := fun nq => by rw [hSL]; exact conv_rd (HL1.out.drewN nq) cl
    have HSL := Lib.hid hSL
    clear hSL
    go_loopw [6, 7] (fun v i wr => ∃ j q : Nat, j ≤ ents.length ∧ i = .int .i64 j ∧ v = .int .i64 (cntH (ents.take j) lab : Int) ∧ wr = w1.drewN q) (fun _ i _ => ents.length - (intOf i).toNat)
    case atStart => exact ⟨0, 0, Nat.zero_le _, rfl, rfl, rfl⟩
    case round =>
      obtain ⟨j, q, hj, rfl, rfl, rfl⟩ := hrel
      have hc2 := cntH_le (ents.take j) lab
      have hlt1 : (ents.take j).length ≤ j := List.length_take_le _ _
      by_cases hlt : j < ents.length
      · obtain ⟨xb, xo, ⟨xl, xv, xver, xep, xer⟩, Ax, cx, Ay, cy, rfl, hb, hx, c1, c2, c3, c4, c5, p1, p2, p3, s1, s2, s3⟩ := d1.out.ents.at_ (k := j) (by show j < ents.length; omega)
        have hsn := cntH_snoc (ents.take j) ⟨xl, xv, xver, xep, xer⟩ lab
        rw [← take_snoc_of hx] at hsn
        have HSN := Lib.hid hsn
        dsimp only at c1 c2 c3 c4 c5 p1 p2 p3 s1 s2
        obtain ⟨SX, hSX⟩ : ∃ S : ByteArray, S = ⟨xl.toArray⟩ := ⟨_, rfl⟩
        have v1 : ∀ nq, (convert 26 9 (.slice Ax xl.length cx)).run Try.prog (w1.drewN nq) = .ok (.string SX) (w1.drewN nq) := fun nq => by rw [hSX]; exact conv_rd (p3.drewN nq) cx
        have hk0 : (0 : Int) ≤ (j : Int) := by omega
        have hk1 : (j : Int) < (ents.length : Int) := by omega
        by_cases hl : xl = lab
        · have e1 : (SX.toList == SL.toList) = true := by rw [hSX, HSL.out, hl]; simp
          have HLB := Lib.hid hl
          clear hx p3 s3 hsn hSX hl
          by_cases he : 0 < xep
          · have heb : decide (0 < xep) = true := decide_eq_true he
            have HEP := Lib.hid he
            clear he
            go_wp2
            go_quiet (fail)
            go_wp2
            go_roundw
            case rel => exact ⟨j + 1, _, by omega, by go_num, by rw [HSN.out, if_pos ⟨HLB.out, HEP.out⟩]; go_num, rfl⟩
            case measure => simp [intOf]; omega
          · have heb : decide (0 < xep) = false := decide_eq_false he
            have HEP := Lib.hid he
            clear he
            go_wp2
            go_quiet (fail)
            go_wp2
            go_roundw
            case rel => exact ⟨j + 1, _, by omega, by go_num, by rw [HSN.out, if_neg (fun h => absurd h.2 (by have := HEP.out; omega))]; go_num, rfl⟩
            case measure => simp [intOf]; omega
        · have e1 : (SX.toList == SL.toList) = false := by rw [hSX, HSL.out]; simpa using hl
          have HLB := Lib.hid hl
          clear hx p3 s3 hsn hSX hl
          go_wp2
          go_quiet (fail)
          go_wp2
          go_roundw
          case rel => exact ⟨j + 1, _, by omega, by go_num, by rw [HSN.out, if_neg (fun h => HLB.out h.1)]; go_num, rfl⟩
          case measure => simp [intOf]; omega
      · have hjn : ¬ (j : Int) < (ents.length : Int) := by omega
        have HJ : Hid (ents.take j = ents) := Lib.hid (List.take_of_length_le (by omega))
        go_wp2_with (go_at_call 28; refine (many_any A c ⟨ents, eps⟩ Al cl lab ents.length _ (d1.out.ents.drewN q) H1.out H2.out (Nat.le_trans hlen (by omega)) (Nat.le_refl _) (HL1.out.drewN q)).mono ?_; dsimp only; rw [List.take_length]; rintro e w2 ⟨rfl, hB2⟩)
        go_ret2
        exact ⟨ret_2i (by rw [HJ.out]) rfl, (below_drewN HBW.out q).trans (hB2.mono (by exact HBW.out.size))⟩

/-- Nothing was found among the first j. -/
theorem getP_next {l : List Ent} {lab : List UInt8} {ver : Int} {j : Nat} {x : Ent} (h : getP l lab ver j = none) (hx : l[j]? = some x) (hn : x.label = lab → x.ver = ver → False) : getP l lab ver (j + 1) = none := getP_none h hx (fun h => hn h.1 h.2)
theorem ret_ib {a b : Int} {c d : Bool} (h : a = b) (h' : c = d) : Ending.returned (.tuple #[.int .i64 a, .bool c]) = .returned (.tuple #[.int .i64 b, .bool d]) := by rw [h, h']

set_option maxRecDepth 100000 in
set_option maxHeartbeats 2000000 in
theorem rget_any (A : Option Addr) (c : Nat) (k : Bk) (Al : Option Addr) (cl : Nat) (lab : List UInt8) (ver : Int) (w : World) (hA : Ents w w.heap.size A k.ents.length k.ents) (h1 : k.ents.length ≤ c) (h2 : c ≤ maxLen) (hL : Rd w w.heap.size Al lab.length (bvs lab)) :
    Calls Try.prog 14 #[bkv A k.ents.length c k.eps, .slice Al lab.length cl, .int .i64 ver] w fun e w' => e = .returned (.tuple #[.int .i64 (getI k lab ver), .bool (getOk k lab ver)]) ∧ Below w.heap.size w w' := by
  have D0 := Lib.hid (BBox.arg hA h1 h2)
  have H1 := Lib.hid h1
  have H2 := Lib.hid h2
  have HLb := Lib.hid hL
  clear hA hL
  rw [getI_eq, getOk_eq]
  cases hck : checkBk k
  · have hw : getN k lab ver = none := by simp [getN, hck]
    rw [hw]
    have HC := Lib.hid hck
    clear hw hck
    obtain ⟨ents, eps⟩ := k
    dsimp only at D0 H1
    obtain ⟨q0, q1⟩ := D0.out.cells
    go_enter Try.func14, Try.ntmps14
    go_wp2_with (go_at_call 16; refine (rcheck_any A c ⟨ents, eps⟩ _ D0.out.ents H1.out H2.out).mono ?_; rw [HC.out]; simp only [errOf]; rintro e w1 ⟨rfl, hB1⟩)
    go_ret2
    exact ⟨rfl, keepB hB1 (below_one w _)⟩
  · obtain ⟨g, hg⟩ : ∃ g, g = getN k lab ver := ⟨_, rfl⟩
    rw [← hg]
    have hg2 : g = getP k.ents lab ver k.ents.length := by rw [hg]; unfold getN; rw [hck, if_pos rfl]
    have HC := Lib.hid hck
    have hlen : k.ents.length ≤ 72 := by simp [checkBk] at hck; omega
    have HG := Lib.hid hg2
    clear hck hg hg2
    obtain ⟨ents, eps⟩ := k
    dsimp only at D0 H1 hlen HG ⊢
    obtain ⟨q0, q1⟩ := D0.out.cells
    go_enter Try.func14, Try.ntmps14
    go_wp2_with (go_at_call 16; refine (rcheck_any A c ⟨ents, eps⟩ _ D0.out.ents H1.out H2.out).mono ?_; rw [HC.out]; simp only [errOf, if_true]; rintro e w1 ⟨rfl, hB1⟩)
    have d1 := Lib.hid (D0.out.after hB1)
    have HBW := Lib.hid (keepB hB1 (below_one w (.cells #[.slice A ents.length c, .int .i64 eps] 25)))
    have HL1 := Lib.hid (rd_after HLb.out HBW.out)
    clear q0 q1 hB1 D0
    obtain ⟨q0, q1⟩ := d1.out.cells
    dsimp only at q0 q1
    obtain ⟨SL, hSL⟩ : ∃ S : ByteArray, S = ⟨lab.toArray⟩ := ⟨_, rfl⟩
    have v2 : ∀ nq, (convert 26 9 (.slice Al lab.length cl)).run Try.prog (w1.drewN nq) = .ok (.string SL) (w1.drewN nq) := fun nq => by rw [hSL]; exact conv_rd (HL1.out.drewN nq) cl
    have HSL := Lib.hid hSL
    clear hSL
    go_loopw [8] (fun i wr => ∃ j q : Nat, j ≤ ents.length ∧ i = .int .i64 j ∧ getP ents lab ver j = none ∧ wr = w1.drewN q) (fun i _ => ents.length - (intOf i).toNat)
    case atStart => exact ⟨0, 0, Nat.zero_le _, rfl, rfl, rfl⟩
    case round =>
      obtain ⟨j, q, hj, rfl, hP, rfl⟩ := hrel
      have HPJ := Lib.hid hP
      clear hP
      by_cases hlt : j < ents.length
      · obtain ⟨xb, xo, ⟨xl, xv, xver, xep, xer⟩, Ax, cx, Ay, cy, rfl, hb, hx, c1, c2, c3, c4, c5, p1, p2, p3, s1, s2, s3⟩ := d1.out.ents.at_ (k := j) (by show j < ents.length; omega)
        have HX := Lib.hid hx
        dsimp only at c1 c2 c3 c4 c5 p1 p2 p3 s1 s2
        obtain ⟨SX, hSX⟩ : ∃ S : ByteArray, S = ⟨xl.toArray⟩ := ⟨_, rfl⟩
        have v1 : ∀ nq, (convert 26 9 (.slice Ax xl.length cx)).run Try.prog (w1.drewN nq) = .ok (.string SX) (w1.drewN nq) := fun nq => by rw [hSX]; exact conv_rd (p3.drewN nq) cx
        have hk0 : (0 : Int) ≤ (j : Int) := by omega
        have hk1 : (j : Int) < (ents.length : Int) := by omega
        by_cases hl : xl = lab
        · have e1 : (SX.toList == SL.toList) = true := by rw [hSX, HSL.out, hl]; simp
          have HLB := Lib.hid hl
          clear hx p3 s3 hSX hl
          by_cases he : xver = ver
          · have heb : (xver == ver) = true := by simp [he]
            have hgj : g = some j := by
              have := getP_more (getP_some HPJ.out HX.out HLB.out he) (ents.length - (j + 1))
              rw [HG.out, ← this]
              congr 1
              omega
            have HGJ := Lib.hid hgj
            clear he hgj
            go_wp2
            go_quiet (fail)
            go_wp2
            go_ret2
            exact ⟨ret_ib (by rw [HGJ.out]; rfl) (by rw [HGJ.out]; rfl), below_drewN (below_drewN HBW.out _) _⟩
          · have heb : (xver == ver) = false := by simpa using he
            have HEP := Lib.hid he
            clear he
            go_wp2
            go_quiet (fail)
            go_wp2
            go_roundw
            case rel => exact ⟨j + 1, _, by omega, by go_num, getP_next HPJ.out HX.out (fun _ h => HEP.out h), rfl⟩
            case measure => simp [intOf]; omega
        · have e1 : (SX.toList == SL.toList) = false := by rw [hSX, HSL.out]; simpa using hl
          have HLB := Lib.hid hl
          clear hx p3 s3 hSX hl
          go_wp2
          go_quiet (fail)
          go_wp2
          go_roundw
          case rel => exact ⟨j + 1, _, by omega, by go_num, getP_next HPJ.out HX.out (fun h _ => HLB.out h), rfl⟩
          case measure => simp [intOf]; omega
      · have hjn : ¬ (j : Int) < (ents.length : Int) := by omega
        obtain rfl : j = ents.length := by omega
        have HG2 : Hid (g = none) := Lib.hid (HG.out.trans HPJ.out)
        go_wp2
        go_ret2
        exact ⟨ret_ib (by rw [HG2.out]; rfl) (by rw [HG2.out]; rfl), below_drewN HBW.out _⟩
end Go.Proofs.Ytkiijbbcfbkecaa

/- (*drive).write: a write that is done. -/
import Derived.Test.YtgeofnemlijbgaaDoorD3
namespace Go.Proofs.YtgeofnemlijbgaaDoor
open Go.RowKit
set_option linter.unusedVariables false

theorem ok_base {w W w4 : World} {base m : Nat} {V v : Value} {vs : List Value} {ss : List (List UInt8)} {l data : List UInt8} {at_ : Int}
    (hg : W.grownBy w4 v.ownBlock) (hbase : base ≤ w.heap.size) (hW : Below w.heap.size w W) (hO : OwnS W base V vs ss) (hv : vs[at_.toNat]? = some v) (hl64 : l.length = 64) (hm : m = data.length) (hd : m = 64)
    (ho : w4.ownsRow base 5 1 v l.length ((bvs data).take l.length ++ (bvs l).drop m)) :
    OwnS w4 base V vs (ss.set at_.toNat data) ∧ Below base w w4 ∧ ∀ (g : Nat) (t : TypeId) (cs : Array Value), t ≠ 5 → Blk w g t cs → Blk w4 g t cs := by
  have hd' : data.length = 64 := by omega
  have := sec_close (data := data) (t := 64) hbase hW hO hv hl64 hd' (Nat.le_refl _) (by rw [List.take_of_length_le (i := 64) (by simp [bvs, hd']), ← hd]; exact ho) hg
  rw [List.take_of_length_le (by omega), List.drop_of_length_le (by omega), List.append_nil] at this
  exact this

theorem ok_close1 {w W w4 : World} {base D m : Nat} {V v : Value} {vs : List Value} {ss : List (List UInt8)} {l data : List UInt8} {at_ left torn done : Int} (hpos : 0 < left) (hw : wrD ⟨ss, left, torn, false, done⟩ (at_, data) = ({ secs := ss.set at_.toNat data, left := if 0 < left then left - 1 else left, torn := torn, off := false, done := wrap64 (done + 1) }, 0))
    (hg : W.grownBy w4 v.ownBlock) (hbase : base ≤ w.heap.size) (hBD : base ≤ D) (hW : Below w.heap.size w W) (hO : OwnS W base V vs ss) (hv : vs[at_.toNat]? = some v) (hl64 : l.length = 64) (hm : m = data.length) (hd : m = 64)
    (ho : w4.ownsRow base 5 1 v l.length ((bvs data).take l.length ++ (bvs l).drop m)) (hD : Blk w4 D 77 (bx V ⟨ss, left, torn, false, done⟩)) :
    WPost w base D V vs ⟨ss, left, torn, false, done⟩ (at_, data) (.returned (.int .i64 0)) ((w4.setCell ⟨D, 4, none⟩ (.int .i64 (wrap64 (done + 1)))).setCell ⟨D, 1, none⟩ (.int .i64 (left - 1))) := by
  obtain ⟨h1, h2, h3⟩ := ok_base (at_ := at_) hg hbase hW hO hv hl64 hm hd ho
  rw [if_pos hpos] at hw
  unfold WPost
  rw [hw]
  have hD1 := hD.set_ 4 (.int .i64 (wrap64 (done + 1)))
  exact ⟨rfl, by simpa using hD1.set_ 1 (.int .i64 (left - 1)), (h1.setCell hD (by decide) (by decide) _).setCell hD1 (by decide) (by decide) _, (h2.setCell (p := ⟨D, 4, none⟩) hBD _).setCell (p := ⟨D, 1, none⟩) hBD _, fun g t cs ht hne hb => ((h3 g t cs ht hb).far (p := ⟨D, 4, none⟩) hne _).far (p := ⟨D, 1, none⟩) hne _⟩
theorem ok_close2 {w W w4 : World} {base D m : Nat} {V v : Value} {vs : List Value} {ss : List (List UInt8)} {l data : List UInt8} {at_ left torn done : Int} (hpos : ¬ 0 < left) (hw : wrD ⟨ss, left, torn, false, done⟩ (at_, data) = ({ secs := ss.set at_.toNat data, left := if 0 < left then left - 1 else left, torn := torn, off := false, done := wrap64 (done + 1) }, 0))
    (hg : W.grownBy w4 v.ownBlock) (hbase : base ≤ w.heap.size) (hBD : base ≤ D) (hW : Below w.heap.size w W) (hO : OwnS W base V vs ss) (hv : vs[at_.toNat]? = some v) (hl64 : l.length = 64) (hm : m = data.length) (hd : m = 64)
    (ho : w4.ownsRow base 5 1 v l.length ((bvs data).take l.length ++ (bvs l).drop m)) (hD : Blk w4 D 77 (bx V ⟨ss, left, torn, false, done⟩)) :
    WPost w base D V vs ⟨ss, left, torn, false, done⟩ (at_, data) (.returned (.int .i64 0)) (w4.setCell ⟨D, 4, none⟩ (.int .i64 (wrap64 (done + 1)))) := by
  obtain ⟨h1, h2, h3⟩ := ok_base (at_ := at_) hg hbase hW hO hv hl64 hm hd ho
  rw [if_neg hpos] at hw
  unfold WPost
  rw [hw]
  exact ⟨rfl, by simpa using hD.set_ 4 (.int .i64 (wrap64 (done + 1))), h1.setCell hD (by decide) (by decide) _, h2.setCell (p := ⟨D, 4, none⟩) hBD _, fun g t cs ht hne hb => (h3 g t cs ht hb).far (p := ⟨D, 4, none⟩) hne _⟩

set_option maxHeartbeats 1000000 in
theorem write_ok (base D : Nat) (Ao : Option Addr) (n co : Nat) (vs : List Value) (d : Dsk) (at_ : Int) (A : Option Addr) (m c B : Nat) (data : List UInt8) (w : World)
    (hb : Blk w D 77 (bx (.slice Ao n co) d)) (hO : OwnS w base (.slice Ao n co) vs d.secs) (hn : n = d.secs.length) (hm : m = data.length) (hmc : m ≤ c) (hcm : c ≤ maxLen) (hbase : base ≤ w.heap.size) (hBD : base ≤ D) (hR : Rd w B A m (bvs data)) (hBb : B ≤ base)
    (h64 : ∀ (i : Nat) (l : List UInt8), d.secs[i]? = some l → l.length = 64) (hx : badW d (at_, data) = false) (ho : d.off = false) (hl0 : d.left ≠ 0) (hli : d.left ≤ 9223372036854775807) :
    Calls Tryd.prog 48 #[.pointer (some ⟨D, 0, none⟩), .agg #[.int .i64 at_, .slice A m c]] w (WPost w base D (.slice Ao n co) vs d (at_, data)) := by
  have hw : wrD d (at_, data) = ({ d with secs := d.secs.set at_.toNat data, done := wrap64 (d.done + 1), left := if 0 < d.left then d.left - 1 else d.left }, 0) := by simp [wrD, hx, ho, hl0]
  obtain ⟨ss, left, torn, off, done⟩ := d
  dsimp only at ho hl0 hw hO hn h64 hli
  subst ho
  simp only [badW, Bool.or_eq_false_iff, decide_eq_false_iff_not, ne_eq, Decidable.not_not] at hx
  rw [← hn, ← hm] at hx
  obtain ⟨⟨h1, h2⟩, h3⟩ := hx
  have hk0 : 0 ≤ at_ := by omega
  have hk : at_ < (n : Int) := by omega
  obtain ⟨G, cap, v, l, hV, hc1, hc2, hbG, hGl, hv, hl, hcv, hfv, hol⟩ := hO.at_ (i := at_.toNat) (by omega)
  simp only [Value.slice.injEq] at hV
  obtain ⟨e1, e2, e3⟩ := hV
  subst e1
  subst e3
  clear e2
  obtain ⟨A2, c2, rfl, h4, h5⟩ := own_form hol
  have hl64 := h64 at_.toNat l hl
  have hdc := hb.cell
  have hdf := hb.frozen
  have hac := fun o => (hb.alloc o).cell
  have hlt := hb.lt
  have hcva := fun o => (World.cell?_alloc_lt w o ⟨G, at_.toNat, none⟩ hGl).trans hcv
  have d1 : decide (at_ < 0) = false := by simpa using h1
  have d2 : decide ((n : Int) ≤ at_) = false := by simpa using h2
  have d3 : ((m : Int) != 64) = false := by rw [h3]; rfl
  have H1 := Lib.hid hb
  have H2 := Lib.hid hO
  have H3 := Lib.hid hw
  have H4 := Lib.hid h3
  have H5 := Lib.hid hol
  have H6 := Lib.hid hn
  have H7 := Lib.hid hR
  have H8 := Lib.hid hl
  have H9 := Lib.hid hl64
  have H10 := Lib.hid hv
  have H11 := Lib.hid hm
  have g1 : m ≤ 64 := by omega
  have g2 : 64 ≤ m := by omega
  unfold maxLen at hcm
  clear hb hO hw hn hm h3 hol hR hl hl64 hv h64
  have e0 : (left == 0) = false := by simpa using hl0
  have hR1 : Rd (w.alloc (.cells #[.int .i64 at_, .slice A m c] 60)) B A m (bvs data) := (H7.out.below ((below_one w _).mono (by omega)))
  have hO1 := H2.out.alloc (.cells #[.int .i64 at_, .slice A m c] 60)
  have hol1 := H5.out.alloc (.cells #[.int .i64 at_, .slice A m c] 60)
  have hb1 := H1.out.alloc (.cells #[.int .i64 at_, .slice A m c] 60)
  have hbP : Blk (w.alloc (.cells #[.int .i64 at_, .slice A m c] 60)) w.heap.size 60 #[.int .i64 at_, .slice A m c] := Blk.new w _ _
  obtain ⟨curG, hbG1⟩ := hO1.blk rfl
  have R0 := Lib.hid hR1
  have R1 := Lib.hid (bvs_one data)
  clear hR1 hl0
  by_cases hpos : 0 < left
  · skip
    go_enter Tryd.func48, Tryd.ntmps48
    go_wp2
    go_quiet (fail)
    go_wp2
    go_region_held3 (fun w' => w'.cell? ⟨D, 0, none⟩ = some (.slice (some ⟨G, 0, none⟩) n co) ∧ w'.cell? ⟨w.heap.size, 0, none⟩ = some (.int .i64 at_) ∧ w'.cell? ⟨w.heap.size, 1, none⟩ = some (.slice A m c) ∧ w'.cell? ⟨G, at_.toNat, none⟩ = some (.slice A2 l.length c2))
      (first | go_keep | (go_split_ands; exact ⟨cD 0, cP 0, cP 1, cG⟩))
      ((refine step_copy_any _ (by rfl) (.tmp 67) (.tmp 69) 25 25 (by rfl) base 5 Tryd.underlying25 sizeTB (.slice A2 l.length c2) l.length (bvs l) (by rfl) hol1 B A m c _ (by rfl) R0.out R1.out ?_; intro kk w4 hown4 hgr4; obtain ⟨bD, bP, bG⟩ := write_kept hgr4 hol1 hb1 hbP hbG1; have cD := bD.cell; have cP := bP.cell; have fD := bD.frozen; have cG : w4.cell? ⟨G, at_.toNat, none⟩ = some (.slice A2 l.length c2) := (bG.cell _).trans ((hbG1.cell _).symm.trans (hcva _))))
    go_wp2
    go_ret
    exact ok_close1 hpos H3.out hgr4 hbase hBD (by repeat (first | exact below_one _ _ | refine Below.drew ?_ | refine below_drewN ?_ _)) (by repeat (first | exact hO1 | refine OwnS.drew ?_ | refine OwnS.drewN ?_ _)) H10.out H9.out H11.out H4.out hown4 bD
  · have hneg : left ≤ 0 := by omega
    go_enter Tryd.func48, Tryd.ntmps48
    go_wp2
    go_quiet (fail)
    go_wp2
    go_region_held3 (fun w' => w'.cell? ⟨D, 0, none⟩ = some (.slice (some ⟨G, 0, none⟩) n co) ∧ w'.cell? ⟨w.heap.size, 0, none⟩ = some (.int .i64 at_) ∧ w'.cell? ⟨w.heap.size, 1, none⟩ = some (.slice A m c) ∧ w'.cell? ⟨G, at_.toNat, none⟩ = some (.slice A2 l.length c2))
      (first | go_keep | (go_split_ands; exact ⟨cD 0, cP 0, cP 1, cG⟩))
      ((refine step_copy_any _ (by rfl) (.tmp 67) (.tmp 69) 25 25 (by rfl) base 5 Tryd.underlying25 sizeTB (.slice A2 l.length c2) l.length (bvs l) (by rfl) hol1 B A m c _ (by rfl) R0.out R1.out ?_; intro kk w4 hown4 hgr4; obtain ⟨bD, bP, bG⟩ := write_kept hgr4 hol1 hb1 hbP hbG1; have cD := bD.cell; have cP := bP.cell; have fD := bD.frozen; have cG : w4.cell? ⟨G, at_.toNat, none⟩ = some (.slice A2 l.length c2) := (bG.cell _).trans ((hbG1.cell _).symm.trans (hcva _))))
    go_wp2
    go_ret
    exact ok_close2 (by omega) H3.out hgr4 hbase hBD (by repeat (first | exact below_one _ _ | refine Below.drew ?_ | refine below_drewN ?_ _)) (by repeat (first | exact hO1 | refine OwnS.drew ?_ | refine OwnS.drewN ?_ _)) H10.out H9.out H11.out H4.out hown4 bD

/-- One write, whatever it is. -/
theorem write_any (base D : Nat) (Ao : Option Addr) (n co : Nat) (vs : List Value) (d : Dsk) (at_ : Int) (A : Option Addr) (m c B : Nat) (data : List UInt8) (w : World)
    (hb : Blk w D 77 (bx (.slice Ao n co) d)) (hO : OwnS w base (.slice Ao n co) vs d.secs) (hn : n = d.secs.length) (hm : m = data.length) (hmc : m ≤ c) (hcm : c ≤ maxLen) (hbase : base ≤ w.heap.size) (hBD : base ≤ D) (hR : Rd w B A m (bvs data)) (hBb : B ≤ base)
    (h64 : ∀ (i : Nat) (l : List UInt8), d.secs[i]? = some l → l.length = 64) (hli : d.left ≤ 9223372036854775807) :
    Calls Tryd.prog 48 #[.pointer (some ⟨D, 0, none⟩), .agg #[.int .i64 at_, .slice A m c]] w (WPost w base D (.slice Ao n co) vs d (at_, data)) := by
  cases hx : badW d (at_, data)
  · cases ho : d.off
    · by_cases hl : d.left = 0
      · exact write_torn base D Ao n co vs d at_ A m c B data w hb hO hn hm hmc hcm hbase hBD hR hBb h64 hx ho hl
      · exact write_ok base D Ao n co vs d at_ A m c B data w hb hO hn hm hmc hcm hbase hBD hR hBb h64 hx ho hl hli
    · exact write_off base D Ao n co vs d at_ A m c data w hb hO hn hm hbase hx ho
  · exact write_bad base D Ao n co vs d at_ A m c data w hb hO hn hm hbase hx

end Go.Proofs.YtgeofnemlijbgaaDoor

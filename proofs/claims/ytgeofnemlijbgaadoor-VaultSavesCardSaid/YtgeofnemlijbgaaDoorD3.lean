/- (*drive).write. -/
import Derived.Test.YtgeofnemlijbgaaDoorD2
import Derived.Test.YtgeofnemlijbgaaDoorPlain
import Derived.Deep.QuietTactic
import Derived.BigQuiet
import Derived.Deep.RegionHeld3
import Derived.Deep.DrawnRows
import Derived.WalkSmall
namespace Go.Proofs.YtgeofnemlijbgaaDoor
open Go.RowKit
set_option linter.unusedVariables false

abbrev bx (V : Value) (d : Dsk) : Array Value := #[V, .int .i64 d.left, .int .i64 d.torn, .bool d.off, .int .i64 d.done]
/-- What a write hands back and leaves. -/
def WPost (w : World) (base D : Nat) (V : Value) (vs : List Value) (d : Dsk) (x : Wr) (e : Ending) (w' : World) : Prop :=
  e = .returned (.int .i64 (wrD d x).2) ∧ Blk w' D 77 (bx V (wrD d x).1) ∧ OwnS w' base V vs (wrD d x).1.secs ∧ Below base w w' ∧
    ∀ (g : Nat) (t : TypeId) (cs : Array Value), t ≠ 5 → g ≠ D → Blk w g t cs → Blk w' g t cs

theorem WPost.same {w w' : World} {base D : Nat} {V : Value} {vs : List Value} {d : Dsk} {x : Wr} {e : Ending} {err : Int} (hw : wrD d x = (d, err)) (he : e = .returned (.int .i64 err)) (hb : Blk w D 77 (bx V d)) (hO : OwnS w base V vs d.secs) (hbase : base ≤ w.heap.size) (hB : Below w.heap.size w w') : WPost w base D V vs d x e w' := by
  unfold WPost
  rw [hw]
  exact ⟨he, hb.below hB hb.lt, hO.below hB, hB.mono hbase, fun g t cs _ _ h => h.below hB h.lt⟩

set_option maxHeartbeats 400000 in
theorem write_bad (base D : Nat) (Ao : Option Addr) (n co : Nat) (vs : List Value) (d : Dsk) (at_ : Int) (A : Option Addr) (m c : Nat) (data : List UInt8) (w : World)
    (hb : Blk w D 77 (bx (.slice Ao n co) d)) (hO : OwnS w base (.slice Ao n co) vs d.secs) (hn : n = d.secs.length) (hm : m = data.length) (hbase : base ≤ w.heap.size)
    (hx : badW d (at_, data) = true) :
    Calls Tryd.prog 48 #[.pointer (some ⟨D, 0, none⟩), .agg #[.int .i64 at_, .slice A m c]] w (WPost w base D (.slice Ao n co) vs d (at_, data)) := by
  have hw : wrD d (at_, data) = (d, 1) := by simp [wrD, hx]
  have hdc := hb.cell
  have hdf := hb.frozen
  have hac := fun o => (hb.alloc o).cell
  have hlt := hb.lt
  have H1 := Lib.hid hb
  have H2 := Lib.hid hO
  have H3 := Lib.hid hw
  simp only [badW, Bool.or_eq_true, decide_eq_true_eq, ne_eq] at hx
  rw [← hn, ← hm] at hx
  clear hb hO hw hn hm
  by_cases h1 : at_ < 0
  · have d1 : decide (at_ < 0) = true := by simpa using h1
    clear hx
    go_enter Tryd.func48, Tryd.ntmps48
    go_wp2
    go_quiet (fail)
    go_wp2
    go_ret
    exact WPost.same H3.out rfl H1.out H2.out hbase (below_drewN (below_one _ _) _)
  · have d1 : decide (at_ < 0) = false := by simpa using h1
    by_cases h2 : (n : Int) ≤ at_
    · have d2 : decide ((n : Int) ≤ at_) = true := by simpa using h2
      clear hx
      go_enter Tryd.func48, Tryd.ntmps48
      go_wp2
      go_quiet (fail)
      go_wp2
      go_ret
      exact WPost.same H3.out rfl H1.out H2.out hbase (below_drewN (below_one _ _) _)
    · have d2 : decide ((n : Int) ≤ at_) = false := by simpa using h2
      have h3 : m ≠ 64 := by
        rcases hx with (hx | hx) | hx
        · exact absurd hx h1
        · exact absurd hx h2
        · exact hx
      have d3 : ((m : Int) != 64) = true := by rw [bne_iff_ne]; omega
      clear hx
      go_enter Tryd.func48, Tryd.ntmps48
      go_wp2
      go_quiet (fail)
      go_wp2
      go_ret
      exact WPost.same H3.out rfl H1.out H2.out hbase (below_drewN (below_one _ _) _)

set_option maxHeartbeats 400000 in
theorem write_off (base D : Nat) (Ao : Option Addr) (n co : Nat) (vs : List Value) (d : Dsk) (at_ : Int) (A : Option Addr) (m c : Nat) (data : List UInt8) (w : World)
    (hb : Blk w D 77 (bx (.slice Ao n co) d)) (hO : OwnS w base (.slice Ao n co) vs d.secs) (hn : n = d.secs.length) (hm : m = data.length) (hbase : base ≤ w.heap.size)
    (hx : badW d (at_, data) = false) (ho : d.off = true) :
    Calls Tryd.prog 48 #[.pointer (some ⟨D, 0, none⟩), .agg #[.int .i64 at_, .slice A m c]] w (WPost w base D (.slice Ao n co) vs d (at_, data)) := by
  have hw : wrD d (at_, data) = (d, 170) := by simp [wrD, hx, ho]
  have H1 := Lib.hid hb
  have H2 := Lib.hid hO
  have H3 := Lib.hid hw
  obtain ⟨ss, left, torn, off, done⟩ := d
  dsimp only at ho
  subst ho
  have hdc := hb.cell
  have hdf := hb.frozen
  have hac := fun o => (hb.alloc o).cell
  have hlt := hb.lt
  simp only [badW, Bool.or_eq_false_iff, decide_eq_false_iff_not, ne_eq, Decidable.not_not] at hx
  rw [← hn, ← hm] at hx
  obtain ⟨⟨h1, h2⟩, h3⟩ := hx
  have d1 : decide (at_ < 0) = false := by simpa using h1
  have d2 : decide ((n : Int) ≤ at_) = false := by simpa using h2
  have d3 : ((m : Int) != 64) = false := by rw [h3]; rfl
  have H4 := Lib.hid h3
  clear hb hO hw hn hm h3
  go_enter Tryd.func48, Tryd.ntmps48
  go_wp2
  go_quiet (fail)
  go_wp2
  go_ret
  exact WPost.same H3.out rfl H1.out H2.out hbase (below_drewN (below_one _ _) _)

theorem write_kept {W w4 : World} {base : Nat} {v : Value} {n : Nat} {xs : List Value} {D P G : Nat} {cD cP cG : Array Value} (hg : W.grownBy w4 v.ownBlock) (hol : W.ownsRow base 5 1 v n xs) (hD : Blk W D 77 cD) (hP : Blk W P 60 cP) (hG : Blk W G 25 cG) :
    Blk w4 D 77 cD ∧ Blk w4 P 60 cP ∧ Blk w4 G 25 cG := by
  have ne : ∀ {g : Nat} {t : TypeId} {cs : Array Value}, Blk W g t cs → t ≠ 5 → some g ≠ v.ownBlock := by
    intro g t cs h ht e
    obtain ⟨c, hc, _⟩ := own_block hol e.symm
    unfold Blk at h
    rw [hc] at h
    injection h with h
    injection h with _ h
    exact ht h.symm
  exact ⟨hD.grown hg (ne hD (by decide)), hP.grown hg (ne hP (by decide)), hG.grown hg (ne hG (by decide))⟩

/-- What the copy of a sector's beginning leaves. -/
theorem sec_close {w W w4 : World} {base i t : Nat} {V v : Value} {vs : List Value} {ss : List (List UInt8)} {l data : List UInt8} (hbase : base ≤ w.heap.size) (hW : Below w.heap.size w W) (hO : OwnS W base V vs ss) (hv : vs[i]? = some v) (hl64 : l.length = 64) (hd : data.length = 64) (ht : t ≤ 64)
    (ho : w4.ownsRow base 5 1 v l.length (((bvs data).take t).take l.length ++ (bvs l).drop t)) (hg : W.grownBy w4 v.ownBlock) :
    OwnS w4 base V vs (ss.set i (data.take t ++ l.drop t)) ∧ Below base w w4 ∧ ∀ (g : Nat) (t : TypeId) (cs : Array Value), t ≠ 5 → Blk w g t cs → Blk w4 g t cs := by
  have e : ((bvs data).take t).take l.length ++ (bvs l).drop t = bvs (data.take t ++ l.drop t) := by
    rw [List.take_of_length_le (by rw [List.length_take, hl64]; omega), bvs_take, bvs_drop, bvs_append]
  have e2 : l.length = (data.take t ++ l.drop t).length := by simp; omega
  rw [e] at ho
  rw [e2] at ho
  obtain ⟨l', hl', hol⟩ := hO.inner i v hv
  refine ⟨hO.setSec hv hg ho, (hW.mono hbase).grown hg (Nat.le_trans hbase hW.size) (fun g e => (own_block hol e).elim fun _ h => h.2.1), fun g t cs ht h => ?_⟩
  have h1 : Blk W g t cs := h.below hW h.lt
  refine h1.grown hg fun e => ?_
  obtain ⟨c, hc, _⟩ := own_block hol e.symm
  unfold Blk at h1
  rw [hc] at h1
  injection h1 with h1
  injection h1 with _ h1
  exact ht h1.symm

theorem torn_close {w W w4 : World} {base D t : Nat} {V v : Value} {vs : List Value} {ss : List (List UInt8)} {l data : List UInt8} {at_ torn done : Int} (hw : wrD ⟨ss, 0, torn, false, done⟩ (at_, data) = ({ secs := ss.set at_.toNat (data.take (tornN torn) ++ (secAt ⟨ss, 0, torn, false, done⟩ at_).drop (tornN torn)), left := 0, torn := torn, off := true, done := done }, 170))
    (hg : W.grownBy w4 v.ownBlock) (hT : tornN torn = t) (hbase : base ≤ w.heap.size) (hBD : base ≤ D) (hW : Below w.heap.size w W) (hO : OwnS W base V vs ss) (hv : vs[at_.toNat]? = some v) (hl : ss[at_.toNat]? = some l) (hl64 : l.length = 64) (hd : data.length = 64)
    (ho : w4.ownsRow base 5 1 v l.length (((bvs data).take t).take l.length ++ (bvs l).drop t)) (hD : Blk w4 D 77 (bx V ⟨ss, 0, torn, false, done⟩)) :
    WPost w base D V vs ⟨ss, 0, torn, false, done⟩ (at_, data) (.returned (.int .i64 170)) (w4.setCell ⟨D, 3, none⟩ (.bool true)) := by
  have ht : t ≤ 64 := by rw [← hT]; exact tornN_le torn
  obtain ⟨h1, h2, h3⟩ := sec_close hbase hW hO hv hl64 hd ht ho hg
  have e : secAt ⟨ss, 0, torn, false, done⟩ at_ = l := by simp [secAt, hl]
  rw [e, hT] at hw
  unfold WPost
  rw [hw]
  refine ⟨rfl, by simpa using hD.set_ 3 (.bool true), h1.setCell hD (by decide) (by decide) _, h2.setCell (p := ⟨D, 3, none⟩) hBD _, fun g t cs ht hne hb => (h3 g t cs ht hb).far (p := ⟨D, 3, none⟩) hne _⟩

set_option maxHeartbeats 1000000 in
theorem write_torn (base D : Nat) (Ao : Option Addr) (n co : Nat) (vs : List Value) (d : Dsk) (at_ : Int) (A : Option Addr) (m c B : Nat) (data : List UInt8) (w : World)
    (hb : Blk w D 77 (bx (.slice Ao n co) d)) (hO : OwnS w base (.slice Ao n co) vs d.secs) (hn : n = d.secs.length) (hm : m = data.length) (hmc : m ≤ c) (hcm : c ≤ maxLen) (hbase : base ≤ w.heap.size) (hBD : base ≤ D) (hR : Rd w B A m (bvs data)) (hBb : B ≤ base)
    (h64 : ∀ (i : Nat) (l : List UInt8), d.secs[i]? = some l → l.length = 64) (hx : badW d (at_, data) = false) (ho : d.off = false) (hl0 : d.left = 0) :
    Calls Tryd.prog 48 #[.pointer (some ⟨D, 0, none⟩), .agg #[.int .i64 at_, .slice A m c]] w (WPost w base D (.slice Ao n co) vs d (at_, data)) := by
  have hw : wrD d (at_, data) = ({ d with secs := d.secs.set at_.toNat (data.take (tornN d.torn) ++ (secAt d at_).drop (tornN d.torn)), off := true }, 170) := by simp [wrD, hx, ho, hl0]
  obtain ⟨ss, left, torn, off, done⟩ := d
  dsimp only at ho hl0 hw hO hn h64
  subst ho
  subst hl0
  simp only [badW, Bool.or_eq_false_iff, decide_eq_false_iff_not, ne_eq, Decidable.not_not] at hx
  rw [← hn, ← hm] at hx
  obtain ⟨⟨h1, h2⟩, h3⟩ := hx
  have hk0 : 0 ≤ at_ := by omega
  have hk : at_ < (n : Int) := by omega
  obtain ⟨G, cap, v, l, hV, hc1, hc2, hbG, hGl, hv, hl, hcv, hfv, hol⟩ := hO.at_ (i := at_.toNat) (by omega)
  simp only [Value.slice.injEq] at hV
  obtain ⟨e1, e2, e3⟩ := hV
  subst e1
  subst e3
  clear e2
  obtain ⟨A2, c2, rfl, h4, h5⟩ := own_form hol
  have hl64 := h64 at_.toNat l hl
  have hdc := hb.cell
  have hdf := hb.frozen
  have hac := fun o => (hb.alloc o).cell
  have hlt := hb.lt
  have hcva := fun o => (World.cell?_alloc_lt w o ⟨G, at_.toNat, none⟩ hGl).trans hcv
  have d1 : decide (at_ < 0) = false := by simpa using h1
  have d2 : decide ((n : Int) ≤ at_) = false := by simpa using h2
  have d3 : ((m : Int) != 64) = false := by rw [h3]; rfl
  have H1 := Lib.hid hb
  have H2 := Lib.hid hO
  have H3 := Lib.hid hw
  have H4 := Lib.hid h3
  have H5 := Lib.hid hol
  have H6 := Lib.hid hn
  have H7 := Lib.hid hR
  have H8 := Lib.hid hl
  have H9 := Lib.hid hl64
  have H10 := Lib.hid hv
  have H11 := Lib.hid hm
  have ht0 := tornN_le torn
  have g1 : m ≤ 64 := by omega
  have g2 : 64 ≤ m := by omega
  unfold maxLen at hcm
  clear hb hO hw hn hm h3 hol hR hl hl64 hv h64
  have ht : (torn < 0 ∧ tornN torn = 0) ∨ torn = 0 ∨ (0 < torn ∧ torn < 64 ∧ tornN torn = torn.toNat) ∨ torn = 64 ∨ (64 < torn ∧ tornN torn = 64) := by unfold tornN; omega
  have hR1 : Rd (w.alloc (.cells #[.int .i64 at_, .slice A m c] 60)) B A m (bvs data) := (H7.out.below ((below_one w _).mono (by omega)))
  have hO1 := H2.out.alloc (.cells #[.int .i64 at_, .slice A m c] 60)
  have hol1 := H5.out.alloc (.cells #[.int .i64 at_, .slice A m c] 60)
  have hb1 := H1.out.alloc (.cells #[.int .i64 at_, .slice A m c] 60)
  have hbP : Blk (w.alloc (.cells #[.int .i64 at_, .slice A m c] 60)) w.heap.size 60 #[.int .i64 at_, .slice A m c] := Blk.new w _ _
  obtain ⟨curG, hbG1⟩ := hO1.blk rfl
  rcases ht with ⟨t1, t2⟩ | t1 | ⟨t1, t2, t3⟩ | t1 | ⟨t1, t2⟩
  · have T := Lib.hid t2
    clear t2
    have R0 := Lib.hid (hR1.take 0 (by omega))
    have R1 := Lib.hid (bvs_one data)
    clear hR1
    go_enter Tryd.func48, Tryd.ntmps48
    go_wp2
    go_quiet (fail)
    go_wp2
    go_region_held3 (fun w' => w'.cell? ⟨D, 0, none⟩ = some (.slice (some ⟨G, 0, none⟩) n co) ∧ w'.cell? ⟨w.heap.size, 0, none⟩ = some (.int .i64 at_) ∧ w'.cell? ⟨w.heap.size, 1, none⟩ = some (.slice A m c) ∧ w'.cell? ⟨G, at_.toNat, none⟩ = some (.slice A2 l.length c2))
      (first | go_keep | (go_split_ands; exact ⟨cD 0, cP 0, cP 1, cG⟩))
      ((refine step_copy_any _ (by rfl) (.tmp 51) (.tmp 55) 25 25 (by rfl) base 5 Tryd.underlying25 sizeTB (.slice A2 l.length c2) l.length (bvs l) (by rfl) hol1 B A 0 c _ (by rfl) R0.out (fun u hu => R1.out u (List.mem_of_mem_take hu)) ?_; intro kk w4 hown4 hgr4; obtain ⟨bD, bP, bG⟩ := write_kept hgr4 hol1 hb1 hbP hbG1; have cD := bD.cell; have cP := bP.cell; have fD := bD.frozen; have cG : w4.cell? ⟨G, at_.toNat, none⟩ = some (.slice A2 l.length c2) := (bG.cell _).trans ((hbG1.cell _).symm.trans (hcva _))))
    go_wp2
    go_ret
    exact torn_close H3.out hgr4 T.out hbase hBD (by repeat (first | exact below_one _ _ | refine Below.drew ?_ | refine below_drewN ?_ _)) (by repeat (first | exact hO1 | refine OwnS.drew ?_ | refine OwnS.drewN ?_ _)) H10.out H8.out H9.out (H11.out.symm.trans H4.out) hown4 bD
  · subst t1
    have T : Hid (tornN 0 = 0) := rfl
    have R0 := Lib.hid (hR1.take 0 (by omega))
    have R1 := Lib.hid (bvs_one data)
    clear hR1
    go_enter Tryd.func48, Tryd.ntmps48
    go_wp2
    go_quiet (fail)
    go_wp2
    go_region_held3 (fun w' => w'.cell? ⟨D, 0, none⟩ = some (.slice (some ⟨G, 0, none⟩) n co) ∧ w'.cell? ⟨w.heap.size, 0, none⟩ = some (.int .i64 at_) ∧ w'.cell? ⟨w.heap.size, 1, none⟩ = some (.slice A m c) ∧ w'.cell? ⟨G, at_.toNat, none⟩ = some (.slice A2 l.length c2))
      (first | go_keep | (go_split_ands; exact ⟨cD 0, cP 0, cP 1, cG⟩))
      ((refine step_copy_any _ (by rfl) (.tmp 51) (.tmp 55) 25 25 (by rfl) base 5 Tryd.underlying25 sizeTB (.slice A2 l.length c2) l.length (bvs l) (by rfl) hol1 B A 0 c _ (by rfl) R0.out (fun u hu => R1.out u (List.mem_of_mem_take hu)) ?_; intro kk w4 hown4 hgr4; obtain ⟨bD, bP, bG⟩ := write_kept hgr4 hol1 hb1 hbP hbG1; have cD := bD.cell; have cP := bP.cell; have fD := bD.frozen; have cG : w4.cell? ⟨G, at_.toNat, none⟩ = some (.slice A2 l.length c2) := (bG.cell _).trans ((hbG1.cell _).symm.trans (hcva _))))
    go_wp2
    go_ret
    exact torn_close H3.out hgr4 T.out hbase hBD (by repeat (first | exact below_one _ _ | refine Below.drew ?_ | refine below_drewN ?_ _)) (by repeat (first | exact hO1 | refine OwnS.drew ?_ | refine OwnS.drewN ?_ _)) H10.out H8.out H9.out (H11.out.symm.trans H4.out) hown4 bD
  · have T := Lib.hid t3
    have t4 : 0 ≤ torn := by omega
    have t5 : torn ≤ (c : Int) := by omega
    clear t3
    have R0 := Lib.hid (hR1.take torn.toNat (by omega))
    have R1 := Lib.hid (bvs_one data)
    clear hR1
    go_enter Tryd.func48, Tryd.ntmps48
    go_wp2
    go_quiet (fail)
    go_wp2
    go_region_held3 (fun w' => w'.cell? ⟨D, 0, none⟩ = some (.slice (some ⟨G, 0, none⟩) n co) ∧ w'.cell? ⟨w.heap.size, 0, none⟩ = some (.int .i64 at_) ∧ w'.cell? ⟨w.heap.size, 1, none⟩ = some (.slice A m c) ∧ w'.cell? ⟨G, at_.toNat, none⟩ = some (.slice A2 l.length c2))
      (first | go_keep | (go_split_ands; exact ⟨cD 0, cP 0, cP 1, cG⟩))
      ((refine step_copy_any _ (by rfl) (.tmp 51) (.tmp 55) 25 25 (by rfl) base 5 Tryd.underlying25 sizeTB (.slice A2 l.length c2) l.length (bvs l) (by rfl) hol1 B A torn.toNat c _ (by rfl) R0.out (fun u hu => R1.out u (List.mem_of_mem_take hu)) ?_; intro kk w4 hown4 hgr4; obtain ⟨bD, bP, bG⟩ := write_kept hgr4 hol1 hb1 hbP hbG1; have cD := bD.cell; have cP := bP.cell; have fD := bD.frozen; have cG : w4.cell? ⟨G, at_.toNat, none⟩ = some (.slice A2 l.length c2) := (bG.cell _).trans ((hbG1.cell _).symm.trans (hcva _))))
    go_wp2
    go_ret
    exact torn_close H3.out hgr4 T.out hbase hBD (by repeat (first | exact below_one _ _ | refine Below.drew ?_ | refine below_drewN ?_ _)) (by repeat (first | exact hO1 | refine OwnS.drew ?_ | refine OwnS.drewN ?_ _)) H10.out H8.out H9.out (H11.out.symm.trans H4.out) hown4 bD
  · subst t1
    have T : Hid (tornN 64 = 64) := rfl
    have t6 : (64 : Int) ≤ (c : Int) := by omega
    have R0 := Lib.hid (hR1.take 64 (by omega))
    have R1 := Lib.hid (bvs_one data)
    clear hR1
    go_enter Tryd.func48, Tryd.ntmps48
    go_wp2
    go_quiet (fail)
    go_wp2
    go_region_held3 (fun w' => w'.cell? ⟨D, 0, none⟩ = some (.slice (some ⟨G, 0, none⟩) n co) ∧ w'.cell? ⟨w.heap.size, 0, none⟩ = some (.int .i64 at_) ∧ w'.cell? ⟨w.heap.size, 1, none⟩ = some (.slice A m c) ∧ w'.cell? ⟨G, at_.toNat, none⟩ = some (.slice A2 l.length c2))
      (first | go_keep | (go_split_ands; exact ⟨cD 0, cP 0, cP 1, cG⟩))
      ((refine step_copy_any _ (by rfl) (.tmp 51) (.tmp 55) 25 25 (by rfl) base 5 Tryd.underlying25 sizeTB (.slice A2 l.length c2) l.length (bvs l) (by rfl) hol1 B A 64 c _ (by rfl) R0.out (fun u hu => R1.out u (List.mem_of_mem_take hu)) ?_; intro kk w4 hown4 hgr4; obtain ⟨bD, bP, bG⟩ := write_kept hgr4 hol1 hb1 hbP hbG1; have cD := bD.cell; have cP := bP.cell; have fD := bD.frozen; have cG : w4.cell? ⟨G, at_.toNat, none⟩ = some (.slice A2 l.length c2) := (bG.cell _).trans ((hbG1.cell _).symm.trans (hcva _))))
    go_wp2
    go_ret
    exact torn_close H3.out hgr4 T.out hbase hBD (by repeat (first | exact below_one _ _ | refine Below.drew ?_ | refine below_drewN ?_ _)) (by repeat (first | exact hO1 | refine OwnS.drew ?_ | refine OwnS.drewN ?_ _)) H10.out H8.out H9.out (H11.out.symm.trans H4.out) hown4 bD
  · have T := Lib.hid t2
    have t6 : (64 : Int) ≤ (c : Int) := by omega
    clear t2
    have R0 := Lib.hid (hR1.take 64 (by omega))
    have R1 := Lib.hid (bvs_one data)
    clear hR1
    go_enter Tryd.func48, Tryd.ntmps48
    go_wp2
    go_quiet (fail)
    go_wp2
    go_region_held3 (fun w' => w'.cell? ⟨D, 0, none⟩ = some (.slice (some ⟨G, 0, none⟩) n co) ∧ w'.cell? ⟨w.heap.size, 0, none⟩ = some (.int .i64 at_) ∧ w'.cell? ⟨w.heap.size, 1, none⟩ = some (.slice A m c) ∧ w'.cell? ⟨G, at_.toNat, none⟩ = some (.slice A2 l.length c2))
      (first | go_keep | (go_split_ands; exact ⟨cD 0, cP 0, cP 1, cG⟩))
      ((refine step_copy_any _ (by rfl) (.tmp 51) (.tmp 55) 25 25 (by rfl) base 5 Tryd.underlying25 sizeTB (.slice A2 l.length c2) l.length (bvs l) (by rfl) hol1 B A 64 c _ (by rfl) R0.out (fun u hu => R1.out u (List.mem_of_mem_take hu)) ?_; intro kk w4 hown4 hgr4; obtain ⟨bD, bP, bG⟩ := write_kept hgr4 hol1 hb1 hbP hbG1; have cD := bD.cell; have cP := bP.cell; have fD := bD.frozen; have cG : w4.cell? ⟨G, at_.toNat, none⟩ = some (.slice A2 l.length c2) := (bG.cell _).trans ((hbG1.cell _).symm.trans (hcva _))))
    go_wp2
    go_ret
    exact torn_close H3.out hgr4 T.out hbase hBD (by repeat (first | exact below_one _ _ | refine Below.drew ?_ | refine below_drewN ?_ _)) (by repeat (first | exact hO1 | refine OwnS.drew ?_ | refine OwnS.drewN ?_ _)) H10.out H8.out H9.out (H11.out.symm.trans H4.out) hown4 bD

end Go.Proofs.YtgeofnemlijbgaaDoor

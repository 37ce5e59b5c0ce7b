/- Tick. -/
import Derived.Test.YtkiijbbcfbkecaaJ5
namespace Go.Proofs.Ytkiijbbcfbkecaa
open Go.RowKit Go.Shelf
set_option linter.unusedVariables false

/-- What Tick hands back. -/
def TkRet (w : World) (k : Bk) (ps : List Nat) (ef : Int) (e : Ending) (w' : World) : Prop :=
  ∃ A c xs A' c', e = .returned (.tuple #[bkv A k.ents.length c k.eps, .slice A' ps.length c', .int .i64 ef]) ∧ OwnE w' w.heap.size (.slice A k.ents.length c) xs k.ents ∧ w'.ownsRow w.heap.size 3 1 (.slice A' ps.length c') ps.length (pvs ps) ∧ Below w.heap.size w w'
theorem tick_fin {w W1 X w2 w3 : World} {g : Nat} {A A' : Option Addr} {c c' : Nat} {xs : List Value} {k : Bk} {ps : List Nat} {ef : Int} (hW1 : Below w.heap.size w W1) (hX : Below W1.heap.size W1 X) (hg : Blk W1 g 25 zbk) (hgw : w.heap.size ≤ g)
    (hO : OwnE w2 X.heap.size (.slice A k.ents.length c) xs k.ents) (hp : w2.ownsRow W1.heap.size 3 1 (.slice A' ps.length c') ps.length (pvs ps)) (hB : Below W1.heap.size W1 w2) (h3 : Below w2.heap.size w2 w3) :
    TkRet w k ps ef (.returned (.tuple #[bkv A k.ents.length c k.eps, .slice A' ps.length c', .int .i64 ef])) ((w3.setCell ⟨g, 0, none⟩ (.slice A k.ents.length c)).setCell ⟨g, 1, none⟩ (.int .i64 k.eps)) := by
  have hgr := (grown_setCell w3 ⟨g, 0, none⟩ (.slice A k.ents.length c)).trans (grown_setCell _ ⟨g, 1, none⟩ (.int .i64 k.eps))
  have hg3 := (hg.below hB hg.lt).below h3 (hg.below hB hg.lt).lt
  have hB3 := keepB h3 (keepB hB hW1)
  exact ⟨A, c, xs, A', c', rfl, ((hO.below h3).grownB hgr hg3 (by decide) (by decide)).less (Nat.le_trans hW1.size hX.size), own_less (own_far_t (own_b h3 hp) hgr hg3 (by decide)) hW1.size, hB3.grown hgr hB3.size (fun k e => by injection e with e; dsimp only at e; omega)⟩

theorem tk_drew {w w' : World} {k : Bk} {ps : List Nat} {ef : Int} {e : Ending} (h : TkRet w k ps ef e w') : TkRet w k ps ef e w'.drew := by
  obtain ⟨A, c, xs, A', c', h1, h2, h3, h4⟩ := h
  exact ⟨A, c, xs, A', c', h1, h2.drew, h3, h4.drew⟩

set_option maxRecDepth 100000 in
set_option maxHeartbeats 1000000 in
theorem tick_any (A : Option Addr) (c : Nat) (k : Bk) (w : World) (hA : Ents w w.heap.size A k.ents.length k.ents) (h1 : k.ents.length ≤ c) (h2 : c ≤ maxLen) (hs : SmE k.ents) :
    Calls Try.prog 21 #[bkv A k.ents.length c k.eps] w (TkRet w (tickK k) (tickPl k) (tickE k)) := by
  have hch := ch_tick k
  have hkp := fun h => (tick_keep (k := k) h).1
  have hkq := fun h => (tick_keep (k := k) h).2
  have hpub : ∀ (W w0 : World) (base bc z Bp n0 : Nat) (A' : Option Addr) (c' : Nat) (xs : List Value), checkBk k = true → n0 ≤ base → base ≤ bc → z < base → n0 ≤ Bp → Blk W z 25 zbk → Blk W bc 25 #[.slice A' k.ents.length c', .int .i64 k.eps] → OwnE W base (.slice A' k.ents.length c') xs k.ents →
      Blk W Bp 38 #[.slice none 0 0] → Below n0 w0 W → _ := fun W w0 base bc z Bp n0 A' c' xs a1 a2 a3 a4 a5 a6 a7 a8 a9 a10 =>
    tick1_any W w0 base bc z Bp n0 A' c' xs k a1 a2 a3 a4 a5 a6 a7 a8 a9 a10
  obtain ⟨pe, hpe⟩ : ∃ pe, pe = tickE k := ⟨_, rfl⟩
  obtain ⟨pk, hpk⟩ : ∃ pk, pk = tickK k := ⟨_, rfl⟩
  obtain ⟨pp, hpp⟩ : ∃ pp, pp = tickPl k := ⟨_, rfl⟩
  rw [← hpe, ← hpk, ← hpp] at hpub
  rw [← hpe] at hch
  rw [← hpe, ← hpk] at hkp
  rw [← hpe, ← hpp] at hkq
  rw [← hpe, ← hpk, ← hpp]
  have HCH := Lib.hid hch
  have HKP := Lib.hid hkp
  have HKQ := Lib.hid hkq
  have HPUB := Lib.hid hpub
  have HA := Lib.hid hA
  have HS := Lib.hid hs
  have H1 := Lib.hid h1
  have H2 := Lib.hid h2
  have hW1 : Below w.heap.size w ((w.alloc (.cells #[.slice A k.ents.length c, .int .i64 k.eps] 25)).alloc (.cells zbk 25)) := bel_alloc (below_one w _)
  have hg1 : Blk ((w.alloc (.cells #[.slice A k.ents.length c, .int .i64 k.eps] 25)).alloc (.cells zbk 25)) (w.heap.size + 1) 25 zbk := by
    have := Blk.new (w.alloc (.cells #[.slice A k.ents.length c, .int .i64 k.eps] 25)) 25 zbk
    simpa using this
  have hs1 : ((w.alloc (.cells #[.slice A k.ents.length c, .int .i64 k.eps] 25)).alloc (.cells zbk 25)).heap.size = w.heap.size + 1 + 1 := by simp
  have HS1 := Lib.hid hs1
  have HG1 := Lib.hid hg1
  have HW1 := Lib.hid hW1
  clear hch hkp hkq hpub hpe hpk hpp hA hs h1 h2 hs1 hg1 hW1
  go_enter Try.func21, Try.ntmps21
  go_wp2_with fail
  generalize ((w.alloc (.cells #[.slice A k.ents.length c, .int .i64 k.eps] 25)).alloc (.cells zbk 25)) = W1 at HS1 HG1 HW1 ⊢
  have hbp : Blk (W1.alloc (.cells #[.slice none 0 0] 38)) (w.heap.size + 1 + 1) 38 #[.slice none 0 0] := by rw [← HS1.out]; exact Blk.new W1 _ _
  have hX1 : Below W1.heap.size W1 (W1.alloc (.cells #[.slice none 0 0] 38)) := below_one W1 _
  have hXs : (W1.alloc (.cells #[.slice none 0 0] 38)).heap.size = W1.heap.size + 1 := by simp
  generalize (W1.alloc (.cells #[.slice none 0 0] 38)) = X at hbp hX1 hXs ⊢
  have BP := Lib.hid hbp
  have HX1 := Lib.hid hX1
  have HX := Lib.hid (keepB hX1 HW1.out)
  have hs1 := HS1.out
  have hs2 : w.heap.size + 1 + 1 + 1 ≤ X.heap.size := by omega
  have hs3 : w.heap.size + 1 + 1 ≤ W1.heap.size := by omega
  have hs4 : W1.heap.size ≤ w.heap.size + 1 + 1 := by omega
  clear hbp hX1 hXs hs1
  refine (change_any 39 (enters_of Try.func39 (by kernel_rfl) rfl) #[.pointer (some ⟨w.heap.size + 1 + 1, 0, none⟩)] A c k pk pe X (KpT W1.heap.size W1 (w.heap.size + 1 + 1) pp) (ents_after HA.out HX.out) H1.out H2.out HS.out (fun W cs i u hb h => h.set_ (by omega) hb) (fun W base bc A' c' xs hck hB hb1 hb2 bz bb hO => ?_)).mono ?_
  · exact HPUB.out W W1 base bc (X.heap.size + 1) (w.heap.size + 1 + 1) W1.heap.size A' c' xs hck (by omega) hb2 (by omega) hs4 bz bb hO (BP.out.below hB (by omega)) (HX1.out.trans (hB.mono (by omega)))
  · rw [HCH.out]
    rintro e w2 hR
    obtain ⟨A2, c2, xs2, rfl, hO2, hB2, hB2'⟩ := ch_all hR HKP.out
    obtain ⟨A3, c3, hp3, ho3, hB3⟩ : ∃ A3 c3, Blk w2 (w.heap.size + 1 + 1) 38 #[.slice A3 pp.length c3] ∧ w2.ownsRow W1.heap.size 3 1 (.slice A3 pp.length c3) pp.length (pvs pp) ∧ Below W1.heap.size W1 w2 := by
      by_cases h0 : pe = 0
      · obtain ⟨k1, V, k2, k3⟩ := hB2' h0
        obtain ⟨A3, c3, rfl, _, _⟩ := own_form k3
        exact ⟨A3, c3, k2, k3, k1⟩
      · have hb := hB2 h0
        rw [HKQ.out h0]
        exact ⟨none, 0, BP.out.below hb BP.out.lt, World.ownsRow_nil _ _ _ _, HX1.out.trans (hb.mono (by omega))⟩
    have bg := HG1.out.below hB3 HG1.out.lt
    have w2s := hB3.size
    have cP := fun o => (hp3.alloc o).cell
    have cG := fun o => (bg.alloc o).cell
    have fG := fun o => (bg.alloc o).frozen
    have nb : Blk (w2.alloc (.cells #[.slice A2 pk.ents.length c2, .int .i64 pk.eps] 25)) w2.heap.size 25 #[.slice A2 pk.ents.length c2, .int .i64 pk.eps] := Blk.new w2 _ _
    have hb3 : Below w2.heap.size w2 (w2.alloc (.cells #[.slice A2 pk.ents.length c2, .int .i64 pk.eps] 25)) := below_one w2 _
    have HO2 := Lib.hid hO2
    have HB3 := Lib.hid hB3
    have HO3 := Lib.hid ho3
    have Hb3 := Lib.hid hb3
    have cP3 := cP (.cells #[.slice A2 pk.ents.length c2, .int .i64 pk.eps] 25)
    have cG3 := cG (.cells #[.slice A2 pk.ents.length c2, .int .i64 pk.eps] 25)
    have fG3 := fG (.cells #[.slice A2 pk.ents.length c2, .int .i64 pk.eps] 25)
    have bg3 := bg.alloc (.cells #[.slice A2 pk.ents.length c2, .int .i64 pk.eps] 25)
    clear hR hO2 hB2 hB2' hB3 ho3 bg cP cG fG hp3
    go_wp2
    have cN := nb.cell
    generalize (w2.alloc (.cells #[.slice A2 pk.ents.length c2, .int .i64 pk.eps] 25)) = w3 at cP3 cG3 fG3 cN nb Hb3 bg3 ⊢
    have BG3 := Lib.hid bg3
    clear nb hb3 bg3
    go_region
    all_goals
      go_wp2
      refine bodyPost_ret (v := .tuple #[bkv A2 pk.ents.length c2 pk.eps, .slice A3 pp.length c3, .int .i64 pe]) (by simp [results, Try.results21, go_sem, cG3]) rfl ?_
      exact tk_drew (tick_fin HW1.out (HX1.out) HG1.out (by omega) HO2.out HO3.out HB3.out Hb3.out)
end Go.Proofs.Ytkiijbbcfbkecaa

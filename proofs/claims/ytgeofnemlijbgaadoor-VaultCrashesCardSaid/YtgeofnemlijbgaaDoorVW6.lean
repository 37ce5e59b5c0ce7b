/- VaultCrashes: the walk, joined with the plain law. -/
import Derived.Test.YtgeofnemlijbgaaDoorVW5
namespace Go.Proofs.YtgeofnemlijbgaaDoor
open Go.RowKit
set_option linter.unusedVariables false

theorem load_rng {x : Dsk} (hck : checkB x.secs = true) : 0 ≤ (loadD x).2.1 ∧ (loadD x).2.1 ≤ 4611686018427387903 := by
  unfold loadD
  rw [hck, if_pos rfl]
  rcases hn : newestD x with _ | ⟨k, n, m⟩
  · simp
  · have := (newest_le hn).2.1
    dsimp only
    omega
theorem save_limfull {x : Dsk} {t : List UInt8} {L tn : Int} (hck : checkB x.secs = true) (hf : fullD x t = true) : planD x t = ([], 180) ∧ saveD (limD x L tn) t = (limD x L tn, 180) := by
  have e1 : planD x t = ([], 180) := by unfold planD; rw [hck, if_pos rfl, hf]; rfl
  refine ⟨e1, ?_⟩
  have e2 : planD (limD x L tn) t = ([], 180) := (plan_secs (show (limD x L tn).secs = x.secs from rfl) t).trans e1
  unfold saveD
  rw [e2]
  rfl
theorem crash_walk (A : Option Addr) (c : Nat) (d : Dsk) (v : Value) (t : List UInt8) (b1 b2 : UInt8) (tn mo : Int) (w : World) (hd : Bss w w.heap.size A d.secs.length d.secs) (h1 : d.secs.length ≤ c) (h2 : c ≤ maxLen) (hv : Bs w w.heap.size v t) :
    Calls Tryd.prog 8 #[dvD A c d, v, .int .u8 (b1.toNat : Int), .int .i64 tn, .int .u8 (b2.toNat : Int), .int .i64 mo] w fun e w' => e = .returned (.bool true) ∧ Below w.heap.size w w' := by
  obtain ⟨At, ct, rfl, htc, htm, ht⟩ := hv
  cases hsm : smallB d.secs
  · exact crash_not_small A c d At ct t b1 b2 tn mo w hd h1 h2 htc ht hsm
  by_cases hlen : t.length ≤ 5000
  rotate_left
  · exact crash_long A c d At ct t b1 b2 tn mo w hd h1 h2 htc ht hsm hlen
  cases hck : checkB d.secs
  · exact crash_no_disk A c d At ct t b1 b2 tn mo w hd h1 h2 htc ht hsm hlen hck
  obtain ⟨x, hx⟩ : ∃ x, x = onD d := ⟨_, rfl⟩
  have hxck : checkB x.secs = true := by rw [hx]; exact hck
  have hxo : x.off = false := by rw [hx]; rfl
  obtain ⟨hnx, hle⟩ := load_next hxck
  have hnr := load_rng hxck
  obtain ⟨was, n, e, hld⟩ : ∃ u n e, loadD x = (u, n, e) := ⟨_, _, _, rfl⟩
  rw [hld] at hnx hle hnr
  dsimp only at hnx hle hnr
  obtain ⟨L, hL⟩ : ∃ L : Int, L = (b1.toNat : Int) % 100 := ⟨_, rfl⟩
  have h0 : 0 ≤ L := by omega
  cases hf : fullD x t
  rotate_left
  · obtain ⟨f1, f2⟩ := save_limfull (L := L) (tn := tn) hxck hf
    exact crash_full A c d At ct t b1 b2 tn mo w hd h1 h2 htc ht hsm hlen hck L hL x hx hxck was n e hld _ _ f2 f1 rfl
  obtain ⟨a, g, hsv, hack, hal, hp0, hcase⟩ := crash_law (t := t) (torn := tn) hxck hf hxo h0
  have hpl : planD x t = ((planD x t).1, 0) := Prod.ext rfl hp0
  generalize (planD x t).1 = pl at hpl hcase
  obtain ⟨M, hM⟩ : ∃ M : Int, M = (b2.toNat : Int) % 100 := ⟨_, rfl⟩
  have text : ∀ (k : Nat) (nn m : Nat) (tt : List UInt8), newestD (onD a) = some (k, nn, m) → (loadD (onD a)).1 = tt → g = 170 → ((tt = t ∧ ((e = 0 ∧ (nn : Int) = n + 1) ∨ (e = 181 ∧ (nn : Int) = 0))) ∨ (e = 0 ∧ tt = was ∧ (nn : Int) = n)) →
      Calls Tryd.prog 8 #[dvD A c d, .slice At t.length ct, .int .u8 (b1.toNat : Int), .int .i64 tn, .int .u8 (b2.toNat : Int), .int .i64 mo] w fun e w' => e = .returned (.bool true) ∧ Below w.heap.size w w' := by
    intro k nn m tt hn ht1 hg hfo
    obtain ⟨s0, b, pp, hdo, hpp, hbck, y1, hrb, hnl⟩ := again_law hack hn M mo
    obtain ⟨dn, hrc⟩ := rec_eq hack hn
    rw [ht1] at hrc hrb
    have hx1 := rec_ck hack
    generalize hx1e : (recD a).1 = x1 at hnl hx1
    have hrc' : recD a = (x1, tt, (nn : Int), 0) := by rw [← hx1e, hrc]
    have hsl : (scrubD (onD a)).1.length ≤ 10000 := by
      have := scrub_len (d := onD a) (by have := (checkB_len hack).2; exact this)
      omega
    exact crash_text A c d At ct t b1 b2 tn mo w hd h1 h2 htc ht hsm hlen hck L hL x hx hxck was n e hld a g hsv hack pl hpl x1 tt (nn : Int) 0 hrc' hg rfl hle hfo (by omega) (onD a) rfl (scrubD (onD a)).1 (Prod.ext rfl s0) hsl M hM b pp hdo hpp hbck y1 hrb hnl hx1
  rcases hcase with ⟨hn, hl, hg⟩ | ⟨hg, hn, hl⟩
  · rcases hg with ⟨hg, hpn⟩ | hg
    · obtain ⟨dn, hrc⟩ := rec_eq hack hn
      rw [hl] at hrc
      exact crash_done A c d At ct t b1 b2 tn mo w hd h1 h2 htc ht hsm hlen hck L hL x hx hxck was n e hld a g hsv hack pl hpl _ _ _ _ hrc hg rfl rfl hpn
    · refine text _ _ _ t hn (by rw [hl]) hg (.inl ⟨rfl, ?_⟩)
      rcases hle with rfl | rfl
      · rw [if_pos rfl] at hnx; exact .inl ⟨rfl, hnx⟩
      · rw [if_neg (by decide)] at hnx; exact .inr ⟨rfl, by omega⟩
  · rcases hnx2 : newestD x with _ | ⟨k, nn, m⟩
    · rw [hnx2] at hn
      have he : e = 181 := by
        unfold loadD at hld
        rw [hxck, if_pos rfl, hnx2] at hld
        exact ((Prod.mk.inj (Prod.mk.inj hld).2).2).symm
      exact crash_none A c d At ct t b1 b2 tn mo w hd h1 h2 htc ht hsm hlen hck L hL x hx hxck was n e hld a g hsv hack pl hpl _ _ _ _ (rec_none hack hn) hg rfl he
    · rw [hnx2] at hn
      have h3 : (n : Int) = (nn : Int) ∧ e = 0 := by
        unfold loadD at hld
        rw [hxck, if_pos rfl, hnx2] at hld
        have h4 := (Prod.mk.inj hld).2
        exact ⟨(Prod.mk.inj h4).1.symm, (Prod.mk.inj h4).2.symm⟩
      exact text _ _ _ was hn (by rw [hl, hld]) hg (.inr ⟨h3.2, rfl, h3.1.symm⟩)
end Go.Proofs.YtgeofnemlijbgaaDoor

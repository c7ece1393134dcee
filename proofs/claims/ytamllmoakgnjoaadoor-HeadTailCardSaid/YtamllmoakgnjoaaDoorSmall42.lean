/- seedcornlaw42.small answers whether a store has few items, of few bytes each, no one twice; and facts of the digest of "ab" (awake). -/
import Derived.Test.YtamllmoakgnjoaaDoorFew
import Derived.Test.YtamllmoakgnjoaaDoorRight
import Derived.Test.YtamllmoakgnjoaaDoorAdd
namespace Go.Proofs.YtamllmoakgnjoaaDoor
open Go.RowKit
theorem fewE_small42 {ss : List ByteArray} {most bytes : Nat} (h : fewE ss most bytes = true) (hb : bytes ≤ 1000000) : small ss := fun s hs => Nat.le_trans ((fewE_spec h).2 s hs) hb
set_option maxRecDepth 100000 in
set_option maxHeartbeats 2000000 in
theorem small42_c (A : Option Addr) (n c : Nat) (ss : List ByteArray) (w : World) (hsz : ∀ s ∈ ss, s.size ≤ maxLen) (hP : Places w) (hs : SlS w A n c ss) :
    Calls Tryd.prog 30 #[.agg #[.slice A n c]] w fun e w' => e = .returned (.bool (fewE ss 20 60 && rightE ss)) ∧ Grow w w' := by
  have HS0 := Lib.hid (StAt.new hs hP)
  have HL := Lib.hid hs.2.2.1
  have f1 := Lib.hid (fun W (hW : StAt w W A n c ss) => rfew_c A n c ss 20 60 W (by omega) (by omega) hsz hW.pla hW.sl)
  have f2 := Lib.hid (fun W (hW : StAt w W A n c ss) (h : fewE ss 20 60 = true) => rright_c A n c ss W (by have := (fewE_spec h).1; rw [hs.2.2.1] at this; omega) (fewE_small42 h (by omega)) hW.pla hW.sl)
  clear hs hP hsz
  generalize hb : fewE ss 20 60 = b at *
  generalize hr : rightE ss = r at *
  clear hb hr
  go_enter Tryd.func30, Tryd.ntmps30
  go_upto_region 1 with (fail)
  refine wp_gen (fun W => StAt w W A n c ss) HS0.out ?_
  clear HS0
  intro w1 h1
  have hB := h1.box
  have H1 := Lib.hid h1
  clear h1
  go_wp2_with (refine wpList_load_row_g rfl TSt (.tmp 1) rfl w.heap.size rfl _ #[.slice A n c] (0, 0) _ hB Tryd.underlying24 rfl (st_row A n c) ?_)
  refine (f1.out _ H1.out).mono ?_
  rintro e w2 ⟨rfl, hg2⟩
  have hB2 := hB.grow hg2
  have H2 := Lib.hid (H1.out.grow hg2)
  clear hg2 hB
  cases b
  · go_wp2_with fail
    go_ret
    exact ⟨rfl, H2.out.gro⟩
  · go_wp2_with (refine wpList_load_row_g rfl TSt (.tmp 1) rfl w.heap.size rfl _ #[.slice A n c] (0, 0) _ hB2 Tryd.underlying24 rfl (st_row A n c) ?_)
    refine (f2.out _ H2.out trivial).mono ?_
    rintro e w3 ⟨rfl, hg3⟩
    have H3 := Lib.hid (H2.out.grow hg3)
    clear hg3
    go_wp2_with fail
    go_ret
    exact ⟨by rw [Bool.true_and]; rfl, H3.out.gro⟩
theorem ab_nz : decide (ofE [97, 98] = D.zero) = false := by decide
end Go.Proofs.YtamllmoakgnjoaaDoor

import Derived.Test.YthmepecedjamcaaDoorJouE
/- journal.Read over plain values. -/
namespace Go.Proofs.YthmepecedjamcaaDoor
open Go.RowKit
theorem SlS_of_own {w : World} {base : Nat} {e : TypeId} {n : Nat} {v : Value} {l : List ByteArray} (h : w.ownsRow base e 1 v n (l.map Value.string)) : ∃ A c, v = .slice A n c ∧ SlS w A n c l ∧ ∀ g o, A = some ⟨g, o, none⟩ → base ≤ g := by
  obtain ⟨A, c, h1, h2, h3, h4, h5⟩ := Sl.of_own h
  have hl : l.length = n := by simpa using h4
  refine ⟨A, c, h1, ⟨h2, h3, hl, fun hn => ?_⟩, fun g o hA => ?_⟩
  · rcases h5 with h5 | ⟨g, o, e, hlt, hc⟩
    · omega
    · refine ⟨g, o, e, hlt, fun i hi => hc i _ ?_⟩
      rw [List.getElem?_map, List.getD_eq_getElem?_getD, List.getElem?_eq_getElem (by omega)]
      rfl
  · subst hA
    rcases h.2 with ⟨hv, _⟩ | ⟨g', cap, cur, hv, hg, _⟩
    · rw [h1] at hv; cases hv
    · rw [h1] at hv; cases hv; exact hg
theorem rep_ownS {w w' : World} {F : Nat → Nat → Prop} {β : Nat → Option Nat} {v : Value} {n : Nat} {e : TypeId} {l : List ByteArray} (h : w'.ownsRow w.heap.size e 1 v n (l.map Value.string)) : Rep ⟨w', fun g i => F g i ∨ (w.heap.size ≤ g ∧ g < w'.heap.size), β, fun _ => none⟩ (.sl .any (ssP l)) v := by
  obtain ⟨A, c, rfl, hs, hb⟩ := SlS_of_own h
  obtain ⟨h1, h2, h3, h4⟩ := hs
  subst h3
  by_cases hn : 0 < l.length
  · obtain ⟨g, o, rfl, hg, hc⟩ := h4 hn
    have := hb g o rfl
    have key := Rep.sl (E := ⟨w', fun g i => F g i ∨ (w.heap.size ≤ g ∧ g < w'.heap.size), β, fun _ => none⟩) .any (ssP l) (some ⟨g, o, none⟩) c g o 1 (fun i _ => .string (l.getD i ByteArray.empty)) (by rw [ssP_len]; exact h1) h2 (fun h => by cases h) (fun t h => by cases h)
      (fun i hi => ssP_wide l i hi) (fun _ => rfl)
      (fun i j hi hj => by
        rw [ssP_len] at hi
        have : j = 0 := by omega
        subst this
        exact ⟨by show w'.cell? _ = _; simpa using hc i hi, .inr ⟨‹_›, hg⟩, rfl⟩)
      (fun i j hi hj => by
        rw [ssP_len] at hi
        have : j = 0 := by omega
        subst this
        rw [ssP_getD hi]; exact .v _)
    rw [ssP_len] at key
    exact key
  · have hl : l = [] := List.eq_nil_of_length_eq_zero (by omega)
    subst hl
    exact .sl .any [] A c 0 0 1 (fun _ _ => undef) h1 h2 (fun h => by cases h) (fun t h => by cases h) (fun i hi => by simp at hi) (fun h => absurd rfl h) (fun i j hi => by simp at hi) (fun i j hi => by simp at hi)
theorem s_read (l : List UInt8) (hl : l.length ≤ 900000) : Spec (Ctx.mk Tryd.prog globX (0 + 1) Places) 25 [.v (.string (bs l))] [] (.tup [.sl .any (ssP (bsL (readE 1000 l).1)), .v (.int .i64 (((readE 1000 l).2 : Nat) : Int))]) [] := by
  intro w F β vs hgp _ _ hargs _ hF _ hβ _
  obtain ⟨x, rfl, hx⟩ := repC1 hargs
  rw [hx.v_eq]
  refine (read_c l hl w hgp).mono ?_
  rintro e w' ⟨v, rfl, ho, hg⟩
  refine ⟨_, fun g i => F g i ∨ (w.heap.size ≤ g ∧ g < w'.heap.size), rfl, hg.os, hg.tape, hg.output, hg.size, fun k hk _ => hg.block k hk, fun _ _ h => .inl h, fun _ _ h => h, rfl, .tup _ _ rfl fun i hi => ?_, rfl, fun j hj => by simp at hj⟩
  have hi : i < 2 := hi
  match i, hi with
  | 0, _ => exact rep_ownS ho
  | 1, _ => exact .v _
end Go.Proofs.YthmepecedjamcaaDoor

import Derived.Test.YtjokaennipmmaaaDoorKeyV
import Derived.Test.YtjokaennipmmaaaDoorOpn
/- What keys yield, case by case, and arguments of the laws of keys. -/
namespace Go.Proofs.YtjokaennipmmaaaDoor
open Go.RowKit
theorem kpubI_ok {seed : D} {h : Int} (hh : 0 ≤ h ∧ h ≤ 4) : kpubI seed h = (kpubE seed h.toNat, 0) := if_pos hh
theorem kpubI_no {seed : D} {h : Int} (hh : ¬ (0 ≤ h ∧ h ≤ 4)) : kpubI seed h = (D.zero, 2) := if_neg hh
theorem knewI_ok {seed : D} {h : Int} (hh : 0 ≤ h ∧ h ≤ 4) : knewI seed h = ((seed, h, 0), 0) := if_pos hh
theorem knewI_no {seed : D} {h : Int} (hh : ¬ (0 ≤ h ∧ h ≤ 4)) : knewI seed h = (zeroSr, 2) := if_neg hh
theorem ksignI_no {seed : D} {h i : Int} {msg : D} (hh : ¬ (0 ≤ h ∧ h ≤ 4)) : ksignI seed h i msg = (zeroSg, 2) := by unfold ksignI; rw [if_neg hh]
theorem s_rkpublic_ok {seed : D} {h : Int} (hh : 0 ≤ h ∧ h ≤ 4) : Spec (Ctx.mk Tryd.prog globX (0 + 1) Places) 25 [.agg (dP seed), .v (.int .i64 h)] [] (.tup [.agg (dP (kpubE seed h.toNat)), .v (.int .i64 0)]) [] := by
  have := s_rkpublic seed h
  rw [kpubI_ok hh] at this
  exact this
theorem s_rkpublic_no {seed : D} {h : Int} (hh : ¬ (0 ≤ h ∧ h ≤ 4)) : Spec (Ctx.mk Tryd.prog globX (0 + 1) Places) 25 [.agg (dP seed), .v (.int .i64 h)] [] (.tup [.agg (dP D.zero), .v (.int .i64 2)]) [] := by
  have := s_rkpublic seed h
  rw [kpubI_no hh] at this
  exact this
theorem s_rksign_ok {seed msg : D} {h i : Int} (hh : 0 ≤ h ∧ h ≤ 4) (hi : 0 ≤ i ∧ i < ((2 ^ h.toNat : Nat) : Int)) : Spec (Ctx.mk Tryd.prog globX (0 + 1) Places) 26 [.agg (dP seed), .v (.int .i64 h), .v (.int .i64 i), .agg (dP msg)] [] (.tup [.agg (sgP (ksignE seed h.toNat i.toNat msg)), .v (.int .i64 0)]) [] := by
  have := s_rksign seed h i msg
  rw [ksignI_ok hh hi] at this
  exact this
theorem s_rksign_arg {seed msg : D} {h i : Int} (hh : 0 ≤ h ∧ h ≤ 4) (hi : ¬ (0 ≤ i ∧ i < ((2 ^ h.toNat : Nat) : Int))) : Spec (Ctx.mk Tryd.prog globX (0 + 1) Places) 26 [.agg (dP seed), .v (.int .i64 h), .v (.int .i64 i), .agg (dP msg)] [] (.tup [.agg (sgP zeroSg), .v (.int .i64 1)]) [] := by
  have := s_rksign seed h i msg
  rw [ksignI_arg hh hi] at this
  exact this
theorem s_rksign_no {seed msg : D} {h i : Int} (hh : ¬ (0 ≤ h ∧ h ≤ 4)) : Spec (Ctx.mk Tryd.prog globX (0 + 1) Places) 26 [.agg (dP seed), .v (.int .i64 h), .v (.int .i64 i), .agg (dP msg)] [] (.tup [.agg (sgP zeroSg), .v (.int .i64 2)]) [] := by
  have := s_rksign seed h i msg
  rw [ksignI_no hh] at this
  exact this
theorem ksign_path (seed msg : D) {h i : Nat} (hi : i < 2 ^ h) : (ksignE seed h i msg).2.2.length = h := way_pow seed hi
theorem isV_int {k : IntKind} {p : PV} (h : IsV (.int k) p) : ∃ n, (Lit.int k n).wf = true ∧ p = .v (.int k n) := h
/-- A signature that came in. -/
def shSg : Sh := .cons (.int .i64) (.cons (.sl shD) (.cons (.sl shD) .nil))
theorem is_Sg {ps : List PV} (h : Is shSg ps) : ∃ s : Sg, s.2.1.length ≤ maxLen ∧ s.2.2.length ≤ maxLen ∧ (Lit.int .i64 s.1).wf = true ∧ ps = sgP s := by
  obtain ⟨x, y, ⟨n, hn, rfl⟩, ⟨x2, y2, ⟨es, h1, h2, rfl⟩, ⟨x3, y3, ⟨es', h3, h4, rfl⟩, h5, rfl⟩, rfl⟩, rfl⟩ := h
  obtain rfl : y3 = [] := h5
  obtain ⟨a, rfl⟩ := is_ds h2
  obtain ⟨b, rfl⟩ := is_ds h4
  rw [dsP_len] at h1 h3
  exact ⟨(n, a, b), h1, h3, hn, rfl⟩
theorem isV_Sg {p : PV} (h : IsV (.st shSg) p) : ∃ s : Sg, s.2.1.length ≤ maxLen ∧ s.2.2.length ≤ maxLen ∧ (Lit.int .i64 s.1).wf = true ∧ p = .agg (sgP s) := by
  obtain ⟨ps, h1, rfl⟩ := h
  obtain ⟨s, h2, h3, h4, rfl⟩ := is_Sg h1
  exact ⟨s, h2, h3, h4, rfl⟩
/-- A signer that came in. -/
theorem isV_Sr {p : PV} (h : IsV (.st (.cons shD (.cons (.int .i64) (.cons (.int .i64) .nil)))) p) : ∃ s : Sr, (Lit.int .i64 s.2.1).wf = true ∧ (Lit.int .i64 s.2.2).wf = true ∧ p = .agg (srP s) := by
  obtain ⟨ps, ⟨x, y, hx, ⟨x2, y2, ⟨n, hn, rfl⟩, ⟨x3, y3, ⟨m, hm, rfl⟩, h5, rfl⟩, rfl⟩, rfl⟩, rfl⟩ := h
  obtain rfl : y3 = [] := h5
  obtain ⟨d, rfl⟩ := is_D hx
  exact ⟨(d, n, m), hn, hm, rfl⟩
theorem isV_two {k : IntKind} {p : PV} (h : IsV (.arr 2 (.int k)) p) : ∃ a b : Int, (Lit.int k a).wf = true ∧ (Lit.int k b).wf = true ∧ p = .agg [.v (.int k a), .v (.int k b)] := by
  obtain ⟨ps, ⟨es, hl, he, rfl⟩, rfl⟩ := h
  match es, hl with
  | [x, y], _ =>
    obtain ⟨a, ha, rfl⟩ := he x (by simp)
    obtain ⟨b, hb, rfl⟩ := he y (by simp)
    exact ⟨a, b, ha, hb, rfl⟩
theorem isV_thr {k : IntKind} {p : PV} (h : IsV (.arr 3 (.int k)) p) : ∃ a b c : Int, (Lit.int k a).wf = true ∧ (Lit.int k b).wf = true ∧ (Lit.int k c).wf = true ∧ p = .agg [.v (.int k a), .v (.int k b), .v (.int k c)] := by
  obtain ⟨ps, ⟨es, hl, he, rfl⟩, rfl⟩ := h
  match es, hl with
  | [x, y, z], _ =>
    obtain ⟨a, ha, rfl⟩ := he x (by simp)
    obtain ⟨b, hb, rfl⟩ := he y (by simp)
    obtain ⟨c, hc, rfl⟩ := he z (by simp)
    exact ⟨a, b, c, ha, hb, hc, rfl⟩
theorem isV_ds {p : PV} (h : IsV (.sl shD) p) : ∃ l : List D, l.length ≤ maxLen ∧ p = .sl .any (dsP l) := by
  obtain ⟨es, hn, he, rfl⟩ := h
  obtain ⟨l, rfl⟩ := is_ds he
  exact ⟨l, by rwa [dsP_len] at hn, rfl⟩
/-- Two messages with signatures. -/
theorem isV_Pair {p : PV} (h : IsV (.st (.cons shD (.cons shD (.cons shD (.cons (.st shSg) (.cons (.st shSg) .nil)))))) p) : ∃ (a b c : D) (s t : Sg), p = .agg (dP a ++ (dP b ++ (dP c ++ (sgP s ++ (sgP t ++ []))))) := by
  obtain ⟨ps, ⟨x, y, hx, ⟨x2, y2, hx2, ⟨x3, y3, hx3, ⟨x4, y4, hx4, ⟨x5, y5, hx5, h6, rfl⟩, rfl⟩, rfl⟩, rfl⟩, rfl⟩, rfl⟩ := h
  obtain rfl : y5 = [] := h6
  obtain ⟨a, rfl⟩ := is_D hx
  obtain ⟨b, rfl⟩ := is_D hx2
  obtain ⟨c, rfl⟩ := is_D hx3
  obtain ⟨s, -, -, -, rfl⟩ := is_Sg hx4
  obtain ⟨t, -, -, -, rfl⟩ := is_Sg hx5
  exact ⟨a, b, c, s, t, rfl⟩
/-- A link, and what was signed. -/
abbrev Lk := D × D
def lkP (l : Lk) : List PV := [.v (u (l.1.1.getD 0 0)), .v (u (l.1.1.getD 1 0)), .v (u (l.1.1.getD 2 0)), .v (u (l.1.1.getD 3 0)), .v (u (l.2.1.getD 0 0)), .v (u (l.2.1.getD 1 0)), .v (u (l.2.1.getD 2 0)), .v (u (l.2.1.getD 3 0))]
abbrev Sd := D × Sg
def sdP (s : Sd) : List PV := [.v (u (s.1.1.getD 0 0)), .v (u (s.1.1.getD 1 0)), .v (u (s.1.1.getD 2 0)), .v (u (s.1.1.getD 3 0)), .v (.int .i64 s.2.1), .sl .any (dsP s.2.2.1), .sl .any (dsP s.2.2.2)]
def shLk : Sh := .cons shD (.cons shD .nil)
def shSd : Sh := .cons shD (.cons (.st shSg) .nil)
theorem is_Lk {ps : List PV} (h : Is shLk ps) : ∃ l : Lk, ps = lkP l := by
  obtain ⟨x, y, hx, ⟨x2, y2, hx2, h3, rfl⟩, rfl⟩ := h
  obtain rfl : y2 = [] := h3
  obtain ⟨a, rfl⟩ := is_D hx
  obtain ⟨b, rfl⟩ := is_D hx2
  exact ⟨(a, b), rfl⟩
theorem is_Sd {ps : List PV} (h : Is shSd ps) : ∃ s : Sd, ps = sdP s := by
  obtain ⟨x, y, hx, ⟨x2, y2, hx2, h3, rfl⟩, rfl⟩ := h
  obtain rfl : y2 = [] := h3
  obtain ⟨a, rfl⟩ := is_D hx
  obtain ⟨s, -, -, -, rfl⟩ := is_Sg hx2
  exact ⟨(a, s), rfl⟩
theorem isV_Lk {p : PV} (h : IsV (.st shLk) p) : ∃ l : Lk, p = .agg (lkP l) := by
  obtain ⟨ps, h1, rfl⟩ := h
  obtain ⟨l, rfl⟩ := is_Lk h1
  exact ⟨l, rfl⟩
theorem isV_Sd {p : PV} (h : IsV (.st shSd) p) : ∃ s : Sd, p = .agg (sdP s) := by
  obtain ⟨ps, h1, rfl⟩ := h
  obtain ⟨l, rfl⟩ := is_Sd h1
  exact ⟨l, rfl⟩
end Go.Proofs.YtjokaennipmmaaaDoor

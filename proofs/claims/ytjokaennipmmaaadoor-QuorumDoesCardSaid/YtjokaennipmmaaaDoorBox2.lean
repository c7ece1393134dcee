import Derived.Test.YtjokaennipmmaaaDoorP4
/- A call that is handed a plain value and two boxes: of a literal that captured them. -/
namespace Go.Proofs.YtjokaennipmmaaaDoor
open Go.RowKit
theorem vcCall_box2 {C : Ctx} {np : Nat} {f : FuncId} {k1 k2 : Nat} {x : PV} {c1 c2 d1 d2 o1 o2 : List PV} {hp : Nat → HC} {K : Eff → Prop} {r : PV} (h : Spec C f [x, .ptr 1 0, .ptr 2 0] [d1, d2] r [o1, o2]) (hx : x.plain = true) (h1 : k1 ≠ 0) (h2 : k2 ≠ 0) (hne : k1 ≠ k2)
    (e1 : hp k1 = .cells c1) (e2 : hp k2 = .cells c2) (l1 : c1.all PV.leaf = true) (l2 : c2.all PV.leaf = true) (m1 : c1.map PV.dem1 = d1) (m2 : c2.map PV.dem1 = d2) (p1 : o1.all PV.plain1 = true) (p2 : o2.all PV.plain1 = true)
    (hK : K ⟨r, [(k1, .cells o1), (k2, .cells o2)], [k1, k2]⟩) : vcCall C np f [x, .ptr k1 0, .ptr k2 0] hp K := by
  subst m1 m2
  refine ⟨[], [k1, k2], [x, .ptr 1 0, .ptr 2 0], [.cells c1, .cells c2], r, [.cells o1, .cells o2], ?_, by simp [hne], rfl, fun j hj => ?_, ?_, ?_, ?_, h, hK⟩
  · have : ren [k1, k2] x = x := by cases x <;> first | rfl | simp [PV.plain] at hx
    simp only [List.map_cons, List.map_nil, this]
    rfl
  · have : j = 0 ∨ j = 1 := by simp only [List.length_cons, List.length_nil] at hj; omega
    rcases this with rfl | rfl
    · exact ⟨h1, e1⟩
    · exact ⟨h2, e2⟩
  · intro c hc
    simp only [List.mem_cons, List.not_mem_nil, or_false] at hc
    rcases hc with rfl | rfl
    · exact l1
    · exact l2
  · intro c hc
    simp only [List.mem_cons, List.not_mem_nil, or_false] at hc
    rcases hc with rfl | rfl
    · exact p1
    · exact p2
  · intro a ha
    simp only [List.mem_cons, List.not_mem_nil, or_false] at ha
    rcases ha with rfl | rfl | rfl
    · exact .inl hx
    · exact .inr (.inl ⟨1, 0, rfl, Nat.le_refl 1, by simp⟩)
    · exact .inr (.inl ⟨2, 0, rfl, by simp, by simp⟩)
end Go.Proofs.YtjokaennipmmaaaDoor

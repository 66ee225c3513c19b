/- The list of the functions that the law reaches, as the value machine has them, and that they are the program's: printed by a program of mine. No condition. -/
import Derived.Test.YtkdimbcfacoboaaGreatDoorIrA
import Derived.Test.YtkdimbcfacoboaaGreatDoorChecked
import Derived.KernelRfl
namespace Go.Proofs.YtkdimbcfacoboaaGreatDoor
open Go Go.Sx
def imT (t : TypeId) : Bool := [123, 138].contains t
def ow (f : FuncId) : Bool := [6, 13, 19, 21, 24, 25, 26, 28, 36, 40, 64, 65].contains f
def irs0_ : List (FuncId × IRF) := [(3, ir3), (4, ir4), (5, ir5), (6, ir6), (7, ir7), (8, ir8), (9, ir9), (10, ir10), (11, ir11), (12, ir12), (13, ir13), (14, ir14), (15, ir15), (16, ir16), (17, ir17), (18, ir18), (19, ir19), (24, ir24), (25, ir25), (26, ir26), (27, ir27), (28, ir28), (29, ir29), (30, ir30), (31, ir31), (32, ir32), (33, ir33), (40, ir40), (41, ir41), (42, ir42), (43, ir43), (44, ir44), (45, ir45), (50, ir50), (51, ir51), (52, ir52), (53, ir53), (54, ir54), (55, ir55), (58, ir58)]
theorem irs0_ok : ∀ p ∈ irs0_, ∃ fn, Tryz.prog.funcs[p.1]? = some fn ∧ cF Tryz.prog imT (ow p.1) fn = some p.2 ∧ fn.name ≠ "runtime.NumGoroutine" := by
  unfold irs0_
  simp only [List.forall_mem_cons]
  refine ⟨⟨Tryz.f3, Tryz.func3, by kernel_rfl, by decide⟩, ⟨Tryz.f4, Tryz.func4, by kernel_rfl, by decide⟩, ⟨Tryz.f5, Tryz.func5, by kernel_rfl, by decide⟩, ⟨Tryz.f6, Tryz.func6, by kernel_rfl, by decide⟩, ⟨Tryz.f7, Tryz.func7, by kernel_rfl, by decide⟩, ⟨Tryz.f8, Tryz.func8, by kernel_rfl, by decide⟩, ⟨Tryz.f9, Tryz.func9, by kernel_rfl, by decide⟩, ⟨Tryz.f10, Tryz.func10, by kernel_rfl, by decide⟩, ⟨Tryz.f11, Tryz.func11, by kernel_rfl, by decide⟩, ⟨Tryz.f12, Tryz.func12, by kernel_rfl, by decide⟩, ⟨Tryz.f13, Tryz.func13, by kernel_rfl, by decide⟩, ⟨Tryz.f14, Tryz.func14, by kernel_rfl, by decide⟩, ⟨Tryz.f15, Tryz.func15, by kernel_rfl, by decide⟩, ⟨Tryz.f16, Tryz.func16, by kernel_rfl, by decide⟩, ⟨Tryz.f17, Tryz.func17, by kernel_rfl, by decide⟩, ⟨Tryz.f18, Tryz.func18, by kernel_rfl, by decide⟩, ⟨Tryz.f19, Tryz.func19, by kernel_rfl, by decide⟩, ⟨Tryz.f24, Tryz.func24, by kernel_rfl, by decide⟩, ⟨Tryz.f25, Tryz.func25, by kernel_rfl, by decide⟩, ⟨Tryz.f26, Tryz.func26, by kernel_rfl, by decide⟩, ⟨Tryz.f27, Tryz.func27, by kernel_rfl, by decide⟩, ⟨Tryz.f28, Tryz.func28, by kernel_rfl, by decide⟩, ⟨Tryz.f29, Tryz.func29, by kernel_rfl, by decide⟩, ⟨Tryz.f30, Tryz.func30, by kernel_rfl, by decide⟩, ⟨Tryz.f31, Tryz.func31, by kernel_rfl, by decide⟩, ⟨Tryz.f32, Tryz.func32, by kernel_rfl, by decide⟩, ⟨Tryz.f33, Tryz.func33, by kernel_rfl, by decide⟩, ⟨Tryz.f40, Tryz.func40, by kernel_rfl, by decide⟩, ⟨Tryz.f41, Tryz.func41, by kernel_rfl, by decide⟩, ⟨Tryz.f42, Tryz.func42, by kernel_rfl, by decide⟩, ⟨Tryz.f43, Tryz.func43, by kernel_rfl, by decide⟩, ⟨Tryz.f44, Tryz.func44, by kernel_rfl, by decide⟩, ⟨Tryz.f45, Tryz.func45, by kernel_rfl, by decide⟩, ⟨Tryz.f50, Tryz.func50, by kernel_rfl, by decide⟩, ⟨Tryz.f51, Tryz.func51, by kernel_rfl, by decide⟩, ⟨Tryz.f52, Tryz.func52, by kernel_rfl, by decide⟩, ⟨Tryz.f53, Tryz.func53, by kernel_rfl, by decide⟩, ⟨Tryz.f54, Tryz.func54, by kernel_rfl, by decide⟩, ⟨Tryz.f55, Tryz.func55, by kernel_rfl, by decide⟩, ⟨Tryz.f58, Tryz.func58, by kernel_rfl, by decide⟩, fun _ h => by cases h⟩
def irs1_ : List (FuncId × IRF) := [(75, ir75)]
theorem irs1_ok : ∀ p ∈ irs1_, ∃ fn, Tryz.prog.funcs[p.1]? = some fn ∧ cF Tryz.prog imT (ow p.1) fn = some p.2 ∧ fn.name ≠ "runtime.NumGoroutine" := by
  unfold irs1_
  simp only [List.forall_mem_cons]
  refine ⟨⟨Tryz.f75, Tryz.func75, by kernel_rfl, by decide⟩, fun _ h => by cases h⟩
def irs : List (FuncId × IRF) := irs0_ ++ irs1_
theorem irs_ok : ∀ p ∈ irs, ∃ fn, Tryz.prog.funcs[p.1]? = some fn ∧ cF Tryz.prog imT (ow p.1) fn = some p.2 ∧ fn.name ≠ "runtime.NumGoroutine" := by
  intro p hp
  simp only [irs, List.mem_append] at hp
  rcases hp with (h0 | h1)
  · exact irs0_ok p h0
  · exact irs1_ok p h1
end Go.Proofs.YtkdimbcfacoboaaGreatDoor

/- The evaluator over this seat: the functions that it enters. Written by evgen.py. -/
import Derived.Test.YtocbmekcokenoaaDoorGS
import Derived.Test.YtocbmekcokenoaaDoorG3
set_option maxRecDepth 1000000
namespace Go.Proofs.YtocbmekcokenoaaDoor
open Go Go.Dm
noncomputable def tblL : List (Nat × Func) := [(8, Tryd.f8), (12, Tryd.f12), (17, Tryd.f17), (19, Tryd.f19), (23, Tryd.f23), (9, Tryd.f9), (24, Tryd.f24), (43, Tryd.f43), (25, Tryd.f25), (29, Tryd.f29), (30, Tryd.f30), (45, Tryd.f45), (26, Tryd.f26), (32, Tryd.f32), (46, Tryd.f46), (47, Tryd.f47), (48, Tryd.f48), (58, Tryd.f58), (33, Tryd.f33), (34, Tryd.f34), (51, Tryd.f51), (35, Tryd.f35), (38, Tryd.f38), (54, Tryd.f54), (57, Tryd.f57), (66, Tryd.f66), (37, Tryd.f37), (53, Tryd.f53), (39, Tryd.f39), (55, Tryd.f55), (61, Tryd.f61), (67, Tryd.f67), (75, Tryd.f75), (74, Tryd.f74), (76, Tryd.f76), (68, Tryd.f68), (56, Tryd.f56), (62, Tryd.f62), (40, Tryd.f40), (41, Tryd.f41), (42, Tryd.f42)]
noncomputable def tbl (g : FuncId) : Option Func := tblL.lookup g
def idf (g : FuncId) : Bool := [60].contains g
def prf (g : FuncId) : Bool := !([12, 17, 30, 33, 45].contains g)
theorem ok8 : okF Tryd.f8 = true := by kernel_rfl
theorem ok12 : okF Tryd.f12 = true := by kernel_rfl
theorem ok17 : okF Tryd.f17 = true := by kernel_rfl
theorem ok19 : okF Tryd.f19 = true := by kernel_rfl
theorem ok23 : okF Tryd.f23 = true := by kernel_rfl
theorem ok9 : okF Tryd.f9 = true := by kernel_rfl
theorem ok24 : okF Tryd.f24 = true := by kernel_rfl
theorem ok43 : okF Tryd.f43 = true := by kernel_rfl
theorem ok25 : okF Tryd.f25 = true := by kernel_rfl
theorem ok29 : okF Tryd.f29 = true := by kernel_rfl
theorem ok30 : okF Tryd.f30 = true := by kernel_rfl
theorem ok45 : okF Tryd.f45 = true := by kernel_rfl
theorem ok26 : okF Tryd.f26 = true := by kernel_rfl
theorem ok32 : okF Tryd.f32 = true := by kernel_rfl
theorem ok46 : okF Tryd.f46 = true := by kernel_rfl
theorem ok47 : okF Tryd.f47 = true := by kernel_rfl
theorem ok48 : okF Tryd.f48 = true := by kernel_rfl
theorem ok58 : okF Tryd.f58 = true := by kernel_rfl
theorem ok33 : okF Tryd.f33 = true := by kernel_rfl
theorem ok34 : okF Tryd.f34 = true := by kernel_rfl
theorem ok51 : okF Tryd.f51 = true := by kernel_rfl
theorem ok35 : okF Tryd.f35 = true := by kernel_rfl
theorem ok38 : okF Tryd.f38 = true := by kernel_rfl
theorem ok54 : okF Tryd.f54 = true := by kernel_rfl
theorem ok57 : okF Tryd.f57 = true := by kernel_rfl
theorem ok66 : okF Tryd.f66 = true := by kernel_rfl
theorem ok37 : okF Tryd.f37 = true := by kernel_rfl
theorem ok53 : okF Tryd.f53 = true := by kernel_rfl
theorem ok39 : okF Tryd.f39 = true := by kernel_rfl
theorem ok55 : okF Tryd.f55 = true := by kernel_rfl
theorem ok61 : okF Tryd.f61 = true := by kernel_rfl
theorem ok67 : okF Tryd.f67 = true := by kernel_rfl
theorem ok75 : okF Tryd.f75 = true := by kernel_rfl
theorem ok74 : okF Tryd.f74 = true := by kernel_rfl
theorem ok76 : okF Tryd.f76 = true := by kernel_rfl
theorem ok68 : okF Tryd.f68 = true := by kernel_rfl
theorem ok56 : okF Tryd.f56 = true := by kernel_rfl
theorem ok62 : okF Tryd.f62 = true := by kernel_rfl
theorem ok40 : okF Tryd.f40 = true := by kernel_rfl
theorem ok41 : okF Tryd.f41 = true := by kernel_rfl
theorem ok42 : okF Tryd.f42 = true := by kernel_rfl
theorem tblL_ok : TblL Tryd.prog tblL := ⟨⟨Tryd.func8, ok8⟩, ⟨⟨Tryd.func12, ok12⟩, ⟨⟨Tryd.func17, ok17⟩, ⟨⟨Tryd.func19, ok19⟩, ⟨⟨Tryd.func23, ok23⟩, ⟨⟨Tryd.func9, ok9⟩, ⟨⟨Tryd.func24, ok24⟩, ⟨⟨Tryd.func43, ok43⟩, ⟨⟨Tryd.func25, ok25⟩, ⟨⟨Tryd.func29, ok29⟩, ⟨⟨Tryd.func30, ok30⟩, ⟨⟨Tryd.func45, ok45⟩, ⟨⟨Tryd.func26, ok26⟩, ⟨⟨Tryd.func32, ok32⟩, ⟨⟨Tryd.func46, ok46⟩, ⟨⟨Tryd.func47, ok47⟩, ⟨⟨Tryd.func48, ok48⟩, ⟨⟨Tryd.func58, ok58⟩, ⟨⟨Tryd.func33, ok33⟩, ⟨⟨Tryd.func34, ok34⟩, ⟨⟨Tryd.func51, ok51⟩, ⟨⟨Tryd.func35, ok35⟩, ⟨⟨Tryd.func38, ok38⟩, ⟨⟨Tryd.func54, ok54⟩, ⟨⟨Tryd.func57, ok57⟩, ⟨⟨Tryd.func66, ok66⟩, ⟨⟨Tryd.func37, ok37⟩, ⟨⟨Tryd.func53, ok53⟩, ⟨⟨Tryd.func39, ok39⟩, ⟨⟨Tryd.func55, ok55⟩, ⟨⟨Tryd.func61, ok61⟩, ⟨⟨Tryd.func67, ok67⟩, ⟨⟨Tryd.func75, ok75⟩, ⟨⟨Tryd.func74, ok74⟩, ⟨⟨Tryd.func76, ok76⟩, ⟨⟨Tryd.func68, ok68⟩, ⟨⟨Tryd.func56, ok56⟩, ⟨⟨Tryd.func62, ok62⟩, ⟨⟨Tryd.func40, ok40⟩, ⟨⟨Tryd.func41, ok41⟩, ⟨⟨Tryd.func42, ok42⟩, trivial⟩⟩⟩⟩⟩⟩⟩⟩⟩⟩⟩⟩⟩⟩⟩⟩⟩⟩⟩⟩⟩⟩⟩⟩⟩⟩⟩⟩⟩⟩⟩⟩⟩⟩⟩⟩⟩⟩⟩⟩⟩
theorem idf60 (v : Value) (h : Heap) (n : Nat) : Go.Dm.Spec Tryd.prog 60 [v] h n fun r' h' n' => r' = v ∧ h' = h ∧ n' = n :=
  Spec.same_extern (e := Extern.AbiNoEscape.same) Tryd.func60 (by kernel_rfl) (by kernel_rfl) (by kernel_rfl) (by kernel_rfl) (fun v w => rfl) v h n
theorem tblOK : TblOK Tryd.prog tbl (fun _ _ => none) idf where
  fn g fn h := tblL_ok.get h
  orc g vs r h := by cases h
  idf g h := by
    simp only [idf, List.contains_eq_mem, decide_eq_true_eq, List.mem_cons, List.mem_nil_iff, or_false] at h
    subst h; exact idf60
  mixed := mixed
end Go.Proofs.YtocbmekcokenoaaDoor
/- The example of the chapter: awake. -/
set_option maxRecDepth 1000000
namespace Go.Proofs.YtocbmekcokenoaaDoor
open Go Go.Dm
theorem w8 : Pure Tryd.prog 8 [] (.bool true) := Pure.eval tblOK (pr := prf) 2000 (by kernel_rfl)
end Go.Proofs.YtocbmekcokenoaaDoor

/-
  The model's code reads as the plain functions: checked by the kernel. Printed by run3.py.
-/
import Derived.Test.YtbobbkgdbfcblaaDoorMir1
import Derived.Test.YtbobbkgdbfcblaaDoorSemS
import Derived.Test.YtbobbkgdbfcblaaDoorProg
set_option linter.all false
namespace Go.Proofs.YtbobbkgdbfcblaaDoor
open Go
def globs : Nat → Option (List PV)
  | 0 => some gFirst
  | 1 => some gMore
  | _ => none
def E (a : Nat → Option Hd) : Env := { fid := fun f => f, glob := globs, raw := fun f => f == 44, ro := fun _ => false, rov := false, ann := a, labs := fun _ => none }
theorem ok3 : denF Tryd.prog (E ann3) Tryd.f3 = m3 := by kernel_rfl
theorem ok4 : denF Tryd.prog (E ann4) Tryd.f4 = m4 := by kernel_rfl
theorem ok5 : denF Tryd.prog (E ann5) Tryd.f5 = m5 := by kernel_rfl
theorem ok6 : denF Tryd.prog (E ann6) Tryd.f6 = m6 := by kernel_rfl
theorem ok7 : denF Tryd.prog (E ann7) Tryd.f7 = m7 := by kernel_rfl
theorem ok8 : denF Tryd.prog (E ann8) Tryd.f8 = m8 := by kernel_rfl
theorem ok9 : denF Tryd.prog (E ann9) Tryd.f9 = m9 := by kernel_rfl
theorem ok10 : denF Tryd.prog (E ann10) Tryd.f10 = m10 := by kernel_rfl
theorem ok11 : denF Tryd.prog (E ann11) Tryd.f11 = m11 := by kernel_rfl
theorem ok12 : denF Tryd.prog (E ann12) Tryd.f12 = m12 := by kernel_rfl
theorem ok13 : denF Tryd.prog (E ann13) Tryd.f13 = m13 := by kernel_rfl
theorem ok14 : denF Tryd.prog (E ann14) Tryd.f14 = m14 := by kernel_rfl
theorem ok15 : denF Tryd.prog (E ann15) Tryd.f15 = m15 := by kernel_rfl
theorem ok16 : denF Tryd.prog (E ann16) Tryd.f16 = m16 := by kernel_rfl
theorem ok17 : denF Tryd.prog (E ann17) Tryd.f17 = m17 := by kernel_rfl
theorem ok18 : denF Tryd.prog (E ann18) Tryd.f18 = m18 := by kernel_rfl
theorem ok19 : denF Tryd.prog (E ann19) Tryd.f19 = m19 := by kernel_rfl
theorem ok20 : denF Tryd.prog (E ann20) Tryd.f20 = m20 := by kernel_rfl
theorem ok21 : denF Tryd.prog (E ann21) Tryd.f21 = m21 := by kernel_rfl
theorem ok22 : denF Tryd.prog (E ann22) Tryd.f22 = m22 := by kernel_rfl
theorem ok23 : denF Tryd.prog (E ann23) Tryd.f23 = m23 := by kernel_rfl
theorem ok24 : denF Tryd.prog (E ann24) Tryd.f24 = m24 := by kernel_rfl
theorem ok25 : denF Tryd.prog (E ann25) Tryd.f25 = m25 := by kernel_rfl
theorem ok26 : denF Tryd.prog (E ann26) Tryd.f26 = m26 := by kernel_rfl
theorem ok27 : denF Tryd.prog (E ann27) Tryd.f27 = m27 := by kernel_rfl
theorem ok28 : denF Tryd.prog (E ann28) Tryd.f28 = m28 := by kernel_rfl
theorem ok29 : denF Tryd.prog (E ann29) Tryd.f29 = m29 := by kernel_rfl
theorem ok30 : denF Tryd.prog (E ann30) Tryd.f30 = m30 := by kernel_rfl
theorem ok31 : denF Tryd.prog (E ann31) Tryd.f31 = m31 := by kernel_rfl
theorem ok32 : denF Tryd.prog (E ann32) Tryd.f32 = m32 := by kernel_rfl
theorem ok33 : denF Tryd.prog (E ann33) Tryd.f33 = m33 := by kernel_rfl
theorem ok34 : denF Tryd.prog (E ann34) Tryd.f34 = m34 := by kernel_rfl
theorem ok35 : denF Tryd.prog (E ann35) Tryd.f35 = m35 := by kernel_rfl
theorem ok36 : denF Tryd.prog (E ann36) Tryd.f36 = m36 := by kernel_rfl
theorem ok37 : denF Tryd.prog (E ann37) Tryd.f37 = m37 := by kernel_rfl
theorem ok38 : denF Tryd.prog (E ann38) Tryd.f38 = m38 := by kernel_rfl
theorem ok39 : denF Tryd.prog (E ann39) Tryd.f39 = m39 := by kernel_rfl
theorem ok40 : denF Tryd.prog (E ann40) Tryd.f40 = m40 := by kernel_rfl
theorem ok41 : denF Tryd.prog (E ann41) Tryd.f41 = m41 := by kernel_rfl
theorem ok42 : denF Tryd.prog (E ann42) Tryd.f42 = m42 := by kernel_rfl
theorem ok43 : denF Tryd.prog (E ann43) Tryd.f43 = m43 := by kernel_rfl
theorem ok44 : denF Tryd.prog (E ann44) Tryd.f44 = m44 := by kernel_rfl
theorem ok45 : denF Tryd.prog (E ann45) Tryd.f45 = m45 := by kernel_rfl
theorem ok46 : denF Tryd.prog (E ann46) Tryd.f46 = m46 := by kernel_rfl
theorem ok47 : denF Tryd.prog (E ann47) Tryd.f47 = m47 := by kernel_rfl
theorem ok48 : denF Tryd.prog (E ann48) Tryd.f48 = m48 := by kernel_rfl
theorem ok49 : denF Tryd.prog (E ann49) Tryd.f49 = m49 := by kernel_rfl
theorem ok50 : denF Tryd.prog (E ann50) Tryd.f50 = m50 := by kernel_rfl
theorem tabled : Tabled Tryd.prog (fun f => f) globs tab := by
  intro f0 m H0
  have H : tab f0 = some m := H0
  clear H0
  unfold tab at H
  split at H
  · injection H with H; subst H; exact ⟨Tryd.f3, E ann3, Tryd.func3, by kernel_rfl, ok3.symm, rfl, rfl, fun _ => rfl, rfl⟩
  · injection H with H; subst H; exact ⟨Tryd.f4, E ann4, Tryd.func4, by kernel_rfl, ok4.symm, rfl, rfl, fun _ => rfl, rfl⟩
  · injection H with H; subst H; exact ⟨Tryd.f5, E ann5, Tryd.func5, by kernel_rfl, ok5.symm, rfl, rfl, fun _ => rfl, rfl⟩
  · injection H with H; subst H; exact ⟨Tryd.f6, E ann6, Tryd.func6, by kernel_rfl, ok6.symm, rfl, rfl, fun _ => rfl, rfl⟩
  · injection H with H; subst H; exact ⟨Tryd.f7, E ann7, Tryd.func7, by kernel_rfl, ok7.symm, rfl, rfl, fun _ => rfl, rfl⟩
  · injection H with H; subst H; exact ⟨Tryd.f8, E ann8, Tryd.func8, by kernel_rfl, ok8.symm, rfl, rfl, fun _ => rfl, rfl⟩
  · injection H with H; subst H; exact ⟨Tryd.f9, E ann9, Tryd.func9, by kernel_rfl, ok9.symm, rfl, rfl, fun _ => rfl, rfl⟩
  · injection H with H; subst H; exact ⟨Tryd.f10, E ann10, Tryd.func10, by kernel_rfl, ok10.symm, rfl, rfl, fun _ => rfl, rfl⟩
  · injection H with H; subst H; exact ⟨Tryd.f11, E ann11, Tryd.func11, by kernel_rfl, ok11.symm, rfl, rfl, fun _ => rfl, rfl⟩
  · injection H with H; subst H; exact ⟨Tryd.f12, E ann12, Tryd.func12, by kernel_rfl, ok12.symm, rfl, rfl, fun _ => rfl, rfl⟩
  · injection H with H; subst H; exact ⟨Tryd.f13, E ann13, Tryd.func13, by kernel_rfl, ok13.symm, rfl, rfl, fun _ => rfl, rfl⟩
  · injection H with H; subst H; exact ⟨Tryd.f14, E ann14, Tryd.func14, by kernel_rfl, ok14.symm, rfl, rfl, fun _ => rfl, rfl⟩
  · injection H with H; subst H; exact ⟨Tryd.f15, E ann15, Tryd.func15, by kernel_rfl, ok15.symm, rfl, rfl, fun _ => rfl, rfl⟩
  · injection H with H; subst H; exact ⟨Tryd.f16, E ann16, Tryd.func16, by kernel_rfl, ok16.symm, rfl, rfl, fun _ => rfl, rfl⟩
  · injection H with H; subst H; exact ⟨Tryd.f17, E ann17, Tryd.func17, by kernel_rfl, ok17.symm, rfl, rfl, fun _ => rfl, rfl⟩
  · injection H with H; subst H; exact ⟨Tryd.f18, E ann18, Tryd.func18, by kernel_rfl, ok18.symm, rfl, rfl, fun _ => rfl, rfl⟩
  · injection H with H; subst H; exact ⟨Tryd.f19, E ann19, Tryd.func19, by kernel_rfl, ok19.symm, rfl, rfl, fun _ => rfl, rfl⟩
  · injection H with H; subst H; exact ⟨Tryd.f20, E ann20, Tryd.func20, by kernel_rfl, ok20.symm, rfl, rfl, fun _ => rfl, rfl⟩
  · injection H with H; subst H; exact ⟨Tryd.f21, E ann21, Tryd.func21, by kernel_rfl, ok21.symm, rfl, rfl, fun _ => rfl, rfl⟩
  · injection H with H; subst H; exact ⟨Tryd.f22, E ann22, Tryd.func22, by kernel_rfl, ok22.symm, rfl, rfl, fun _ => rfl, rfl⟩
  · injection H with H; subst H; exact ⟨Tryd.f23, E ann23, Tryd.func23, by kernel_rfl, ok23.symm, rfl, rfl, fun _ => rfl, rfl⟩
  · injection H with H; subst H; exact ⟨Tryd.f24, E ann24, Tryd.func24, by kernel_rfl, ok24.symm, rfl, rfl, fun _ => rfl, rfl⟩
  · injection H with H; subst H; exact ⟨Tryd.f25, E ann25, Tryd.func25, by kernel_rfl, ok25.symm, rfl, rfl, fun _ => rfl, rfl⟩
  · injection H with H; subst H; exact ⟨Tryd.f26, E ann26, Tryd.func26, by kernel_rfl, ok26.symm, rfl, rfl, fun _ => rfl, rfl⟩
  · injection H with H; subst H; exact ⟨Tryd.f27, E ann27, Tryd.func27, by kernel_rfl, ok27.symm, rfl, rfl, fun _ => rfl, rfl⟩
  · injection H with H; subst H; exact ⟨Tryd.f28, E ann28, Tryd.func28, by kernel_rfl, ok28.symm, rfl, rfl, fun _ => rfl, rfl⟩
  · injection H with H; subst H; exact ⟨Tryd.f29, E ann29, Tryd.func29, by kernel_rfl, ok29.symm, rfl, rfl, fun _ => rfl, rfl⟩
  · injection H with H; subst H; exact ⟨Tryd.f30, E ann30, Tryd.func30, by kernel_rfl, ok30.symm, rfl, rfl, fun _ => rfl, rfl⟩
  · injection H with H; subst H; exact ⟨Tryd.f31, E ann31, Tryd.func31, by kernel_rfl, ok31.symm, rfl, rfl, fun _ => rfl, rfl⟩
  · injection H with H; subst H; exact ⟨Tryd.f32, E ann32, Tryd.func32, by kernel_rfl, ok32.symm, rfl, rfl, fun _ => rfl, rfl⟩
  · injection H with H; subst H; exact ⟨Tryd.f33, E ann33, Tryd.func33, by kernel_rfl, ok33.symm, rfl, rfl, fun _ => rfl, rfl⟩
  · injection H with H; subst H; exact ⟨Tryd.f34, E ann34, Tryd.func34, by kernel_rfl, ok34.symm, rfl, rfl, fun _ => rfl, rfl⟩
  · injection H with H; subst H; exact ⟨Tryd.f35, E ann35, Tryd.func35, by kernel_rfl, ok35.symm, rfl, rfl, fun _ => rfl, rfl⟩
  · injection H with H; subst H; exact ⟨Tryd.f36, E ann36, Tryd.func36, by kernel_rfl, ok36.symm, rfl, rfl, fun _ => rfl, rfl⟩
  · injection H with H; subst H; exact ⟨Tryd.f37, E ann37, Tryd.func37, by kernel_rfl, ok37.symm, rfl, rfl, fun _ => rfl, rfl⟩
  · injection H with H; subst H; exact ⟨Tryd.f38, E ann38, Tryd.func38, by kernel_rfl, ok38.symm, rfl, rfl, fun _ => rfl, rfl⟩
  · injection H with H; subst H; exact ⟨Tryd.f39, E ann39, Tryd.func39, by kernel_rfl, ok39.symm, rfl, rfl, fun _ => rfl, rfl⟩
  · injection H with H; subst H; exact ⟨Tryd.f40, E ann40, Tryd.func40, by kernel_rfl, ok40.symm, rfl, rfl, fun _ => rfl, rfl⟩
  · injection H with H; subst H; exact ⟨Tryd.f41, E ann41, Tryd.func41, by kernel_rfl, ok41.symm, rfl, rfl, fun _ => rfl, rfl⟩
  · injection H with H; subst H; exact ⟨Tryd.f42, E ann42, Tryd.func42, by kernel_rfl, ok42.symm, rfl, rfl, fun _ => rfl, rfl⟩
  · injection H with H; subst H; exact ⟨Tryd.f43, E ann43, Tryd.func43, by kernel_rfl, ok43.symm, rfl, rfl, fun _ => rfl, rfl⟩
  · injection H with H; subst H; exact ⟨Tryd.f44, E ann44, Tryd.func44, by kernel_rfl, ok44.symm, rfl, rfl, fun _ => rfl, rfl⟩
  · injection H with H; subst H; exact ⟨Tryd.f45, E ann45, Tryd.func45, by kernel_rfl, ok45.symm, rfl, rfl, fun _ => rfl, rfl⟩
  · injection H with H; subst H; exact ⟨Tryd.f46, E ann46, Tryd.func46, by kernel_rfl, ok46.symm, rfl, rfl, fun _ => rfl, rfl⟩
  · injection H with H; subst H; exact ⟨Tryd.f47, E ann47, Tryd.func47, by kernel_rfl, ok47.symm, rfl, rfl, fun _ => rfl, rfl⟩
  · injection H with H; subst H; exact ⟨Tryd.f48, E ann48, Tryd.func48, by kernel_rfl, ok48.symm, rfl, rfl, fun _ => rfl, rfl⟩
  · injection H with H; subst H; exact ⟨Tryd.f49, E ann49, Tryd.func49, by kernel_rfl, ok49.symm, rfl, rfl, fun _ => rfl, rfl⟩
  · injection H with H; subst H; exact ⟨Tryd.f50, E ann50, Tryd.func50, by kernel_rfl, ok50.symm, rfl, rfl, fun _ => rfl, rfl⟩
  · cases H
end Go.Proofs.YtbobbkgdbfcblaaDoor

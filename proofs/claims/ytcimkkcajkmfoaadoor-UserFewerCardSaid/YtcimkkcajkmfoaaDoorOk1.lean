/-
  The model's code reads as the plain functions: checked by the kernel. Printed by run4.py.
-/
import Derived.Test.YtcimkkcajkmfoaaDoorMir1
import Derived.Test.YtcimkkcajkmfoaaDoorSemS
import Derived.Test.YtcimkkcajkmfoaaDoorProg
set_option linter.all false
namespace Go.Proofs.YtcimkkcajkmfoaaDoor
open Go
def globs : Nat → Option (List PV)
  | 0 => some gFirst
  | 1 => some gMore
  | _ => none
def E (a l : Nat → Option Hd) : Env := { fid := fun f => f, glob := globs, raw := fun f => f == 80, ro := fun _ => false, rov := false, ann := a, labs := l }
theorem ok3 : denF Tryd.prog (E ann3 lab3) Tryd.f3 = m3 := by kernel_rfl
theorem ok4 : denF Tryd.prog (E ann4 lab4) Tryd.f4 = m4 := by kernel_rfl
theorem ok5 : denF Tryd.prog (E ann5 lab5) Tryd.f5 = m5 := by kernel_rfl
theorem ok6 : denF Tryd.prog (E ann6 lab6) Tryd.f6 = m6 := by kernel_rfl
theorem ok7 : denF Tryd.prog (E ann7 lab7) Tryd.f7 = m7 := by kernel_rfl
theorem ok8 : denF Tryd.prog (E ann8 lab8) Tryd.f8 = m8 := by kernel_rfl
theorem ok15 : denF Tryd.prog (E ann15 lab15) Tryd.f15 = m15 := by kernel_rfl
theorem ok16 : denF Tryd.prog (E ann16 lab16) Tryd.f16 = m16 := by kernel_rfl
theorem ok17 : denF Tryd.prog (E ann17 lab17) Tryd.f17 = m17 := by kernel_rfl
theorem ok18 : denF Tryd.prog (E ann18 lab18) Tryd.f18 = m18 := by kernel_rfl
theorem ok19 : denF Tryd.prog (E ann19 lab19) Tryd.f19 = m19 := by kernel_rfl
theorem ok20 : denF Tryd.prog (E ann20 lab20) Tryd.f20 = m20 := by kernel_rfl
theorem ok21 : denF Tryd.prog (E ann21 lab21) Tryd.f21 = m21 := by kernel_rfl
theorem ok22 : denF Tryd.prog (E ann22 lab22) Tryd.f22 = m22 := by kernel_rfl
theorem ok23 : denF Tryd.prog (E ann23 lab23) Tryd.f23 = m23 := by kernel_rfl
theorem ok24 : denF Tryd.prog (E ann24 lab24) Tryd.f24 = m24 := by kernel_rfl
theorem ok25 : denF Tryd.prog (E ann25 lab25) Tryd.f25 = m25 := by kernel_rfl
theorem ok26 : denF Tryd.prog (E ann26 lab26) Tryd.f26 = m26 := by kernel_rfl
theorem ok27 : denF Tryd.prog (E ann27 lab27) Tryd.f27 = m27 := by kernel_rfl
theorem ok28 : denF Tryd.prog (E ann28 lab28) Tryd.f28 = m28 := by kernel_rfl
theorem ok29 : denF Tryd.prog (E ann29 lab29) Tryd.f29 = m29 := by kernel_rfl
theorem ok35 : denF Tryd.prog (E ann35 lab35) Tryd.f35 = m35 := by kernel_rfl
theorem ok47 : denF Tryd.prog (E ann47 lab47) Tryd.f47 = m47 := by kernel_rfl
theorem ok48 : denF Tryd.prog (E ann48 lab48) Tryd.f48 = m48 := by kernel_rfl
theorem ok49 : denF Tryd.prog (E ann49 lab49) Tryd.f49 = m49 := by kernel_rfl
theorem ok50 : denF Tryd.prog (E ann50 lab50) Tryd.f50 = m50 := by kernel_rfl
theorem ok51 : denF Tryd.prog (E ann51 lab51) Tryd.f51 = m51 := by kernel_rfl
theorem ok52 : denF Tryd.prog (E ann52 lab52) Tryd.f52 = m52 := by kernel_rfl
theorem ok53 : denF Tryd.prog (E ann53 lab53) Tryd.f53 = m53 := by kernel_rfl
theorem ok54 : denF Tryd.prog (E ann54 lab54) Tryd.f54 = m54 := by kernel_rfl
theorem ok55 : denF Tryd.prog (E ann55 lab55) Tryd.f55 = m55 := by kernel_rfl
theorem ok56 : denF Tryd.prog (E ann56 lab56) Tryd.f56 = m56 := by kernel_rfl
theorem ok57 : denF Tryd.prog (E ann57 lab57) Tryd.f57 = m57 := by kernel_rfl
theorem ok58 : denF Tryd.prog (E ann58 lab58) Tryd.f58 = m58 := by kernel_rfl
theorem ok59 : denF Tryd.prog (E ann59 lab59) Tryd.f59 = m59 := by kernel_rfl
theorem ok63 : denF Tryd.prog (E ann63 lab63) Tryd.f63 = m63 := by kernel_rfl
theorem ok64 : denF Tryd.prog (E ann64 lab64) Tryd.f64 = m64 := by kernel_rfl
theorem ok65 : denF Tryd.prog (E ann65 lab65) Tryd.f65 = m65 := by kernel_rfl
theorem ok69 : denF Tryd.prog (E ann69 lab69) Tryd.f69 = m69 := by kernel_rfl
theorem ok75 : denF Tryd.prog (E ann75 lab75) Tryd.f75 = m75 := by kernel_rfl
theorem ok76 : denF Tryd.prog (E ann76 lab76) Tryd.f76 = m76 := by kernel_rfl
theorem ok77 : denF Tryd.prog (E ann77 lab77) Tryd.f77 = m77 := by kernel_rfl
theorem ok78 : denF Tryd.prog (E ann78 lab78) Tryd.f78 = m78 := by kernel_rfl
theorem ok79 : denF Tryd.prog (E ann79 lab79) Tryd.f79 = m79 := by kernel_rfl
theorem ok80 : denF Tryd.prog (E ann80 lab80) Tryd.f80 = m80 := by kernel_rfl
theorem ok84 : denF Tryd.prog (E ann84 lab84) Tryd.f84 = m84 := by kernel_rfl
theorem ok85 : denF Tryd.prog (E ann85 lab85) Tryd.f85 = m85 := by kernel_rfl
theorem ok86 : denF Tryd.prog (E ann86 lab86) Tryd.f86 = m86 := by kernel_rfl
theorem ok88 : denF Tryd.prog (E ann88 lab88) Tryd.f88 = m88 := by kernel_rfl
theorem ok89 : denF Tryd.prog (E ann89 lab89) Tryd.f89 = m89 := by kernel_rfl
theorem ok90 : denF Tryd.prog (E ann90 lab90) Tryd.f90 = m90 := by kernel_rfl
theorem ok92 : denF Tryd.prog (E ann92 lab92) Tryd.f92 = m92 := by kernel_rfl
theorem ok94 : denF Tryd.prog (E ann94 lab94) Tryd.f94 = m94 := by kernel_rfl
theorem ok95 : denF Tryd.prog (E ann95 lab95) Tryd.f95 = m95 := by kernel_rfl
theorem ok96 : denF Tryd.prog (E ann96 lab96) Tryd.f96 = m96 := by kernel_rfl
theorem ok98 : denF Tryd.prog (E ann98 lab98) Tryd.f98 = m98 := by kernel_rfl
theorem ok100 : denF Tryd.prog (E ann100 lab100) Tryd.f100 = m100 := by kernel_rfl
theorem ok101 : denF Tryd.prog (E ann101 lab101) Tryd.f101 = m101 := by kernel_rfl
theorem ok102 : denF Tryd.prog (E ann102 lab102) Tryd.f102 = m102 := by kernel_rfl
theorem ok103 : denF Tryd.prog (E ann103 lab103) Tryd.f103 = m103 := by kernel_rfl
theorem ok104 : denF Tryd.prog (E ann104 lab104) Tryd.f104 = m104 := by kernel_rfl
theorem ok105 : denF Tryd.prog (E ann105 lab105) Tryd.f105 = m105 := by kernel_rfl
theorem tabled : Tabled Tryd.prog (fun f => f) globs tab := by
  intro f0 m H0
  have H : tab f0 = some m := H0
  clear H0
  unfold tab at H
  split at H
  · injection H with H; subst H; exact ⟨Tryd.f3, E ann3 lab3, Tryd.func3, by kernel_rfl, ok3.symm, rfl, rfl, fun _ => rfl, rfl⟩
  · injection H with H; subst H; exact ⟨Tryd.f4, E ann4 lab4, Tryd.func4, by kernel_rfl, ok4.symm, rfl, rfl, fun _ => rfl, rfl⟩
  · injection H with H; subst H; exact ⟨Tryd.f5, E ann5 lab5, Tryd.func5, by kernel_rfl, ok5.symm, rfl, rfl, fun _ => rfl, rfl⟩
  · injection H with H; subst H; exact ⟨Tryd.f6, E ann6 lab6, Tryd.func6, by kernel_rfl, ok6.symm, rfl, rfl, fun _ => rfl, rfl⟩
  · injection H with H; subst H; exact ⟨Tryd.f7, E ann7 lab7, Tryd.func7, by kernel_rfl, ok7.symm, rfl, rfl, fun _ => rfl, rfl⟩
  · injection H with H; subst H; exact ⟨Tryd.f8, E ann8 lab8, Tryd.func8, by kernel_rfl, ok8.symm, rfl, rfl, fun _ => rfl, rfl⟩
  · injection H with H; subst H; exact ⟨Tryd.f15, E ann15 lab15, Tryd.func15, by kernel_rfl, ok15.symm, rfl, rfl, fun _ => rfl, rfl⟩
  · injection H with H; subst H; exact ⟨Tryd.f16, E ann16 lab16, Tryd.func16, by kernel_rfl, ok16.symm, rfl, rfl, fun _ => rfl, rfl⟩
  · injection H with H; subst H; exact ⟨Tryd.f17, E ann17 lab17, Tryd.func17, by kernel_rfl, ok17.symm, rfl, rfl, fun _ => rfl, rfl⟩
  · injection H with H; subst H; exact ⟨Tryd.f18, E ann18 lab18, Tryd.func18, by kernel_rfl, ok18.symm, rfl, rfl, fun _ => rfl, rfl⟩
  · injection H with H; subst H; exact ⟨Tryd.f19, E ann19 lab19, Tryd.func19, by kernel_rfl, ok19.symm, rfl, rfl, fun _ => rfl, rfl⟩
  · injection H with H; subst H; exact ⟨Tryd.f20, E ann20 lab20, Tryd.func20, by kernel_rfl, ok20.symm, rfl, rfl, fun _ => rfl, rfl⟩
  · injection H with H; subst H; exact ⟨Tryd.f21, E ann21 lab21, Tryd.func21, by kernel_rfl, ok21.symm, rfl, rfl, fun _ => rfl, rfl⟩
  · injection H with H; subst H; exact ⟨Tryd.f22, E ann22 lab22, Tryd.func22, by kernel_rfl, ok22.symm, rfl, rfl, fun _ => rfl, rfl⟩
  · injection H with H; subst H; exact ⟨Tryd.f23, E ann23 lab23, Tryd.func23, by kernel_rfl, ok23.symm, rfl, rfl, fun _ => rfl, rfl⟩
  · injection H with H; subst H; exact ⟨Tryd.f24, E ann24 lab24, Tryd.func24, by kernel_rfl, ok24.symm, rfl, rfl, fun _ => rfl, rfl⟩
  · injection H with H; subst H; exact ⟨Tryd.f25, E ann25 lab25, Tryd.func25, by kernel_rfl, ok25.symm, rfl, rfl, fun _ => rfl, rfl⟩
  · injection H with H; subst H; exact ⟨Tryd.f26, E ann26 lab26, Tryd.func26, by kernel_rfl, ok26.symm, rfl, rfl, fun _ => rfl, rfl⟩
  · injection H with H; subst H; exact ⟨Tryd.f27, E ann27 lab27, Tryd.func27, by kernel_rfl, ok27.symm, rfl, rfl, fun _ => rfl, rfl⟩
  · injection H with H; subst H; exact ⟨Tryd.f28, E ann28 lab28, Tryd.func28, by kernel_rfl, ok28.symm, rfl, rfl, fun _ => rfl, rfl⟩
  · injection H with H; subst H; exact ⟨Tryd.f29, E ann29 lab29, Tryd.func29, by kernel_rfl, ok29.symm, rfl, rfl, fun _ => rfl, rfl⟩
  · injection H with H; subst H; exact ⟨Tryd.f35, E ann35 lab35, Tryd.func35, by kernel_rfl, ok35.symm, rfl, rfl, fun _ => rfl, rfl⟩
  · injection H with H; subst H; exact ⟨Tryd.f47, E ann47 lab47, Tryd.func47, by kernel_rfl, ok47.symm, rfl, rfl, fun _ => rfl, rfl⟩
  · injection H with H; subst H; exact ⟨Tryd.f48, E ann48 lab48, Tryd.func48, by kernel_rfl, ok48.symm, rfl, rfl, fun _ => rfl, rfl⟩
  · injection H with H; subst H; exact ⟨Tryd.f49, E ann49 lab49, Tryd.func49, by kernel_rfl, ok49.symm, rfl, rfl, fun _ => rfl, rfl⟩
  · injection H with H; subst H; exact ⟨Tryd.f50, E ann50 lab50, Tryd.func50, by kernel_rfl, ok50.symm, rfl, rfl, fun _ => rfl, rfl⟩
  · injection H with H; subst H; exact ⟨Tryd.f51, E ann51 lab51, Tryd.func51, by kernel_rfl, ok51.symm, rfl, rfl, fun _ => rfl, rfl⟩
  · injection H with H; subst H; exact ⟨Tryd.f52, E ann52 lab52, Tryd.func52, by kernel_rfl, ok52.symm, rfl, rfl, fun _ => rfl, rfl⟩
  · injection H with H; subst H; exact ⟨Tryd.f53, E ann53 lab53, Tryd.func53, by kernel_rfl, ok53.symm, rfl, rfl, fun _ => rfl, rfl⟩
  · injection H with H; subst H; exact ⟨Tryd.f54, E ann54 lab54, Tryd.func54, by kernel_rfl, ok54.symm, rfl, rfl, fun _ => rfl, rfl⟩
  · injection H with H; subst H; exact ⟨Tryd.f55, E ann55 lab55, Tryd.func55, by kernel_rfl, ok55.symm, rfl, rfl, fun _ => rfl, rfl⟩
  · injection H with H; subst H; exact ⟨Tryd.f56, E ann56 lab56, Tryd.func56, by kernel_rfl, ok56.symm, rfl, rfl, fun _ => rfl, rfl⟩
  · injection H with H; subst H; exact ⟨Tryd.f57, E ann57 lab57, Tryd.func57, by kernel_rfl, ok57.symm, rfl, rfl, fun _ => rfl, rfl⟩
  · injection H with H; subst H; exact ⟨Tryd.f58, E ann58 lab58, Tryd.func58, by kernel_rfl, ok58.symm, rfl, rfl, fun _ => rfl, rfl⟩
  · injection H with H; subst H; exact ⟨Tryd.f59, E ann59 lab59, Tryd.func59, by kernel_rfl, ok59.symm, rfl, rfl, fun _ => rfl, rfl⟩
  · injection H with H; subst H; exact ⟨Tryd.f63, E ann63 lab63, Tryd.func63, by kernel_rfl, ok63.symm, rfl, rfl, fun _ => rfl, rfl⟩
  · injection H with H; subst H; exact ⟨Tryd.f64, E ann64 lab64, Tryd.func64, by kernel_rfl, ok64.symm, rfl, rfl, fun _ => rfl, rfl⟩
  · injection H with H; subst H; exact ⟨Tryd.f65, E ann65 lab65, Tryd.func65, by kernel_rfl, ok65.symm, rfl, rfl, fun _ => rfl, rfl⟩
  · injection H with H; subst H; exact ⟨Tryd.f69, E ann69 lab69, Tryd.func69, by kernel_rfl, ok69.symm, rfl, rfl, fun _ => rfl, rfl⟩
  · injection H with H; subst H; exact ⟨Tryd.f75, E ann75 lab75, Tryd.func75, by kernel_rfl, ok75.symm, rfl, rfl, fun _ => rfl, rfl⟩
  · injection H with H; subst H; exact ⟨Tryd.f76, E ann76 lab76, Tryd.func76, by kernel_rfl, ok76.symm, rfl, rfl, fun _ => rfl, rfl⟩
  · injection H with H; subst H; exact ⟨Tryd.f77, E ann77 lab77, Tryd.func77, by kernel_rfl, ok77.symm, rfl, rfl, fun _ => rfl, rfl⟩
  · injection H with H; subst H; exact ⟨Tryd.f78, E ann78 lab78, Tryd.func78, by kernel_rfl, ok78.symm, rfl, rfl, fun _ => rfl, rfl⟩
  · injection H with H; subst H; exact ⟨Tryd.f79, E ann79 lab79, Tryd.func79, by kernel_rfl, ok79.symm, rfl, rfl, fun _ => rfl, rfl⟩
  · injection H with H; subst H; exact ⟨Tryd.f80, E ann80 lab80, Tryd.func80, by kernel_rfl, ok80.symm, rfl, rfl, fun _ => rfl, rfl⟩
  · injection H with H; subst H; exact ⟨Tryd.f84, E ann84 lab84, Tryd.func84, by kernel_rfl, ok84.symm, rfl, rfl, fun _ => rfl, rfl⟩
  · injection H with H; subst H; exact ⟨Tryd.f85, E ann85 lab85, Tryd.func85, by kernel_rfl, ok85.symm, rfl, rfl, fun _ => rfl, rfl⟩
  · injection H with H; subst H; exact ⟨Tryd.f86, E ann86 lab86, Tryd.func86, by kernel_rfl, ok86.symm, rfl, rfl, fun _ => rfl, rfl⟩
  · injection H with H; subst H; exact ⟨Tryd.f88, E ann88 lab88, Tryd.func88, by kernel_rfl, ok88.symm, rfl, rfl, fun _ => rfl, rfl⟩
  · injection H with H; subst H; exact ⟨Tryd.f89, E ann89 lab89, Tryd.func89, by kernel_rfl, ok89.symm, rfl, rfl, fun _ => rfl, rfl⟩
  · injection H with H; subst H; exact ⟨Tryd.f90, E ann90 lab90, Tryd.func90, by kernel_rfl, ok90.symm, rfl, rfl, fun _ => rfl, rfl⟩
  · injection H with H; subst H; exact ⟨Tryd.f92, E ann92 lab92, Tryd.func92, by kernel_rfl, ok92.symm, rfl, rfl, fun _ => rfl, rfl⟩
  · injection H with H; subst H; exact ⟨Tryd.f94, E ann94 lab94, Tryd.func94, by kernel_rfl, ok94.symm, rfl, rfl, fun _ => rfl, rfl⟩
  · injection H with H; subst H; exact ⟨Tryd.f95, E ann95 lab95, Tryd.func95, by kernel_rfl, ok95.symm, rfl, rfl, fun _ => rfl, rfl⟩
  · injection H with H; subst H; exact ⟨Tryd.f96, E ann96 lab96, Tryd.func96, by kernel_rfl, ok96.symm, rfl, rfl, fun _ => rfl, rfl⟩
  · injection H with H; subst H; exact ⟨Tryd.f98, E ann98 lab98, Tryd.func98, by kernel_rfl, ok98.symm, rfl, rfl, fun _ => rfl, rfl⟩
  · injection H with H; subst H; exact ⟨Tryd.f100, E ann100 lab100, Tryd.func100, by kernel_rfl, ok100.symm, rfl, rfl, fun _ => rfl, rfl⟩
  · injection H with H; subst H; exact ⟨Tryd.f101, E ann101 lab101, Tryd.func101, by kernel_rfl, ok101.symm, rfl, rfl, fun _ => rfl, rfl⟩
  · injection H with H; subst H; exact ⟨Tryd.f102, E ann102 lab102, Tryd.func102, by kernel_rfl, ok102.symm, rfl, rfl, fun _ => rfl, rfl⟩
  · injection H with H; subst H; exact ⟨Tryd.f103, E ann103 lab103, Tryd.func103, by kernel_rfl, ok103.symm, rfl, rfl, fun _ => rfl, rfl⟩
  · injection H with H; subst H; exact ⟨Tryd.f104, E ann104 lab104, Tryd.func104, by kernel_rfl, ok104.symm, rfl, rfl, fun _ => rfl, rfl⟩
  · injection H with H; subst H; exact ⟨Tryd.f105, E ann105 lab105, Tryd.func105, by kernel_rfl, ok105.symm, rfl, rfl, fun _ => rfl, rfl⟩
  · cases H
end Go.Proofs.YtcimkkcajkmfoaaDoor

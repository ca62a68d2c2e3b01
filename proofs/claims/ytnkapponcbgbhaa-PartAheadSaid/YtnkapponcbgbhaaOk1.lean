import Derived.Test.YtnkapponcbgbhaaMir1
import Derived.Test.YtnkapponcbgbhaaSemS
import Derived.Test.YtnkapponcbgbhaaProg
set_option linter.all false
namespace Go.Proofs.Ytnkapponcbgbhaa
open Go
def globs : Nat → Option (List PV) := fun _ => none
def E (a l : Nat → Option Hd) (y g p : Bool) : Env := { fid := fun f => f, glob := globs, raw := fun f => f == 49, ro := fun f => false, rov := false, ann := a, labs := l, yp := y, gf := g, pb := p }
theorem ok3 : denF Try.prog (E ann3 lab3 false false false) Try.f3 = m3 := by kernel_rfl
theorem ok4 : denF Try.prog (E ann4 lab4 false false false) Try.f4 = m4 := by kernel_rfl
theorem ok5 : denF Try.prog (E ann5 lab5 false false false) Try.f5 = m5 := by kernel_rfl
theorem ok6 : denF Try.prog (E ann6 lab6 false false true) Try.f6 = m6 := by kernel_rfl
theorem ok7 : denF Try.prog (E ann7 lab7 false false true) Try.f7 = m7 := by kernel_rfl
theorem ok8 : denF Try.prog (E ann8 lab8 false false false) Try.f8 = m8 := by kernel_rfl
theorem ok9 : denF Try.prog (E ann9 lab9 false false false) Try.f9 = m9 := by kernel_rfl
theorem ok10 : denF Try.prog (E ann10 lab10 false false false) Try.f10 = m10 := by kernel_rfl
theorem ok11 : denF Try.prog (E ann11 lab11 false false false) Try.f11 = m11 := by kernel_rfl
theorem ok12 : denF Try.prog (E ann12 lab12 false false false) Try.f12 = m12 := by kernel_rfl
theorem ok13 : denF Try.prog (E ann13 lab13 false false false) Try.f13 = m13 := by kernel_rfl
theorem ok14 : denF Try.prog (E ann14 lab14 false false false) Try.f14 = m14 := by kernel_rfl
theorem ok15 : denF Try.prog (E ann15 lab15 false false false) Try.f15 = m15 := by kernel_rfl
theorem ok16 : denF Try.prog (E ann16 lab16 false false true) Try.f16 = m16 := by kernel_rfl
theorem ok17 : denF Try.prog (E ann17 lab17 false false true) Try.f17 = m17 := by kernel_rfl
theorem ok18 : denF Try.prog (E ann18 lab18 false false false) Try.f18 = m18 := by kernel_rfl
theorem ok19 : denF Try.prog (E ann19 lab19 false false false) Try.f19 = m19 := by kernel_rfl
theorem ok20 : denF Try.prog (E ann20 lab20 false false false) Try.f20 = m20 := by kernel_rfl
theorem ok21 : denF Try.prog (E ann21 lab21 false false false) Try.f21 = m21 := by kernel_rfl
theorem ok22 : denF Try.prog (E ann22 lab22 false false false) Try.f22 = m22 := by kernel_rfl
theorem ok23 : denF Try.prog (E ann23 lab23 false false false) Try.f23 = m23 := by kernel_rfl
theorem ok24 : denF Try.prog (E ann24 lab24 false false true) Try.f24 = m24 := by kernel_rfl
theorem ok25 : denF Try.prog (E ann25 lab25 false false false) Try.f25 = m25 := by kernel_rfl
theorem ok26 : denF Try.prog (E ann26 lab26 false false false) Try.f26 = m26 := by kernel_rfl
theorem ok27 : denF Try.prog (E ann27 lab27 false false false) Try.f27 = m27 := by kernel_rfl
theorem ok28 : denF Try.prog (E ann28 lab28 false false false) Try.f28 = m28 := by kernel_rfl
theorem ok29 : denF Try.prog (E ann29 lab29 false false false) Try.f29 = m29 := by kernel_rfl
theorem ok30 : denF Try.prog (E ann30 lab30 false false false) Try.f30 = m30 := by kernel_rfl
theorem ok31 : denF Try.prog (E ann31 lab31 false false false) Try.f31 = m31 := by kernel_rfl
theorem ok32 : denF Try.prog (E ann32 lab32 false false false) Try.f32 = m32 := by kernel_rfl
theorem ok33 : denF Try.prog (E ann33 lab33 false false false) Try.f33 = m33 := by kernel_rfl
theorem ok34 : denF Try.prog (E ann34 lab34 false true false) Try.f34 = m34 := by kernel_rfl
theorem ok35 : denF Try.prog (E ann35 lab35 false false false) Try.f35 = m35 := by kernel_rfl
theorem ok36 : denF Try.prog (E ann36 lab36 false false false) Try.f36 = m36 := by kernel_rfl
theorem ok37 : denF Try.prog (E ann37 lab37 false false false) Try.f37 = m37 := by kernel_rfl
theorem ok38 : denF Try.prog (E ann38 lab38 false false false) Try.f38 = m38 := by kernel_rfl
theorem ok39 : denF Try.prog (E ann39 lab39 false false false) Try.f39 = m39 := by kernel_rfl
theorem ok40 : denF Try.prog (E ann40 lab40 false false false) Try.f40 = m40 := by kernel_rfl
theorem ok41 : denF Try.prog (E ann41 lab41 false false false) Try.f41 = m41 := by kernel_rfl
theorem ok42 : denF Try.prog (E ann42 lab42 false false false) Try.f42 = m42 := by kernel_rfl
theorem ok43 : denF Try.prog (E ann43 lab43 false false false) Try.f43 = m43 := by kernel_rfl
theorem ok44 : denF Try.prog (E ann44 lab44 false false false) Try.f44 = m44 := by kernel_rfl
theorem ok45 : denF Try.prog (E ann45 lab45 false false false) Try.f45 = m45 := by kernel_rfl
theorem ok46 : denF Try.prog (E ann46 lab46 false false false) Try.f46 = m46 := by kernel_rfl
theorem ok47 : denF Try.prog (E ann47 lab47 false false false) Try.f47 = m47 := by kernel_rfl
theorem ok48 : denF Try.prog (E ann48 lab48 false false false) Try.f48 = m48 := by kernel_rfl
theorem ok49 : denF Try.prog (E ann49 lab49 false true false) Try.f49 = m49 := by kernel_rfl
theorem ok50 : denF Try.prog (E ann50 lab50 false false false) Try.f50 = m50 := by kernel_rfl
theorem ok51 : denF Try.prog (E ann51 lab51 false false false) Try.f51 = m51 := by kernel_rfl
theorem ok52 : denF Try.prog (E ann52 lab52 false false false) Try.f52 = m52 := by kernel_rfl
theorem ok53 : denF Try.prog (E ann53 lab53 false false false) Try.f53 = m53 := by kernel_rfl
theorem ok54 : denF Try.prog (E ann54 lab54 false false false) Try.f54 = m54 := by kernel_rfl
theorem ok55 : denF Try.prog (E ann55 lab55 false false false) Try.f55 = m55 := by kernel_rfl
theorem ok56 : denF Try.prog (E ann56 lab56 false false false) Try.f56 = m56 := by kernel_rfl
theorem ok57 : denF Try.prog (E ann57 lab57 false false false) Try.f57 = m57 := by kernel_rfl
theorem ok58 : denF Try.prog (E ann58 lab58 false false false) Try.f58 = m58 := by kernel_rfl
theorem ok59 : denF Try.prog (E ann59 lab59 false false false) Try.f59 = m59 := by kernel_rfl
theorem ok60 : denF Try.prog (E ann60 lab60 false false false) Try.f60 = m60 := by kernel_rfl
theorem ok61 : denF Try.prog (E ann61 lab61 false false false) Try.f61 = m61 := by kernel_rfl
theorem ok62 : denF Try.prog (E ann62 lab62 false false false) Try.f62 = m62 := by kernel_rfl
theorem ok64 : denF Try.prog (E ann64 lab64 false false false) Try.f64 = m64 := by kernel_rfl
theorem ok65 : denF Try.prog (E ann65 lab65 false false false) Try.f65 = m65 := by kernel_rfl
theorem ok66 : denF Try.prog (E ann66 lab66 false false false) Try.f66 = m66 := by kernel_rfl
theorem ok67 : denF Try.prog (E ann67 lab67 false false false) Try.f67 = m67 := by kernel_rfl
theorem ok68 : denF Try.prog (E ann68 lab68 false false false) Try.f68 = m68 := by kernel_rfl
theorem ok69 : denF Try.prog (E ann69 lab69 false false false) Try.f69 = m69 := by kernel_rfl
theorem ok70 : denF Try.prog (E ann70 lab70 false false false) Try.f70 = m70 := by kernel_rfl
theorem ok71 : denF Try.prog (E ann71 lab71 false false false) Try.f71 = m71 := by kernel_rfl
theorem ok72 : denF Try.prog (E ann72 lab72 false false false) Try.f72 = m72 := by kernel_rfl
theorem ok73 : denF Try.prog (E ann73 lab73 false false false) Try.f73 = m73 := by kernel_rfl
theorem tabled : Tabled Try.prog (fun f => f) globs tab := by
  intro f0 m H0
  have H : tab f0 = some m := H0
  clear H0
  unfold tab at H
  split at H
  · injection H with H; subst H; exact ⟨Try.f3, E ann3 lab3 false false false, Try.func3, by kernel_rfl, ok3.symm, rfl, rfl, trivial, rfl⟩
  · injection H with H; subst H; exact ⟨Try.f4, E ann4 lab4 false false false, Try.func4, by kernel_rfl, ok4.symm, rfl, rfl, trivial, rfl⟩
  · injection H with H; subst H; exact ⟨Try.f5, E ann5 lab5 false false false, Try.func5, by kernel_rfl, ok5.symm, rfl, rfl, trivial, rfl⟩
  · injection H with H; subst H; exact ⟨Try.f6, E ann6 lab6 false false true, Try.func6, by kernel_rfl, ok6.symm, rfl, rfl, trivial, rfl⟩
  · injection H with H; subst H; exact ⟨Try.f7, E ann7 lab7 false false true, Try.func7, by kernel_rfl, ok7.symm, rfl, rfl, trivial, rfl⟩
  · injection H with H; subst H; exact ⟨Try.f8, E ann8 lab8 false false false, Try.func8, by kernel_rfl, ok8.symm, rfl, rfl, trivial, rfl⟩
  · injection H with H; subst H; exact ⟨Try.f9, E ann9 lab9 false false false, Try.func9, by kernel_rfl, ok9.symm, rfl, rfl, trivial, rfl⟩
  · injection H with H; subst H; exact ⟨Try.f10, E ann10 lab10 false false false, Try.func10, by kernel_rfl, ok10.symm, rfl, rfl, trivial, rfl⟩
  · injection H with H; subst H; exact ⟨Try.f11, E ann11 lab11 false false false, Try.func11, by kernel_rfl, ok11.symm, rfl, rfl, trivial, rfl⟩
  · injection H with H; subst H; exact ⟨Try.f12, E ann12 lab12 false false false, Try.func12, by kernel_rfl, ok12.symm, rfl, rfl, trivial, rfl⟩
  · injection H with H; subst H; exact ⟨Try.f13, E ann13 lab13 false false false, Try.func13, by kernel_rfl, ok13.symm, rfl, rfl, trivial, rfl⟩
  · injection H with H; subst H; exact ⟨Try.f14, E ann14 lab14 false false false, Try.func14, by kernel_rfl, ok14.symm, rfl, rfl, trivial, rfl⟩
  · injection H with H; subst H; exact ⟨Try.f15, E ann15 lab15 false false false, Try.func15, by kernel_rfl, ok15.symm, rfl, rfl, trivial, rfl⟩
  · injection H with H; subst H; exact ⟨Try.f16, E ann16 lab16 false false true, Try.func16, by kernel_rfl, ok16.symm, rfl, rfl, trivial, rfl⟩
  · injection H with H; subst H; exact ⟨Try.f17, E ann17 lab17 false false true, Try.func17, by kernel_rfl, ok17.symm, rfl, rfl, trivial, rfl⟩
  · injection H with H; subst H; exact ⟨Try.f18, E ann18 lab18 false false false, Try.func18, by kernel_rfl, ok18.symm, rfl, rfl, trivial, rfl⟩
  · injection H with H; subst H; exact ⟨Try.f19, E ann19 lab19 false false false, Try.func19, by kernel_rfl, ok19.symm, rfl, rfl, trivial, rfl⟩
  · injection H with H; subst H; exact ⟨Try.f20, E ann20 lab20 false false false, Try.func20, by kernel_rfl, ok20.symm, rfl, rfl, trivial, rfl⟩
  · injection H with H; subst H; exact ⟨Try.f21, E ann21 lab21 false false false, Try.func21, by kernel_rfl, ok21.symm, rfl, rfl, trivial, rfl⟩
  · injection H with H; subst H; exact ⟨Try.f22, E ann22 lab22 false false false, Try.func22, by kernel_rfl, ok22.symm, rfl, rfl, trivial, rfl⟩
  · injection H with H; subst H; exact ⟨Try.f23, E ann23 lab23 false false false, Try.func23, by kernel_rfl, ok23.symm, rfl, rfl, trivial, rfl⟩
  · injection H with H; subst H; exact ⟨Try.f24, E ann24 lab24 false false true, Try.func24, by kernel_rfl, ok24.symm, rfl, rfl, trivial, rfl⟩
  · injection H with H; subst H; exact ⟨Try.f25, E ann25 lab25 false false false, Try.func25, by kernel_rfl, ok25.symm, rfl, rfl, trivial, rfl⟩
  · injection H with H; subst H; exact ⟨Try.f26, E ann26 lab26 false false false, Try.func26, by kernel_rfl, ok26.symm, rfl, rfl, trivial, rfl⟩
  · injection H with H; subst H; exact ⟨Try.f27, E ann27 lab27 false false false, Try.func27, by kernel_rfl, ok27.symm, rfl, rfl, trivial, rfl⟩
  · injection H with H; subst H; exact ⟨Try.f28, E ann28 lab28 false false false, Try.func28, by kernel_rfl, ok28.symm, rfl, rfl, trivial, rfl⟩
  · injection H with H; subst H; exact ⟨Try.f29, E ann29 lab29 false false false, Try.func29, by kernel_rfl, ok29.symm, rfl, rfl, trivial, rfl⟩
  · injection H with H; subst H; exact ⟨Try.f30, E ann30 lab30 false false false, Try.func30, by kernel_rfl, ok30.symm, rfl, rfl, trivial, rfl⟩
  · injection H with H; subst H; exact ⟨Try.f31, E ann31 lab31 false false false, Try.func31, by kernel_rfl, ok31.symm, rfl, rfl, trivial, rfl⟩
  · injection H with H; subst H; exact ⟨Try.f32, E ann32 lab32 false false false, Try.func32, by kernel_rfl, ok32.symm, rfl, rfl, trivial, rfl⟩
  · injection H with H; subst H; exact ⟨Try.f33, E ann33 lab33 false false false, Try.func33, by kernel_rfl, ok33.symm, rfl, rfl, trivial, rfl⟩
  · injection H with H; subst H; exact ⟨Try.f34, E ann34 lab34 false true false, Try.func34, by kernel_rfl, ok34.symm, rfl, rfl, trivial, rfl⟩
  · injection H with H; subst H; exact ⟨Try.f35, E ann35 lab35 false false false, Try.func35, by kernel_rfl, ok35.symm, rfl, rfl, trivial, rfl⟩
  · injection H with H; subst H; exact ⟨Try.f36, E ann36 lab36 false false false, Try.func36, by kernel_rfl, ok36.symm, rfl, rfl, trivial, rfl⟩
  · injection H with H; subst H; exact ⟨Try.f37, E ann37 lab37 false false false, Try.func37, by kernel_rfl, ok37.symm, rfl, rfl, trivial, rfl⟩
  · injection H with H; subst H; exact ⟨Try.f38, E ann38 lab38 false false false, Try.func38, by kernel_rfl, ok38.symm, rfl, rfl, trivial, rfl⟩
  · injection H with H; subst H; exact ⟨Try.f39, E ann39 lab39 false false false, Try.func39, by kernel_rfl, ok39.symm, rfl, rfl, trivial, rfl⟩
  · injection H with H; subst H; exact ⟨Try.f40, E ann40 lab40 false false false, Try.func40, by kernel_rfl, ok40.symm, rfl, rfl, trivial, rfl⟩
  · injection H with H; subst H; exact ⟨Try.f41, E ann41 lab41 false false false, Try.func41, by kernel_rfl, ok41.symm, rfl, rfl, trivial, rfl⟩
  · injection H with H; subst H; exact ⟨Try.f42, E ann42 lab42 false false false, Try.func42, by kernel_rfl, ok42.symm, rfl, rfl, trivial, rfl⟩
  · injection H with H; subst H; exact ⟨Try.f43, E ann43 lab43 false false false, Try.func43, by kernel_rfl, ok43.symm, rfl, rfl, trivial, rfl⟩
  · injection H with H; subst H; exact ⟨Try.f44, E ann44 lab44 false false false, Try.func44, by kernel_rfl, ok44.symm, rfl, rfl, trivial, rfl⟩
  · injection H with H; subst H; exact ⟨Try.f45, E ann45 lab45 false false false, Try.func45, by kernel_rfl, ok45.symm, rfl, rfl, trivial, rfl⟩
  · injection H with H; subst H; exact ⟨Try.f46, E ann46 lab46 false false false, Try.func46, by kernel_rfl, ok46.symm, rfl, rfl, trivial, rfl⟩
  · injection H with H; subst H; exact ⟨Try.f47, E ann47 lab47 false false false, Try.func47, by kernel_rfl, ok47.symm, rfl, rfl, trivial, rfl⟩
  · injection H with H; subst H; exact ⟨Try.f48, E ann48 lab48 false false false, Try.func48, by kernel_rfl, ok48.symm, rfl, rfl, trivial, rfl⟩
  · injection H with H; subst H; exact ⟨Try.f49, E ann49 lab49 false true false, Try.func49, by kernel_rfl, ok49.symm, rfl, rfl, trivial, rfl⟩
  · injection H with H; subst H; exact ⟨Try.f50, E ann50 lab50 false false false, Try.func50, by kernel_rfl, ok50.symm, rfl, rfl, trivial, rfl⟩
  · injection H with H; subst H; exact ⟨Try.f51, E ann51 lab51 false false false, Try.func51, by kernel_rfl, ok51.symm, rfl, rfl, trivial, rfl⟩
  · injection H with H; subst H; exact ⟨Try.f52, E ann52 lab52 false false false, Try.func52, by kernel_rfl, ok52.symm, rfl, rfl, trivial, rfl⟩
  · injection H with H; subst H; exact ⟨Try.f53, E ann53 lab53 false false false, Try.func53, by kernel_rfl, ok53.symm, rfl, rfl, trivial, rfl⟩
  · injection H with H; subst H; exact ⟨Try.f54, E ann54 lab54 false false false, Try.func54, by kernel_rfl, ok54.symm, rfl, rfl, trivial, rfl⟩
  · injection H with H; subst H; exact ⟨Try.f55, E ann55 lab55 false false false, Try.func55, by kernel_rfl, ok55.symm, rfl, rfl, trivial, rfl⟩
  · injection H with H; subst H; exact ⟨Try.f56, E ann56 lab56 false false false, Try.func56, by kernel_rfl, ok56.symm, rfl, rfl, trivial, rfl⟩
  · injection H with H; subst H; exact ⟨Try.f57, E ann57 lab57 false false false, Try.func57, by kernel_rfl, ok57.symm, rfl, rfl, trivial, rfl⟩
  · injection H with H; subst H; exact ⟨Try.f58, E ann58 lab58 false false false, Try.func58, by kernel_rfl, ok58.symm, rfl, rfl, trivial, rfl⟩
  · injection H with H; subst H; exact ⟨Try.f59, E ann59 lab59 false false false, Try.func59, by kernel_rfl, ok59.symm, rfl, rfl, trivial, rfl⟩
  · injection H with H; subst H; exact ⟨Try.f60, E ann60 lab60 false false false, Try.func60, by kernel_rfl, ok60.symm, rfl, rfl, trivial, rfl⟩
  · injection H with H; subst H; exact ⟨Try.f61, E ann61 lab61 false false false, Try.func61, by kernel_rfl, ok61.symm, rfl, rfl, trivial, rfl⟩
  · injection H with H; subst H; exact ⟨Try.f62, E ann62 lab62 false false false, Try.func62, by kernel_rfl, ok62.symm, rfl, rfl, trivial, rfl⟩
  · injection H with H; subst H; exact ⟨Try.f64, E ann64 lab64 false false false, Try.func64, by kernel_rfl, ok64.symm, rfl, rfl, trivial, rfl⟩
  · injection H with H; subst H; exact ⟨Try.f65, E ann65 lab65 false false false, Try.func65, by kernel_rfl, ok65.symm, rfl, rfl, trivial, rfl⟩
  · injection H with H; subst H; exact ⟨Try.f66, E ann66 lab66 false false false, Try.func66, by kernel_rfl, ok66.symm, rfl, rfl, trivial, rfl⟩
  · injection H with H; subst H; exact ⟨Try.f67, E ann67 lab67 false false false, Try.func67, by kernel_rfl, ok67.symm, rfl, rfl, trivial, rfl⟩
  · injection H with H; subst H; exact ⟨Try.f68, E ann68 lab68 false false false, Try.func68, by kernel_rfl, ok68.symm, rfl, rfl, trivial, rfl⟩
  · injection H with H; subst H; exact ⟨Try.f69, E ann69 lab69 false false false, Try.func69, by kernel_rfl, ok69.symm, rfl, rfl, trivial, rfl⟩
  · injection H with H; subst H; exact ⟨Try.f70, E ann70 lab70 false false false, Try.func70, by kernel_rfl, ok70.symm, rfl, rfl, trivial, rfl⟩
  · injection H with H; subst H; exact ⟨Try.f71, E ann71 lab71 false false false, Try.func71, by kernel_rfl, ok71.symm, rfl, rfl, trivial, rfl⟩
  · injection H with H; subst H; exact ⟨Try.f72, E ann72 lab72 false false false, Try.func72, by kernel_rfl, ok72.symm, rfl, rfl, trivial, rfl⟩
  · injection H with H; subst H; exact ⟨Try.f73, E ann73 lab73 false false false, Try.func73, by kernel_rfl, ok73.symm, rfl, rfl, trivial, rfl⟩
  · cases H
end Go.Proofs.Ytnkapponcbgbhaa

import Derived.Test.YtmhpkdcnhgmblaaDoorMir1
import Derived.Test.YtmhpkdcnhgmblaaDoorSemS
import Derived.Test.YtmhpkdcnhgmblaaDoorProg
set_option linter.all false
namespace Go.Proofs.YtmhpkdcnhgmblaaDoor
open Go
def globs : Nat → Option (List PV)
  | 0 => some gFirst
  | 1 => some gMore
  | _ => none
def E (a l : Nat → Option Hd) (y g p : Bool) : Env := { fid := fun f => f, glob := globs, raw := fun f => f == 80, ro := fun f => f == 60, rov := false, ann := a, labs := l, yp := y, gf := g, pb := p }
theorem ok3 : denF Tryd.prog (E ann3 lab3 false false false) Tryd.f3 = m3 := by kernel_rfl
theorem ok9 : denF Tryd.prog (E ann9 lab9 false false false) Tryd.f9 = m9 := by kernel_rfl
theorem ok10 : denF Tryd.prog (E ann10 lab10 false false false) Tryd.f10 = m10 := by kernel_rfl
theorem ok11 : denF Tryd.prog (E ann11 lab11 false false false) Tryd.f11 = m11 := by kernel_rfl
theorem ok12 : denF Tryd.prog (E ann12 lab12 false false false) Tryd.f12 = m12 := by kernel_rfl
theorem ok13 : denF Tryd.prog (E ann13 lab13 false false false) Tryd.f13 = m13 := by kernel_rfl
theorem ok14 : denF Tryd.prog (E ann14 lab14 false false false) Tryd.f14 = m14 := by kernel_rfl
theorem ok15 : denF Tryd.prog (E ann15 lab15 false false false) Tryd.f15 = m15 := by kernel_rfl
theorem ok16 : denF Tryd.prog (E ann16 lab16 false false false) Tryd.f16 = m16 := by kernel_rfl
theorem ok17 : denF Tryd.prog (E ann17 lab17 false false false) Tryd.f17 = m17 := by kernel_rfl
theorem ok18 : denF Tryd.prog (E ann18 lab18 false false false) Tryd.f18 = m18 := by kernel_rfl
theorem ok19 : denF Tryd.prog (E ann19 lab19 false false false) Tryd.f19 = m19 := by kernel_rfl
theorem ok20 : denF Tryd.prog (E ann20 lab20 false false false) Tryd.f20 = m20 := by kernel_rfl
theorem ok21 : denF Tryd.prog (E ann21 lab21 false false false) Tryd.f21 = m21 := by kernel_rfl
theorem ok22 : denF Tryd.prog (E ann22 lab22 false false false) Tryd.f22 = m22 := by kernel_rfl
theorem ok23 : denF Tryd.prog (E ann23 lab23 false false false) Tryd.f23 = m23 := by kernel_rfl
theorem ok24 : denF Tryd.prog (E ann24 lab24 false false false) Tryd.f24 = m24 := by kernel_rfl
theorem ok25 : denF Tryd.prog (E ann25 lab25 false false false) Tryd.f25 = m25 := by kernel_rfl
theorem ok26 : denF Tryd.prog (E ann26 lab26 false false false) Tryd.f26 = m26 := by kernel_rfl
theorem ok27 : denF Tryd.prog (E ann27 lab27 false false false) Tryd.f27 = m27 := by kernel_rfl
theorem ok28 : denF Tryd.prog (E ann28 lab28 false false false) Tryd.f28 = m28 := by kernel_rfl
theorem ok29 : denF Tryd.prog (E ann29 lab29 false false false) Tryd.f29 = m29 := by kernel_rfl
theorem ok30 : denF Tryd.prog (E ann30 lab30 false true false) Tryd.f30 = m30 := by kernel_rfl
theorem ok31 : denF Tryd.prog (E ann31 lab31 false false false) Tryd.f31 = m31 := by kernel_rfl
theorem ok32 : denF Tryd.prog (E ann32 lab32 false false false) Tryd.f32 = m32 := by kernel_rfl
theorem ok33 : denF Tryd.prog (E ann33 lab33 false false false) Tryd.f33 = m33 := by kernel_rfl
theorem ok34 : denF Tryd.prog (E ann34 lab34 false false false) Tryd.f34 = m34 := by kernel_rfl
theorem ok35 : denF Tryd.prog (E ann35 lab35 false false false) Tryd.f35 = m35 := by kernel_rfl
theorem ok36 : denF Tryd.prog (E ann36 lab36 false false false) Tryd.f36 = m36 := by kernel_rfl
theorem ok37 : denF Tryd.prog (E ann37 lab37 false false false) Tryd.f37 = m37 := by kernel_rfl
theorem ok38 : denF Tryd.prog (E ann38 lab38 false false false) Tryd.f38 = m38 := by kernel_rfl
theorem ok39 : denF Tryd.prog (E ann39 lab39 false false false) Tryd.f39 = m39 := by kernel_rfl
theorem ok40 : denF Tryd.prog (E ann40 lab40 false false false) Tryd.f40 = m40 := by kernel_rfl
theorem ok41 : denF Tryd.prog (E ann41 lab41 false false false) Tryd.f41 = m41 := by kernel_rfl
theorem ok42 : denF Tryd.prog (E ann42 lab42 false false false) Tryd.f42 = m42 := by kernel_rfl
theorem ok43 : denF Tryd.prog (E ann43 lab43 false false false) Tryd.f43 = m43 := by kernel_rfl
theorem ok44 : denF Tryd.prog (E ann44 lab44 false false false) Tryd.f44 = m44 := by kernel_rfl
theorem ok45 : denF Tryd.prog (E ann45 lab45 false false false) Tryd.f45 = m45 := by kernel_rfl
theorem ok46 : denF Tryd.prog (E ann46 lab46 false false false) Tryd.f46 = m46 := by kernel_rfl
theorem ok47 : denF Tryd.prog (E ann47 lab47 false false false) Tryd.f47 = m47 := by kernel_rfl
theorem ok48 : denF Tryd.prog (E ann48 lab48 false false false) Tryd.f48 = m48 := by kernel_rfl
theorem ok49 : denF Tryd.prog (E ann49 lab49 false false false) Tryd.f49 = m49 := by kernel_rfl
theorem ok50 : denF Tryd.prog (E ann50 lab50 false false false) Tryd.f50 = m50 := by kernel_rfl
theorem ok51 : denF Tryd.prog (E ann51 lab51 false false false) Tryd.f51 = m51 := by kernel_rfl
theorem ok52 : denF Tryd.prog (E ann52 lab52 false false false) Tryd.f52 = m52 := by kernel_rfl
theorem ok53 : denF Tryd.prog (E ann53 lab53 false false false) Tryd.f53 = m53 := by kernel_rfl
theorem ok54 : denF Tryd.prog (E ann54 lab54 false false false) Tryd.f54 = m54 := by kernel_rfl
theorem ok55 : denF Tryd.prog (E ann55 lab55 false false false) Tryd.f55 = m55 := by kernel_rfl
theorem ok56 : denF Tryd.prog (E ann56 lab56 false true false) Tryd.f56 = m56 := by kernel_rfl
theorem ok57 : denF Tryd.prog (E ann57 lab57 false false false) Tryd.f57 = m57 := by kernel_rfl
theorem ok58 : denF Tryd.prog (E ann58 lab58 false false false) Tryd.f58 = m58 := by kernel_rfl
theorem ok59 : denF Tryd.prog (E ann59 lab59 false false false) Tryd.f59 = m59 := by kernel_rfl
theorem ok60 : denF Tryd.prog (E ann60 lab60 false false false) Tryd.f60 = m60 := by kernel_rfl
theorem ok61 : denF Tryd.prog (E ann61 lab61 false false false) Tryd.f61 = m61 := by kernel_rfl
theorem ok62 : denF Tryd.prog (E ann62 lab62 false false false) Tryd.f62 = m62 := by kernel_rfl
theorem ok63 : denF Tryd.prog (E ann63 lab63 false false false) Tryd.f63 = m63 := by kernel_rfl
theorem ok64 : denF Tryd.prog (E ann64 lab64 false false false) Tryd.f64 = m64 := by kernel_rfl
theorem ok65 : denF Tryd.prog (E ann65 lab65 false false false) Tryd.f65 = m65 := by kernel_rfl
theorem ok66 : denF Tryd.prog (E ann66 lab66 false false false) Tryd.f66 = m66 := by kernel_rfl
theorem ok67 : denF Tryd.prog (E ann67 lab67 false false false) Tryd.f67 = m67 := by kernel_rfl
theorem ok68 : denF Tryd.prog (E ann68 lab68 false false false) Tryd.f68 = m68 := by kernel_rfl
theorem ok69 : denF Tryd.prog (E ann69 lab69 false false false) Tryd.f69 = m69 := by kernel_rfl
theorem ok70 : denF Tryd.prog (E ann70 lab70 false false false) Tryd.f70 = m70 := by kernel_rfl
theorem ok71 : denF Tryd.prog (E ann71 lab71 false false false) Tryd.f71 = m71 := by kernel_rfl
theorem ok72 : denF Tryd.prog (E ann72 lab72 false false false) Tryd.f72 = m72 := by kernel_rfl
theorem ok73 : denF Tryd.prog (E ann73 lab73 false false false) Tryd.f73 = m73 := by kernel_rfl
theorem ok74 : denF Tryd.prog (E ann74 lab74 false false false) Tryd.f74 = m74 := by kernel_rfl
theorem ok75 : denF Tryd.prog (E ann75 lab75 true false false) Tryd.f75 = m75 := by kernel_rfl
theorem ok76 : denF Tryd.prog (E ann76 lab76 false false false) Tryd.f76 = m76 := by kernel_rfl
theorem ok77 : denF Tryd.prog (E ann77 lab77 false false false) Tryd.f77 = m77 := by kernel_rfl
theorem ok78 : denF Tryd.prog (E ann78 lab78 false false false) Tryd.f78 = m78 := by kernel_rfl
theorem ok79 : denF Tryd.prog (E ann79 lab79 false false false) Tryd.f79 = m79 := by kernel_rfl
theorem ok80 : denF Tryd.prog (E ann80 lab80 false false false) Tryd.f80 = m80 := by kernel_rfl
theorem ok81 : denF Tryd.prog (E ann81 lab81 false false false) Tryd.f81 = m81 := by kernel_rfl
theorem ok82 : denF Tryd.prog (E ann82 lab82 false false false) Tryd.f82 = m82 := by kernel_rfl
theorem ok83 : denF Tryd.prog (E ann83 lab83 false false false) Tryd.f83 = m83 := by kernel_rfl
theorem ok84 : denF Tryd.prog (E ann84 lab84 false false false) Tryd.f84 = m84 := by kernel_rfl
theorem ok85 : denF Tryd.prog (E ann85 lab85 false false false) Tryd.f85 = m85 := by kernel_rfl
theorem ok86 : denF Tryd.prog (E ann86 lab86 false false false) Tryd.f86 = m86 := by kernel_rfl
theorem ok87 : denF Tryd.prog (E ann87 lab87 false false false) Tryd.f87 = m87 := by kernel_rfl
theorem ok88 : denF Tryd.prog (E ann88 lab88 false false false) Tryd.f88 = m88 := by kernel_rfl
theorem ok89 : denF Tryd.prog (E ann89 lab89 false false false) Tryd.f89 = m89 := by kernel_rfl
theorem ok90 : denF Tryd.prog (E ann90 lab90 false false false) Tryd.f90 = m90 := by kernel_rfl
theorem ok91 : denF Tryd.prog (E ann91 lab91 false false false) Tryd.f91 = m91 := by kernel_rfl
theorem ok92 : denF Tryd.prog (E ann92 lab92 false false false) Tryd.f92 = m92 := by kernel_rfl
theorem ok93 : denF Tryd.prog (E ann93 lab93 false false false) Tryd.f93 = m93 := by kernel_rfl
theorem ok94 : denF Tryd.prog (E ann94 lab94 false false false) Tryd.f94 = m94 := by kernel_rfl
theorem ok95 : denF Tryd.prog (E ann95 lab95 false false false) Tryd.f95 = m95 := by kernel_rfl
theorem ok96 : denF Tryd.prog (E ann96 lab96 false false false) Tryd.f96 = m96 := by kernel_rfl
theorem ok97 : denF Tryd.prog (E ann97 lab97 false false false) Tryd.f97 = m97 := by kernel_rfl
theorem ok98 : denF Tryd.prog (E ann98 lab98 false false false) Tryd.f98 = m98 := by kernel_rfl
theorem ok99 : denF Tryd.prog (E ann99 lab99 false false false) Tryd.f99 = m99 := by kernel_rfl
theorem ok100 : denF Tryd.prog (E ann100 lab100 false false false) Tryd.f100 = m100 := by kernel_rfl
theorem ok101 : denF Tryd.prog (E ann101 lab101 false false false) Tryd.f101 = m101 := by kernel_rfl
theorem ok102 : denF Tryd.prog (E ann102 lab102 false false false) Tryd.f102 = m102 := by kernel_rfl
theorem ok103 : denF Tryd.prog (E ann103 lab103 false false false) Tryd.f103 = m103 := by kernel_rfl
theorem ok104 : denF Tryd.prog (E ann104 lab104 false false false) Tryd.f104 = m104 := by kernel_rfl
theorem ok105 : denF Tryd.prog (E ann105 lab105 false false false) Tryd.f105 = m105 := by kernel_rfl
theorem ok106 : denF Tryd.prog (E ann106 lab106 false false false) Tryd.f106 = m106 := by kernel_rfl
theorem tabled : Tabled Tryd.prog (fun f => f) globs tab := by
  intro f0 m H0
  have H : tab f0 = some m := H0
  clear H0
  unfold tab at H
  split at H
  · injection H with H; subst H; exact ⟨Tryd.f3, E ann3 lab3 false false false, Tryd.func3, by kernel_rfl, ok3.symm, rfl, rfl, trivial, rfl⟩
  · injection H with H; subst H; exact ⟨Tryd.f9, E ann9 lab9 false false false, Tryd.func9, by kernel_rfl, ok9.symm, rfl, rfl, trivial, rfl⟩
  · injection H with H; subst H; exact ⟨Tryd.f10, E ann10 lab10 false false false, Tryd.func10, by kernel_rfl, ok10.symm, rfl, rfl, trivial, rfl⟩
  · injection H with H; subst H; exact ⟨Tryd.f11, E ann11 lab11 false false false, Tryd.func11, by kernel_rfl, ok11.symm, rfl, rfl, trivial, rfl⟩
  · injection H with H; subst H; exact ⟨Tryd.f12, E ann12 lab12 false false false, Tryd.func12, by kernel_rfl, ok12.symm, rfl, rfl, trivial, rfl⟩
  · injection H with H; subst H; exact ⟨Tryd.f13, E ann13 lab13 false false false, Tryd.func13, by kernel_rfl, ok13.symm, rfl, rfl, trivial, rfl⟩
  · injection H with H; subst H; exact ⟨Tryd.f14, E ann14 lab14 false false false, Tryd.func14, by kernel_rfl, ok14.symm, rfl, rfl, trivial, rfl⟩
  · injection H with H; subst H; exact ⟨Tryd.f15, E ann15 lab15 false false false, Tryd.func15, by kernel_rfl, ok15.symm, rfl, rfl, trivial, rfl⟩
  · injection H with H; subst H; exact ⟨Tryd.f16, E ann16 lab16 false false false, Tryd.func16, by kernel_rfl, ok16.symm, rfl, rfl, trivial, rfl⟩
  · injection H with H; subst H; exact ⟨Tryd.f17, E ann17 lab17 false false false, Tryd.func17, by kernel_rfl, ok17.symm, rfl, rfl, trivial, rfl⟩
  · injection H with H; subst H; exact ⟨Tryd.f18, E ann18 lab18 false false false, Tryd.func18, by kernel_rfl, ok18.symm, rfl, rfl, trivial, rfl⟩
  · injection H with H; subst H; exact ⟨Tryd.f19, E ann19 lab19 false false false, Tryd.func19, by kernel_rfl, ok19.symm, rfl, rfl, trivial, rfl⟩
  · injection H with H; subst H; exact ⟨Tryd.f20, E ann20 lab20 false false false, Tryd.func20, by kernel_rfl, ok20.symm, rfl, rfl, trivial, rfl⟩
  · injection H with H; subst H; exact ⟨Tryd.f21, E ann21 lab21 false false false, Tryd.func21, by kernel_rfl, ok21.symm, rfl, rfl, trivial, rfl⟩
  · injection H with H; subst H; exact ⟨Tryd.f22, E ann22 lab22 false false false, Tryd.func22, by kernel_rfl, ok22.symm, rfl, rfl, trivial, rfl⟩
  · injection H with H; subst H; exact ⟨Tryd.f23, E ann23 lab23 false false false, Tryd.func23, by kernel_rfl, ok23.symm, rfl, rfl, trivial, rfl⟩
  · injection H with H; subst H; exact ⟨Tryd.f24, E ann24 lab24 false false false, Tryd.func24, by kernel_rfl, ok24.symm, rfl, rfl, trivial, rfl⟩
  · injection H with H; subst H; exact ⟨Tryd.f25, E ann25 lab25 false false false, Tryd.func25, by kernel_rfl, ok25.symm, rfl, rfl, trivial, rfl⟩
  · injection H with H; subst H; exact ⟨Tryd.f26, E ann26 lab26 false false false, Tryd.func26, by kernel_rfl, ok26.symm, rfl, rfl, trivial, rfl⟩
  · injection H with H; subst H; exact ⟨Tryd.f27, E ann27 lab27 false false false, Tryd.func27, by kernel_rfl, ok27.symm, rfl, rfl, trivial, rfl⟩
  · injection H with H; subst H; exact ⟨Tryd.f28, E ann28 lab28 false false false, Tryd.func28, by kernel_rfl, ok28.symm, rfl, rfl, trivial, rfl⟩
  · injection H with H; subst H; exact ⟨Tryd.f29, E ann29 lab29 false false false, Tryd.func29, by kernel_rfl, ok29.symm, rfl, rfl, trivial, rfl⟩
  · injection H with H; subst H; exact ⟨Tryd.f30, E ann30 lab30 false true false, Tryd.func30, by kernel_rfl, ok30.symm, rfl, rfl, trivial, rfl⟩
  · injection H with H; subst H; exact ⟨Tryd.f31, E ann31 lab31 false false false, Tryd.func31, by kernel_rfl, ok31.symm, rfl, rfl, trivial, rfl⟩
  · injection H with H; subst H; exact ⟨Tryd.f32, E ann32 lab32 false false false, Tryd.func32, by kernel_rfl, ok32.symm, rfl, rfl, trivial, rfl⟩
  · injection H with H; subst H; exact ⟨Tryd.f33, E ann33 lab33 false false false, Tryd.func33, by kernel_rfl, ok33.symm, rfl, rfl, trivial, rfl⟩
  · injection H with H; subst H; exact ⟨Tryd.f34, E ann34 lab34 false false false, Tryd.func34, by kernel_rfl, ok34.symm, rfl, rfl, trivial, rfl⟩
  · injection H with H; subst H; exact ⟨Tryd.f35, E ann35 lab35 false false false, Tryd.func35, by kernel_rfl, ok35.symm, rfl, rfl, trivial, rfl⟩
  · injection H with H; subst H; exact ⟨Tryd.f36, E ann36 lab36 false false false, Tryd.func36, by kernel_rfl, ok36.symm, rfl, rfl, trivial, rfl⟩
  · injection H with H; subst H; exact ⟨Tryd.f37, E ann37 lab37 false false false, Tryd.func37, by kernel_rfl, ok37.symm, rfl, rfl, trivial, rfl⟩
  · injection H with H; subst H; exact ⟨Tryd.f38, E ann38 lab38 false false false, Tryd.func38, by kernel_rfl, ok38.symm, rfl, rfl, trivial, rfl⟩
  · injection H with H; subst H; exact ⟨Tryd.f39, E ann39 lab39 false false false, Tryd.func39, by kernel_rfl, ok39.symm, rfl, rfl, trivial, rfl⟩
  · injection H with H; subst H; exact ⟨Tryd.f40, E ann40 lab40 false false false, Tryd.func40, by kernel_rfl, ok40.symm, rfl, rfl, trivial, rfl⟩
  · injection H with H; subst H; exact ⟨Tryd.f41, E ann41 lab41 false false false, Tryd.func41, by kernel_rfl, ok41.symm, rfl, rfl, trivial, rfl⟩
  · injection H with H; subst H; exact ⟨Tryd.f42, E ann42 lab42 false false false, Tryd.func42, by kernel_rfl, ok42.symm, rfl, rfl, trivial, rfl⟩
  · injection H with H; subst H; exact ⟨Tryd.f43, E ann43 lab43 false false false, Tryd.func43, by kernel_rfl, ok43.symm, rfl, rfl, trivial, rfl⟩
  · injection H with H; subst H; exact ⟨Tryd.f44, E ann44 lab44 false false false, Tryd.func44, by kernel_rfl, ok44.symm, rfl, rfl, trivial, rfl⟩
  · injection H with H; subst H; exact ⟨Tryd.f45, E ann45 lab45 false false false, Tryd.func45, by kernel_rfl, ok45.symm, rfl, rfl, trivial, rfl⟩
  · injection H with H; subst H; exact ⟨Tryd.f46, E ann46 lab46 false false false, Tryd.func46, by kernel_rfl, ok46.symm, rfl, rfl, trivial, rfl⟩
  · injection H with H; subst H; exact ⟨Tryd.f47, E ann47 lab47 false false false, Tryd.func47, by kernel_rfl, ok47.symm, rfl, rfl, trivial, rfl⟩
  · injection H with H; subst H; exact ⟨Tryd.f48, E ann48 lab48 false false false, Tryd.func48, by kernel_rfl, ok48.symm, rfl, rfl, trivial, rfl⟩
  · injection H with H; subst H; exact ⟨Tryd.f49, E ann49 lab49 false false false, Tryd.func49, by kernel_rfl, ok49.symm, rfl, rfl, trivial, rfl⟩
  · injection H with H; subst H; exact ⟨Tryd.f50, E ann50 lab50 false false false, Tryd.func50, by kernel_rfl, ok50.symm, rfl, rfl, trivial, rfl⟩
  · injection H with H; subst H; exact ⟨Tryd.f51, E ann51 lab51 false false false, Tryd.func51, by kernel_rfl, ok51.symm, rfl, rfl, trivial, rfl⟩
  · injection H with H; subst H; exact ⟨Tryd.f52, E ann52 lab52 false false false, Tryd.func52, by kernel_rfl, ok52.symm, rfl, rfl, trivial, rfl⟩
  · injection H with H; subst H; exact ⟨Tryd.f53, E ann53 lab53 false false false, Tryd.func53, by kernel_rfl, ok53.symm, rfl, rfl, trivial, rfl⟩
  · injection H with H; subst H; exact ⟨Tryd.f54, E ann54 lab54 false false false, Tryd.func54, by kernel_rfl, ok54.symm, rfl, rfl, trivial, rfl⟩
  · injection H with H; subst H; exact ⟨Tryd.f55, E ann55 lab55 false false false, Tryd.func55, by kernel_rfl, ok55.symm, rfl, rfl, trivial, rfl⟩
  · injection H with H; subst H; exact ⟨Tryd.f56, E ann56 lab56 false true false, Tryd.func56, by kernel_rfl, ok56.symm, rfl, rfl, trivial, rfl⟩
  · injection H with H; subst H; exact ⟨Tryd.f57, E ann57 lab57 false false false, Tryd.func57, by kernel_rfl, ok57.symm, rfl, rfl, trivial, rfl⟩
  · injection H with H; subst H; exact ⟨Tryd.f58, E ann58 lab58 false false false, Tryd.func58, by kernel_rfl, ok58.symm, rfl, rfl, trivial, rfl⟩
  · injection H with H; subst H; exact ⟨Tryd.f59, E ann59 lab59 false false false, Tryd.func59, by kernel_rfl, ok59.symm, rfl, rfl, trivial, rfl⟩
  · injection H with H; subst H; exact ⟨Tryd.f60, E ann60 lab60 false false false, Tryd.func60, by kernel_rfl, ok60.symm, rfl, rfl, trivial, rfl⟩
  · injection H with H; subst H; exact ⟨Tryd.f61, E ann61 lab61 false false false, Tryd.func61, by kernel_rfl, ok61.symm, rfl, rfl, trivial, rfl⟩
  · injection H with H; subst H; exact ⟨Tryd.f62, E ann62 lab62 false false false, Tryd.func62, by kernel_rfl, ok62.symm, rfl, rfl, trivial, rfl⟩
  · injection H with H; subst H; exact ⟨Tryd.f63, E ann63 lab63 false false false, Tryd.func63, by kernel_rfl, ok63.symm, rfl, rfl, trivial, rfl⟩
  · injection H with H; subst H; exact ⟨Tryd.f64, E ann64 lab64 false false false, Tryd.func64, by kernel_rfl, ok64.symm, rfl, rfl, trivial, rfl⟩
  · injection H with H; subst H; exact ⟨Tryd.f65, E ann65 lab65 false false false, Tryd.func65, by kernel_rfl, ok65.symm, rfl, rfl, trivial, rfl⟩
  · injection H with H; subst H; exact ⟨Tryd.f66, E ann66 lab66 false false false, Tryd.func66, by kernel_rfl, ok66.symm, rfl, rfl, trivial, rfl⟩
  · injection H with H; subst H; exact ⟨Tryd.f67, E ann67 lab67 false false false, Tryd.func67, by kernel_rfl, ok67.symm, rfl, rfl, trivial, rfl⟩
  · injection H with H; subst H; exact ⟨Tryd.f68, E ann68 lab68 false false false, Tryd.func68, by kernel_rfl, ok68.symm, rfl, rfl, trivial, rfl⟩
  · injection H with H; subst H; exact ⟨Tryd.f69, E ann69 lab69 false false false, Tryd.func69, by kernel_rfl, ok69.symm, rfl, rfl, trivial, rfl⟩
  · injection H with H; subst H; exact ⟨Tryd.f70, E ann70 lab70 false false false, Tryd.func70, by kernel_rfl, ok70.symm, rfl, rfl, trivial, rfl⟩
  · injection H with H; subst H; exact ⟨Tryd.f71, E ann71 lab71 false false false, Tryd.func71, by kernel_rfl, ok71.symm, rfl, rfl, trivial, rfl⟩
  · injection H with H; subst H; exact ⟨Tryd.f72, E ann72 lab72 false false false, Tryd.func72, by kernel_rfl, ok72.symm, rfl, rfl, trivial, rfl⟩
  · injection H with H; subst H; exact ⟨Tryd.f73, E ann73 lab73 false false false, Tryd.func73, by kernel_rfl, ok73.symm, rfl, rfl, trivial, rfl⟩
  · injection H with H; subst H; exact ⟨Tryd.f74, E ann74 lab74 false false false, Tryd.func74, by kernel_rfl, ok74.symm, rfl, rfl, trivial, rfl⟩
  · injection H with H; subst H; exact ⟨Tryd.f75, E ann75 lab75 true false false, Tryd.func75, by kernel_rfl, ok75.symm, rfl, rfl, trivial, rfl⟩
  · injection H with H; subst H; exact ⟨Tryd.f76, E ann76 lab76 false false false, Tryd.func76, by kernel_rfl, ok76.symm, rfl, rfl, trivial, rfl⟩
  · injection H with H; subst H; exact ⟨Tryd.f77, E ann77 lab77 false false false, Tryd.func77, by kernel_rfl, ok77.symm, rfl, rfl, trivial, rfl⟩
  · injection H with H; subst H; exact ⟨Tryd.f78, E ann78 lab78 false false false, Tryd.func78, by kernel_rfl, ok78.symm, rfl, rfl, trivial, rfl⟩
  · injection H with H; subst H; exact ⟨Tryd.f79, E ann79 lab79 false false false, Tryd.func79, by kernel_rfl, ok79.symm, rfl, rfl, trivial, rfl⟩
  · injection H with H; subst H; exact ⟨Tryd.f80, E ann80 lab80 false false false, Tryd.func80, by kernel_rfl, ok80.symm, rfl, rfl, trivial, rfl⟩
  · injection H with H; subst H; exact ⟨Tryd.f81, E ann81 lab81 false false false, Tryd.func81, by kernel_rfl, ok81.symm, rfl, rfl, trivial, rfl⟩
  · injection H with H; subst H; exact ⟨Tryd.f82, E ann82 lab82 false false false, Tryd.func82, by kernel_rfl, ok82.symm, rfl, rfl, trivial, rfl⟩
  · injection H with H; subst H; exact ⟨Tryd.f83, E ann83 lab83 false false false, Tryd.func83, by kernel_rfl, ok83.symm, rfl, rfl, trivial, rfl⟩
  · injection H with H; subst H; exact ⟨Tryd.f84, E ann84 lab84 false false false, Tryd.func84, by kernel_rfl, ok84.symm, rfl, rfl, trivial, rfl⟩
  · injection H with H; subst H; exact ⟨Tryd.f85, E ann85 lab85 false false false, Tryd.func85, by kernel_rfl, ok85.symm, rfl, rfl, trivial, rfl⟩
  · injection H with H; subst H; exact ⟨Tryd.f86, E ann86 lab86 false false false, Tryd.func86, by kernel_rfl, ok86.symm, rfl, rfl, trivial, rfl⟩
  · injection H with H; subst H; exact ⟨Tryd.f87, E ann87 lab87 false false false, Tryd.func87, by kernel_rfl, ok87.symm, rfl, rfl, trivial, rfl⟩
  · injection H with H; subst H; exact ⟨Tryd.f88, E ann88 lab88 false false false, Tryd.func88, by kernel_rfl, ok88.symm, rfl, rfl, trivial, rfl⟩
  · injection H with H; subst H; exact ⟨Tryd.f89, E ann89 lab89 false false false, Tryd.func89, by kernel_rfl, ok89.symm, rfl, rfl, trivial, rfl⟩
  · injection H with H; subst H; exact ⟨Tryd.f90, E ann90 lab90 false false false, Tryd.func90, by kernel_rfl, ok90.symm, rfl, rfl, trivial, rfl⟩
  · injection H with H; subst H; exact ⟨Tryd.f91, E ann91 lab91 false false false, Tryd.func91, by kernel_rfl, ok91.symm, rfl, rfl, trivial, rfl⟩
  · injection H with H; subst H; exact ⟨Tryd.f92, E ann92 lab92 false false false, Tryd.func92, by kernel_rfl, ok92.symm, rfl, rfl, trivial, rfl⟩
  · injection H with H; subst H; exact ⟨Tryd.f93, E ann93 lab93 false false false, Tryd.func93, by kernel_rfl, ok93.symm, rfl, rfl, trivial, rfl⟩
  · injection H with H; subst H; exact ⟨Tryd.f94, E ann94 lab94 false false false, Tryd.func94, by kernel_rfl, ok94.symm, rfl, rfl, trivial, rfl⟩
  · injection H with H; subst H; exact ⟨Tryd.f95, E ann95 lab95 false false false, Tryd.func95, by kernel_rfl, ok95.symm, rfl, rfl, trivial, rfl⟩
  · injection H with H; subst H; exact ⟨Tryd.f96, E ann96 lab96 false false false, Tryd.func96, by kernel_rfl, ok96.symm, rfl, rfl, trivial, rfl⟩
  · injection H with H; subst H; exact ⟨Tryd.f97, E ann97 lab97 false false false, Tryd.func97, by kernel_rfl, ok97.symm, rfl, rfl, trivial, rfl⟩
  · injection H with H; subst H; exact ⟨Tryd.f98, E ann98 lab98 false false false, Tryd.func98, by kernel_rfl, ok98.symm, rfl, rfl, trivial, rfl⟩
  · injection H with H; subst H; exact ⟨Tryd.f99, E ann99 lab99 false false false, Tryd.func99, by kernel_rfl, ok99.symm, rfl, rfl, trivial, rfl⟩
  · injection H with H; subst H; exact ⟨Tryd.f100, E ann100 lab100 false false false, Tryd.func100, by kernel_rfl, ok100.symm, rfl, rfl, trivial, rfl⟩
  · injection H with H; subst H; exact ⟨Tryd.f101, E ann101 lab101 false false false, Tryd.func101, by kernel_rfl, ok101.symm, rfl, rfl, trivial, rfl⟩
  · injection H with H; subst H; exact ⟨Tryd.f102, E ann102 lab102 false false false, Tryd.func102, by kernel_rfl, ok102.symm, rfl, rfl, trivial, rfl⟩
  · injection H with H; subst H; exact ⟨Tryd.f103, E ann103 lab103 false false false, Tryd.func103, by kernel_rfl, ok103.symm, rfl, rfl, trivial, rfl⟩
  · injection H with H; subst H; exact ⟨Tryd.f104, E ann104 lab104 false false false, Tryd.func104, by kernel_rfl, ok104.symm, rfl, rfl, trivial, rfl⟩
  · injection H with H; subst H; exact ⟨Tryd.f105, E ann105 lab105 false false false, Tryd.func105, by kernel_rfl, ok105.symm, rfl, rfl, trivial, rfl⟩
  · injection H with H; subst H; exact ⟨Tryd.f106, E ann106 lab106 false false false, Tryd.func106, by kernel_rfl, ok106.symm, rfl, rfl, trivial, rfl⟩
  · cases H
end Go.Proofs.YtmhpkdcnhgmblaaDoor

/-
  The model's code reads as the plain functions: checked by the kernel. Printed by run4.py.
-/
import Derived.Test.YtmhpkdcnhgmblaaMir1
import Derived.Test.YtmhpkdcnhgmblaaSemS
import Derived.Test.YtmhpkdcnhgmblaaProg
set_option linter.all false
namespace Go.Proofs.Ytmhpkdcnhgmblaa
open Go
def globs : Nat → Option (List PV) := fun _ => none
def E (a l : Nat → Option Hd) (y g p : Bool) : Env := { fid := fun f => f, glob := globs, raw := fun f => f == 37, ro := fun f => false, rov := false, ann := a, labs := l, yp := y, gf := g, pb := p }
theorem ok3 : denF Try.prog (E ann3 lab3 false false false) Try.f3 = m3 := by kernel_rfl
theorem ok4 : denF Try.prog (E ann4 lab4 false false true) Try.f4 = m4 := by kernel_rfl
theorem ok5 : denF Try.prog (E ann5 lab5 false false false) Try.f5 = m5 := by kernel_rfl
theorem ok6 : denF Try.prog (E ann6 lab6 false false false) Try.f6 = m6 := by kernel_rfl
theorem ok7 : denF Try.prog (E ann7 lab7 false false false) Try.f7 = m7 := by kernel_rfl
theorem ok8 : denF Try.prog (E ann8 lab8 false false false) Try.f8 = m8 := by kernel_rfl
theorem ok9 : denF Try.prog (E ann9 lab9 false false false) Try.f9 = m9 := by kernel_rfl
theorem ok10 : denF Try.prog (E ann10 lab10 false false false) Try.f10 = m10 := by kernel_rfl
theorem ok11 : denF Try.prog (E ann11 lab11 false false false) Try.f11 = m11 := by kernel_rfl
theorem ok12 : denF Try.prog (E ann12 lab12 false false true) Try.f12 = m12 := by kernel_rfl
theorem ok13 : denF Try.prog (E ann13 lab13 false false false) Try.f13 = m13 := by kernel_rfl
theorem ok14 : denF Try.prog (E ann14 lab14 false false false) Try.f14 = m14 := by kernel_rfl
theorem ok15 : denF Try.prog (E ann15 lab15 false false false) Try.f15 = m15 := by kernel_rfl
theorem ok16 : denF Try.prog (E ann16 lab16 false false true) Try.f16 = m16 := by kernel_rfl
theorem ok17 : denF Try.prog (E ann17 lab17 false false false) Try.f17 = m17 := by kernel_rfl
theorem ok18 : denF Try.prog (E ann18 lab18 false false false) Try.f18 = m18 := by kernel_rfl
theorem ok19 : denF Try.prog (E ann19 lab19 false false false) Try.f19 = m19 := by kernel_rfl
theorem ok20 : denF Try.prog (E ann20 lab20 false false false) Try.f20 = m20 := by kernel_rfl
theorem ok21 : denF Try.prog (E ann21 lab21 false false false) Try.f21 = m21 := by kernel_rfl
theorem ok22 : denF Try.prog (E ann22 lab22 false true false) Try.f22 = m22 := by kernel_rfl
theorem ok23 : denF Try.prog (E ann23 lab23 false false false) Try.f23 = m23 := by kernel_rfl
theorem ok24 : denF Try.prog (E ann24 lab24 false false false) Try.f24 = m24 := by kernel_rfl
theorem ok25 : denF Try.prog (E ann25 lab25 false true false) Try.f25 = m25 := by kernel_rfl
theorem ok26 : denF Try.prog (E ann26 lab26 false false false) Try.f26 = m26 := by kernel_rfl
theorem ok27 : denF Try.prog (E ann27 lab27 false false false) Try.f27 = m27 := by kernel_rfl
theorem ok28 : denF Try.prog (E ann28 lab28 false false false) Try.f28 = m28 := by kernel_rfl
theorem ok29 : denF Try.prog (E ann29 lab29 false false false) Try.f29 = m29 := by kernel_rfl
theorem ok30 : denF Try.prog (E ann30 lab30 false false false) Try.f30 = m30 := by kernel_rfl
theorem ok31 : denF Try.prog (E ann31 lab31 false false false) Try.f31 = m31 := by kernel_rfl
theorem ok32 : denF Try.prog (E ann32 lab32 false false false) Try.f32 = m32 := by kernel_rfl
theorem ok33 : denF Try.prog (E ann33 lab33 false false false) Try.f33 = m33 := by kernel_rfl
theorem ok34 : denF Try.prog (E ann34 lab34 false false false) Try.f34 = m34 := by kernel_rfl
theorem ok35 : denF Try.prog (E ann35 lab35 false false false) Try.f35 = m35 := by kernel_rfl
theorem ok36 : denF Try.prog (E ann36 lab36 false false false) Try.f36 = m36 := by kernel_rfl
theorem ok37 : denF Try.prog (E ann37 lab37 false true false) Try.f37 = m37 := by kernel_rfl
theorem ok38 : denF Try.prog (E ann38 lab38 false false false) Try.f38 = m38 := by kernel_rfl
theorem ok39 : denF Try.prog (E ann39 lab39 true false false) Try.f39 = m39 := by kernel_rfl
theorem ok40 : denF Try.prog (E ann40 lab40 false false false) Try.f40 = m40 := by kernel_rfl
theorem ok41 : denF Try.prog (E ann41 lab41 false false false) Try.f41 = m41 := by kernel_rfl
theorem ok42 : denF Try.prog (E ann42 lab42 false false false) Try.f42 = m42 := by kernel_rfl
theorem ok44 : denF Try.prog (E ann44 lab44 false false false) Try.f44 = m44 := by kernel_rfl
theorem ok45 : denF Try.prog (E ann45 lab45 false false false) Try.f45 = m45 := by kernel_rfl
theorem ok46 : denF Try.prog (E ann46 lab46 false false false) Try.f46 = m46 := by kernel_rfl
theorem ok47 : denF Try.prog (E ann47 lab47 false false false) Try.f47 = m47 := by kernel_rfl
theorem tabled : Tabled Try.prog (fun f => f) globs tab := by
  intro f0 m H0
  have H : tab f0 = some m := H0
  clear H0
  unfold tab at H
  split at H
  · injection H with H; subst H; exact ⟨Try.f3, E ann3 lab3 false false false, Try.func3, by kernel_rfl, ok3.symm, rfl, rfl, trivial, rfl⟩
  · injection H with H; subst H; exact ⟨Try.f4, E ann4 lab4 false false true, Try.func4, by kernel_rfl, ok4.symm, rfl, rfl, trivial, rfl⟩
  · injection H with H; subst H; exact ⟨Try.f5, E ann5 lab5 false false false, Try.func5, by kernel_rfl, ok5.symm, rfl, rfl, trivial, rfl⟩
  · injection H with H; subst H; exact ⟨Try.f6, E ann6 lab6 false false false, Try.func6, by kernel_rfl, ok6.symm, rfl, rfl, trivial, rfl⟩
  · injection H with H; subst H; exact ⟨Try.f7, E ann7 lab7 false false false, Try.func7, by kernel_rfl, ok7.symm, rfl, rfl, trivial, rfl⟩
  · injection H with H; subst H; exact ⟨Try.f8, E ann8 lab8 false false false, Try.func8, by kernel_rfl, ok8.symm, rfl, rfl, trivial, rfl⟩
  · injection H with H; subst H; exact ⟨Try.f9, E ann9 lab9 false false false, Try.func9, by kernel_rfl, ok9.symm, rfl, rfl, trivial, rfl⟩
  · injection H with H; subst H; exact ⟨Try.f10, E ann10 lab10 false false false, Try.func10, by kernel_rfl, ok10.symm, rfl, rfl, trivial, rfl⟩
  · injection H with H; subst H; exact ⟨Try.f11, E ann11 lab11 false false false, Try.func11, by kernel_rfl, ok11.symm, rfl, rfl, trivial, rfl⟩
  · injection H with H; subst H; exact ⟨Try.f12, E ann12 lab12 false false true, Try.func12, by kernel_rfl, ok12.symm, rfl, rfl, trivial, rfl⟩
  · injection H with H; subst H; exact ⟨Try.f13, E ann13 lab13 false false false, Try.func13, by kernel_rfl, ok13.symm, rfl, rfl, trivial, rfl⟩
  · injection H with H; subst H; exact ⟨Try.f14, E ann14 lab14 false false false, Try.func14, by kernel_rfl, ok14.symm, rfl, rfl, trivial, rfl⟩
  · injection H with H; subst H; exact ⟨Try.f15, E ann15 lab15 false false false, Try.func15, by kernel_rfl, ok15.symm, rfl, rfl, trivial, rfl⟩
  · injection H with H; subst H; exact ⟨Try.f16, E ann16 lab16 false false true, Try.func16, by kernel_rfl, ok16.symm, rfl, rfl, trivial, rfl⟩
  · injection H with H; subst H; exact ⟨Try.f17, E ann17 lab17 false false false, Try.func17, by kernel_rfl, ok17.symm, rfl, rfl, trivial, rfl⟩
  · injection H with H; subst H; exact ⟨Try.f18, E ann18 lab18 false false false, Try.func18, by kernel_rfl, ok18.symm, rfl, rfl, trivial, rfl⟩
  · injection H with H; subst H; exact ⟨Try.f19, E ann19 lab19 false false false, Try.func19, by kernel_rfl, ok19.symm, rfl, rfl, trivial, rfl⟩
  · injection H with H; subst H; exact ⟨Try.f20, E ann20 lab20 false false false, Try.func20, by kernel_rfl, ok20.symm, rfl, rfl, trivial, rfl⟩
  · injection H with H; subst H; exact ⟨Try.f21, E ann21 lab21 false false false, Try.func21, by kernel_rfl, ok21.symm, rfl, rfl, trivial, rfl⟩
  · injection H with H; subst H; exact ⟨Try.f22, E ann22 lab22 false true false, Try.func22, by kernel_rfl, ok22.symm, rfl, rfl, trivial, rfl⟩
  · injection H with H; subst H; exact ⟨Try.f23, E ann23 lab23 false false false, Try.func23, by kernel_rfl, ok23.symm, rfl, rfl, trivial, rfl⟩
  · injection H with H; subst H; exact ⟨Try.f24, E ann24 lab24 false false false, Try.func24, by kernel_rfl, ok24.symm, rfl, rfl, trivial, rfl⟩
  · injection H with H; subst H; exact ⟨Try.f25, E ann25 lab25 false true false, Try.func25, by kernel_rfl, ok25.symm, rfl, rfl, trivial, rfl⟩
  · injection H with H; subst H; exact ⟨Try.f26, E ann26 lab26 false false false, Try.func26, by kernel_rfl, ok26.symm, rfl, rfl, trivial, rfl⟩
  · injection H with H; subst H; exact ⟨Try.f27, E ann27 lab27 false false false, Try.func27, by kernel_rfl, ok27.symm, rfl, rfl, trivial, rfl⟩
  · injection H with H; subst H; exact ⟨Try.f28, E ann28 lab28 false false false, Try.func28, by kernel_rfl, ok28.symm, rfl, rfl, trivial, rfl⟩
  · injection H with H; subst H; exact ⟨Try.f29, E ann29 lab29 false false false, Try.func29, by kernel_rfl, ok29.symm, rfl, rfl, trivial, rfl⟩
  · injection H with H; subst H; exact ⟨Try.f30, E ann30 lab30 false false false, Try.func30, by kernel_rfl, ok30.symm, rfl, rfl, trivial, rfl⟩
  · injection H with H; subst H; exact ⟨Try.f31, E ann31 lab31 false false false, Try.func31, by kernel_rfl, ok31.symm, rfl, rfl, trivial, rfl⟩
  · injection H with H; subst H; exact ⟨Try.f32, E ann32 lab32 false false false, Try.func32, by kernel_rfl, ok32.symm, rfl, rfl, trivial, rfl⟩
  · injection H with H; subst H; exact ⟨Try.f33, E ann33 lab33 false false false, Try.func33, by kernel_rfl, ok33.symm, rfl, rfl, trivial, rfl⟩
  · injection H with H; subst H; exact ⟨Try.f34, E ann34 lab34 false false false, Try.func34, by kernel_rfl, ok34.symm, rfl, rfl, trivial, rfl⟩
  · injection H with H; subst H; exact ⟨Try.f35, E ann35 lab35 false false false, Try.func35, by kernel_rfl, ok35.symm, rfl, rfl, trivial, rfl⟩
  · injection H with H; subst H; exact ⟨Try.f36, E ann36 lab36 false false false, Try.func36, by kernel_rfl, ok36.symm, rfl, rfl, trivial, rfl⟩
  · injection H with H; subst H; exact ⟨Try.f37, E ann37 lab37 false true false, Try.func37, by kernel_rfl, ok37.symm, rfl, rfl, trivial, rfl⟩
  · injection H with H; subst H; exact ⟨Try.f38, E ann38 lab38 false false false, Try.func38, by kernel_rfl, ok38.symm, rfl, rfl, trivial, rfl⟩
  · injection H with H; subst H; exact ⟨Try.f39, E ann39 lab39 true false false, Try.func39, by kernel_rfl, ok39.symm, rfl, rfl, trivial, rfl⟩
  · injection H with H; subst H; exact ⟨Try.f40, E ann40 lab40 false false false, Try.func40, by kernel_rfl, ok40.symm, rfl, rfl, trivial, rfl⟩
  · injection H with H; subst H; exact ⟨Try.f41, E ann41 lab41 false false false, Try.func41, by kernel_rfl, ok41.symm, rfl, rfl, trivial, rfl⟩
  · injection H with H; subst H; exact ⟨Try.f42, E ann42 lab42 false false false, Try.func42, by kernel_rfl, ok42.symm, rfl, rfl, trivial, rfl⟩
  · injection H with H; subst H; exact ⟨Try.f44, E ann44 lab44 false false false, Try.func44, by kernel_rfl, ok44.symm, rfl, rfl, trivial, rfl⟩
  · injection H with H; subst H; exact ⟨Try.f45, E ann45 lab45 false false false, Try.func45, by kernel_rfl, ok45.symm, rfl, rfl, trivial, rfl⟩
  · injection H with H; subst H; exact ⟨Try.f46, E ann46 lab46 false false false, Try.func46, by kernel_rfl, ok46.symm, rfl, rfl, trivial, rfl⟩
  · injection H with H; subst H; exact ⟨Try.f47, E ann47 lab47 false false false, Try.func47, by kernel_rfl, ok47.symm, rfl, rfl, trivial, rfl⟩
  · cases H
end Go.Proofs.Ytmhpkdcnhgmblaa

/- The law TranslateDoes. -/
import Derived.Test.YtjfkhhfdfebpeaaGreatDoorEngT
import Derived.Test.YtjfkhhfdfebpeaaGreatDoorEngTab
import Derived.Test.YtjfkhhfdfebpeaaGreatDoorEngW1
import Derived.Test.YtjfkhhfdfebpeaaGreatDoorEngW13
import Derived.Test.YtjfkhhfdfebpeaaGreatDoorEngW16
import Derived.Test.YtjfkhhfdfebpeaaGreatDoorEngW15
import Derived.Test.YtjfkhhfdfebpeaaGreatDoorEngZ
import Derived.Test.YtjfkhhfdfebpeaaGreatDoorEngW18
import Derived.Test.YtjfkhhfdfebpeaaGreatDoorEngW19
import Derived.Test.YtjfkhhfdfebpeaaGreatDoorEngW27
set_option linter.all false
set_option linter.unusedVariables false
set_option linter.unusedSimpArgs false
set_option maxRecDepth 100000
set_option maxHeartbeats 20000000
namespace Eng
open Go
section
variable {R : RProg} {G : Nat → AV}
theorem FmSp7.mono {l : List Int} {n b b' m m' : Nat} (h : FmSp7 R G l n b m) (hb : b' ≤ b) (hm : m ≤ m') : FmSp7 R G l n b' m' := fun d r a hd hr ha => by
  obtain ⟨f, a', h1, h2, h3, h4⟩ := h d r a hd (hr.mono hb) ha
  exact ⟨f, a', h1, ⟨h2.1, by omega⟩, h3.mono hm, h4⟩
theorem call7z0 (hR : Has R G c7) (l : List Int) (hl : l.length ≤ 500) : FmSp7 R G l 0 380 782 := call7g (hR.sub (by kernel_rfl)) l hl 0 380 386 (by omega) (by omega) (.inl rfl) (by omega)
theorem call7z1 (hR : Has R G c7) (l : List Int) (hl : l.length ≤ 500) : FmSp7 R G l 1 379 1574 := call7g (hR.sub (by kernel_rfl)) l hl 1 379 782 (by omega) (by omega) (.inr (call7z0 (hR.sub (by kernel_rfl)) l hl)) (by omega)
theorem call7z2 (hR : Has R G c7) (l : List Int) (hl : l.length ≤ 500) : FmSp7 R G l 2 378 3158 := call7g (hR.sub (by kernel_rfl)) l hl 2 378 1574 (by omega) (by omega) (.inr (call7z1 (hR.sub (by kernel_rfl)) l hl)) (by omega)
theorem FmSp8.mono {l : List Int} {n b b' m m' : Nat} (h : FmSp8 R G l n b m) (hb : b' ≤ b) (hm : m ≤ m') : FmSp8 R G l n b' m' := fun d r a hd hr ha => by
  obtain ⟨f, a', h1, h2, h3, h4⟩ := h d r a hd (hr.mono hb) ha
  exact ⟨f, a', h1, ⟨h2.1, by omega⟩, h3.mono hm, h4⟩
def saneA : Fm := Fm.eq (Tm.numl 0) (Tm.numl 0)
def saneE : Fm := Fm.eq (Tm.numl 1) (Tm.numl 2)
theorem call2 (hR : Has R G c2) : (Lim R G).call 2 [] [] = some (.pl (.bool (true)), []) := by
  have h1 := call12 (hR.sub (by kernel_rfl)) 0 (by omega)
  have h2 := call12 (hR.sub (by kernel_rfl)) 1 (by omega)
  have h3 := call12 (hR.sub (by kernel_rfl)) 2 (by omega)
  have h4 := call13 (hR.sub (by kernel_rfl)) (Tm.numl 0) (Tm.numl 0) (by decide) (by decide)
  have h5 := call13 (hR.sub (by kernel_rfl)) (Tm.numl 1) (Tm.numl 2) (by decide) (by decide)
  rw [show Fm.eq (Tm.numl 0) (Tm.numl 0) = saneA from rfl] at h4
  rw [show Fm.eq (Tm.numl 1) (Tm.numl 2) = saneE from rfl] at h5
  have h6 := call9 (hR.sub (by kernel_rfl)) saneE saneA (by decide) (by decide)
  rw [show saneE.lookE saneA = 0 by decide, if_pos rfl] at h6
  have h7 := call14 (hR.sub (by kernel_rfl)) 3 saneA saneE (by decide) (by decide)
  have h8 := call14 (hR.sub (by kernel_rfl)) 3 (Fm.two 3 saneA saneE) saneE (by decide) (by decide)
  have h9 := call11 (hR.sub (by kernel_rfl)) (saneA.Tr saneE) (Fm.two 3 (Fm.two 3 saneA saneE) saneE) (by decide) (by decide)
  rw [show (saneA.Tr saneE).same (Fm.two 3 (Fm.two 3 saneA saneE) saneE) = true by decide] at h9
  rw [show ((0 : Nat) : Int) = 0 from rfl] at h1
  rw [show ((1 : Nat) : Int) = 1 from rfl] at h2
  rw [show ((2 : Nat) : Int) = 2 from rfl] at h3
  generalize Fm.two 3 (Fm.two 3 saneA saneE) saneE = f1 at *
  generalize Fm.two 3 saneA saneE = f2 at *
  generalize saneA.Tr saneE = f3 at *
  generalize saneA = f4 at *
  generalize saneE = f5 at *
  generalize Tm.numl 0 = t1 at *
  generalize Tm.numl 1 = t2 at *
  generalize Tm.numl 2 = t3 at *
  refine call_of (hR.at 2 (by kernel_rfl) tab2) (by rfl) ?_
  generalize Fm.enc = fe at *
  generalize Tm.enc = te at *
  repeat' (first | refine uU ?_ | refine uV fun z hz => ?_ | refine uW fun zs hzs => ?_ | refine dq (fun hq => ?_) fun hq => ?_)
  (refine fin_ret ?_; cbv)
theorem CtxMade.ok {r : List Ty} (h : CtxMade 3 3 r) : CtxOk 377 r := ⟨by have := h.1; omega, h.2⟩
end
end Eng


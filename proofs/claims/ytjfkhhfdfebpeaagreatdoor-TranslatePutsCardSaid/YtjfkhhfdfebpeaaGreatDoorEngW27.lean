/- Making: formulas. -/
import Derived.Test.YtjfkhhfdfebpeaaGreatDoorEngT
import Derived.Test.YtjfkhhfdfebpeaaGreatDoorEngTab
import Derived.Test.YtjfkhhfdfebpeaaGreatDoorEngW16
import Derived.Test.YtjfkhhfdfebpeaaGreatDoorEngW18
import Derived.Test.YtjfkhhfdfebpeaaGreatDoorEngW19
import Derived.Test.YtjfkhhfdfebpeaaGreatDoorEngW2
import Derived.Test.YtjfkhhfdfebpeaaGreatDoorEngW21
import Derived.Test.YtjfkhhfdfebpeaaGreatDoorEngW22
import Derived.Test.YtjfkhhfdfebpeaaGreatDoorEngW23
import Derived.Test.YtjfkhhfdfebpeaaGreatDoorEngW24
import Derived.Test.YtjfkhhfdfebpeaaGreatDoorEngW25
import Derived.Test.YtjfkhhfdfebpeaaGreatDoorEngW26
import Derived.Test.YtjfkhhfdfebpeaaGreatDoorEngZ
set_option linter.all false
set_option linter.unusedVariables false
set_option linter.unusedSimpArgs false
set_option maxRecDepth 100000
set_option maxHeartbeats 20000000
namespace Eng
open Go
section
variable {R : RProg} {G : Nat → AV}
theorem call21z0 (hR : Has R G c21) (l : List Int) (hl : l.length ≤ 500) : TmSp R G l 0 900 14 := fun t d r a ht hd hr ha => call21z (hR.sub (by kernel_rfl)) l hl t ht d (by omega) r hr a ha
theorem call21S (hR : Has R G c21) (l : List Int) (hl : l.length ≤ 500) (n b m : Nat) (hm : 14 ≤ m ∧ m < 2 ^ 20) (hb : b < 500) (hn : n < 100) (ih : TmSp R G l n (b + 3) m) : TmSp R G l (n + 1) b (3 * m + 150) := by
  intro t d r a ht hd hr ha
  by_cases h0 : d ≤ 0
  · obtain ⟨u, a', h1, h2, h3⟩ := call21z (hR.sub (by kernel_rfl)) l hl t ht d (by omega) r (hr.mono (by omega)) a ha
    exact ⟨u, a', h1, ⟨h2.1, by omega⟩, h3.mono (by omega)⟩
  · rcases Ty.size3 ht with rfl | rfl | rfl | ⟨x, y, hx, hy, rfl⟩ | ⟨x, y, hx, hy, rfl⟩
    · exact call21sN (hR.sub (by kernel_rfl)) l hl n b m hm hb ih d (by omega) hn r hr a ha
    · exact call21sL (hR.sub (by kernel_rfl)) l hl n b m hm hb ih d (by omega) hn r hr a ha
    · exact call21sU (hR.sub (by kernel_rfl)) l hl n b m hm hb ih d (by omega) hn r hr a ha
    · exact call21sP (hR.sub (by kernel_rfl)) l hl n b m hm hb ih x y hx hy d (by omega) hn r hr a ha
    · exact call21sF (hR.sub (by kernel_rfl)) l hl n b m hm hb ih x y hx hy d (by omega) hn r hr a ha
theorem TmSp.mono {l : List Int} {n b b' m : Nat} (h : TmSp R G l n b m) (hb : b' ≤ b) : TmSp R G l n b' m := fun t d r a ht hd hr ha => h t d r a ht hd (hr.mono hb) ha
theorem call21t1 (hR : Has R G c21) (l : List Int) (hl : l.length ≤ 500) : TmSp R G l 1 400 192 := call21S (hR.sub (by kernel_rfl)) l hl 0 400 14 (by omega) (by omega) (by omega) (TmSp.mono (call21z0 (hR.sub (by kernel_rfl)) l hl) (by omega))
theorem call21t2 (hR : Has R G c21) (l : List Int) (hl : l.length ≤ 500) : TmSp R G l 2 300 726 := call21S (hR.sub (by kernel_rfl)) l hl 1 300 192 (by omega) (by omega) (by omega) (TmSp.mono (call21t1 (hR.sub (by kernel_rfl)) l hl) (by omega))
def FmSp7 (R : RProg) (G : Nat → AV) (l : List Int) (n b m : Nat) : Prop := ∀ (d : Int) (r : List Ty) (a : Int), 0 ≤ d ∧ d ≤ n → CtxOk b r → 0 ≤ a ∧ a ≤ 500 →
  ∃ (f : Fm) (a' : Int), (Lim R G).call 7 [.ptr 0 0, .pl (.sl 2 (ctxR r)), .pl (.int .i64 (d))] [dk l a] = some (.st 5 f.enc, [dk l a']) ∧ ((0 ≤ a' ∧ a' ≤ 500) ∧ f.size ≤ m) ∧ Fm.Gd r m f ∧ f.nu = true
theorem call7g (hR : Has R G c7) (l : List Int) (hl : l.length ≤ 500) (n b m : Nat) (hm : 386 ≤ m ∧ m < 2 ^ 20) (hb : b < 390) (ih : n = 0 ∨ FmSp7 R G l (n - 1) (b + 1) m) (hn : n < 100) : FmSp7 R G l n b (2 * m + 10) := by
  intro d r a hd hr ha
  have hr1 := hr.1
  have s16 := call16 (hR.sub (by kernel_rfl)) l hl
  have s17 : ∀ a : Int, 0 ≤ a ∧ a ≤ 500 → ∃ (t : Ty) (a' : Int), (Lim R G).call 17 [.ptr 0 0, .pl (.int .i64 (0))] [dk l a] = some (.st 2 t.enc, [dk l a']) ∧ ((0 ≤ a' ∧ a' ≤ 500) ∧ t.size ≤ 1) ∧ t.Sm 3 := fun a h => by
    obtain ⟨t, a', h1, h2, h3⟩ := call17 (hR.sub (by kernel_rfl)) l hl 0 0 a rfl (by omega) h
    exact ⟨t, a', h1, ⟨h2, h3.sz⟩, h3.mono (by decide)⟩
  have s17b : ∀ a : Int, 0 ≤ a ∧ a ≤ 500 → ∃ (t : Ty) (a' : Int), (Lim R G).call 17 [.ptr 0 0, .pl (.int .i64 (1))] [dk l a] = some (.st 2 t.enc, [dk l a']) ∧ ((0 ≤ a' ∧ a' ≤ 500) ∧ t.size ≤ 3) ∧ t.Sm 3 := fun a h => by
    obtain ⟨t, a', h1, h2, h3⟩ := call17 (hR.sub (by kernel_rfl)) l hl 1 1 a rfl (by omega) h
    exact ⟨t, a', h1, ⟨h2, h3.sz⟩, h3⟩
  have iT : ∀ a : Int, 0 ≤ a ∧ a ≤ 500 → _ := fun a h => call21t1 (hR.sub (by kernel_rfl)) l hl .nat 1 r a (.nat (by decide)) (by omega) (hr.mono (by omega)) h
  have iF : ∀ (z a : Int), (0 ≤ z ∧ z = d - 1) → 0 ≤ a ∧ a ≤ 500 → _ := fun z a h1 h2 => (ih.resolve_left (by omega)) z r a (by omega) (hr.mono (by omega)) h2
  have iQ : ∀ (s : Ty) (z a : Int), s.Sm 3 → (0 ≤ z ∧ z = d - 1) → 0 ≤ a ∧ a ≤ 500 → _ := fun s z a hs h1 h2 => (ih.resolve_left (by omega)) z (s :: r) a (by omega) (hr.cons hs) h2
  have e20 := call20 (hR.sub (by kernel_rfl))
  rw [show Ty.mk 1 [] = Ty.nat from rfl] at e20
  have e18 : ∀ s : Ty, (Lim R G).call 18 [.pl (.sl 2 (ctxR r)), .pl (.sl 2 ([s.enc]))] [] = some (.pl (.sl 2 (ctxR (s :: r))), []) := fun s => by
    have := call18 (hR.sub (by kernel_rfl)) (ctxR r) [s.enc] (by rw [ctxR_len]; simp only [List.length_cons, List.length_nil]; omega)
    rwa [← ctxR_cons] at this
  have e13 : ∀ x y : Tm, x.size < 2 ^ 28 → y.size < 2 ^ 28 → (Lim R G).call 13 [.st 5 x.enc, .st 5 y.enc] [] = some (.st 5 (Fm.eq x y).enc, []) := fun x y h1 h2 => call13 (hR.sub (by kernel_rfl)) x y (by omega) (by omega)
  have e14 : ∀ (k : Int) (x y : Fm), x.size < 2 ^ 28 → y.size < 2 ^ 28 → (Lim R G).call 14 [.pl (.int .i64 (k)), .st 5 x.enc, .st 5 y.enc] [] = some (.st 5 (Fm.two k x y).enc, []) := fun k x y h1 h2 => call14 (hR.sub (by kernel_rfl)) k x y (by omega) (by omega)
  have e19 : ∀ (k : Int) (t : Ty) (x : Fm), t.size < 2 ^ 28 → x.size < 2 ^ 28 → (Lim R G).call 19 [.pl (.int .i64 (k)), .st 2 t.enc, .st 5 x.enc] [] = some (.st 5 (Fm.q k t x).enc, []) := fun k t x h1 h2 => call19 (hR.sub (by kernel_rfl)) k t x (by omega) (by omega)
  clear ih
  refine ex2 (call_ofE (hR.at 7 (by kernel_rfl) tab7) (by rfl) ?_)
  unfold dk at *
  generalize (l.map fun n => [PV.int .i64 n]) = rs at *
  generalize ctxR = cx at *
  generalize Tm.enc = te at *
  generalize Fm.enc = fe at *
  generalize Ty.enc = ye at *
  repeat' (first | refine uU ?_ | refine uV fun z hz => ?_ | refine uW fun zs hzs => ?_ | refine dq (fun hq => ?_) fun hq => ?_ | refine dc ?_ (h2 := by first | exact e18 _ | exact e13 _ _ (by omega) (by omega) | exact e14 _ _ _ (by omega) (by omega) | exact e19 _ _ _ (by omega) (by omega)) | (refine dE (by cbv; fail_if_success intros) (by first | exact s16 _ _ (by omega) (by omega) | exact s17 _ (by omega) | exact s17b _ (by omega) | exact iT _ (by omega) | exact iF _ _ (by omega) (by omega) | exact iQ _ _ _ (by first | exact And.right (by assumption) | exact Ty.Sm.nat (by decide) | assumption) (by omega) (by omega)) ?_; intro x a1 hx; refine ⟨_, _, _, by cbv, ?_⟩))
  all_goals (
    refine finP_ret (by cbv) ?_
    refine ⟨_, _, rfl, Fm.Gd.pk (by omega) ?_ ?_⟩
    · apply Fm.Gd.mono
      · first
          | exact Fm.Gd.two (.inl rfl) (And.left (And.right (by assumption))) (And.left (And.right (by assumption)))
          | exact Fm.Gd.two (.inr rfl) (And.left (And.right (by assumption))) (And.left (And.right (by assumption)))
          | exact Fm.Gd.q (by unfold Fm.quant; omega) (Ty.Sm.err (n := 3) (And.right (by assumption)) (by decide)) (And.left (And.right (by assumption)))
          | exact Fm.Gd.eq (And.right (by assumption)) (And.right (by assumption))
      · omega
    · first
        | trivial
        | exact Fm.nu_eq
        | exact Fm.nu_two (.inl rfl) (And.right (And.right (by assumption))) (And.right (And.right (by assumption)))
        | exact Fm.nu_two (.inr rfl) (And.right (And.right (by assumption))) (And.right (And.right (by assumption)))
        | exact Fm.nu_q (.inl rfl) (And.right (And.right (by assumption)))
        | exact Fm.nu_q (.inr rfl) (And.right (And.right (by assumption))))
def FmSp8 (R : RProg) (G : Nat → AV) (l : List Int) (n b m : Nat) : Prop := ∀ (d : Int) (r : List Ty) (a : Int), 0 ≤ d ∧ d ≤ n → CtxOk b r → 0 ≤ a ∧ a ≤ 500 →
  ∃ (f : Fm) (a' : Int), (Lim R G).call 8 [.ptr 0 0, .pl (.sl 2 (ctxR r)), .pl (.int .i64 (d))] [dk l a] = some (.st 5 f.enc, [dk l a']) ∧ ((0 ≤ a' ∧ a' ≤ 500) ∧ f.size ≤ m) ∧ Fm.Gd r m f ∧ True
end
end Eng


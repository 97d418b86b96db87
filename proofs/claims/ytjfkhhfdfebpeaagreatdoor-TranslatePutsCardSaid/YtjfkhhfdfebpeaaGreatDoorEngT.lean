/- Types, terms, formulas as data; how they lie in cells. -/
import Derived.Test.YtjfkhhfdfebpeaaGreatDoorEngZ
import Derived.Test.YtjfkhhfdfebpeaaGreatDoorEngB
set_option linter.all false
set_option linter.unusedVariables false
set_option linter.unusedSimpArgs false
namespace Eng
open Go
inductive Ty where
  | mk (k : Int) (as : List Ty)
inductive Tm where
  | mk (k i : Int) (t : Ty) (as : List Tm)
inductive Fm where
  | mk (k : Int) (t : Ty) (ts : List Tm) (as : List Fm)
namespace Ty
def kind : Ty → Int | .mk k _ => k
def args : Ty → List Ty | .mk _ as => as
theorem ind {P : Ty → Prop} (h : ∀ k as, (∀ a ∈ as, P a) → P (.mk k as)) : ∀ t, P t
  | .mk k as => h k as (fun a ha => ind h a)
termination_by t => sizeOf t
decreasing_by have := List.sizeOf_lt_of_mem ha; simp; omega
mutual
def enc : Ty → List PV
  | .mk k as => [.int .i64 k, .sl 2 (encs as)]
def encs : List Ty → List (List PV)
  | [] => []
  | t :: ts => enc t :: encs ts
end
mutual
def size : Ty → Nat
  | .mk _ as => sizes as + 1
def sizes : List Ty → Nat
  | [] => 0
  | t :: ts => size t + sizes ts
end
end Ty
namespace Tm
def kind : Tm → Int | .mk k _ _ _ => k
def ty : Tm → Ty | .mk _ _ t _ => t
def args : Tm → List Tm | .mk _ _ _ as => as
theorem ind {P : Tm → Prop} (h : ∀ k i t as, (∀ a ∈ as, P a) → P (.mk k i t as)) : ∀ t, P t
  | .mk k i t as => h k i t as (fun a ha => ind h a)
termination_by t => sizeOf t
decreasing_by have := List.sizeOf_lt_of_mem ha; simp; omega
mutual
def enc : Tm → List PV
  | .mk k i t as => [.int .i64 k, .int .i64 i, .int .i64 t.kind, .sl 2 (Ty.encs t.args), .sl 5 (encs as)]
def encs : List Tm → List (List PV)
  | [] => []
  | t :: ts => enc t :: encs ts
end
mutual
def size : Tm → Nat
  | .mk _ _ t as => t.size + sizes as + 1
def sizes : List Tm → Nat
  | [] => 0
  | t :: ts => size t + sizes ts
end
end Tm
namespace Fm
def kind : Fm → Int | .mk k _ _ _ => k
def ty : Fm → Ty | .mk _ t _ _ => t
def args : Fm → List Fm | .mk _ _ _ as => as
theorem ind {P : Fm → Prop} (h : ∀ k t ts as, (∀ a ∈ as, P a) → P (.mk k t ts as)) : ∀ t, P t
  | .mk k t ts as => h k t ts as (fun a ha => ind h a)
termination_by t => sizeOf t
decreasing_by have := List.sizeOf_lt_of_mem ha; simp; omega
mutual
def enc : Fm → List PV
  | .mk k t ts as => [.int .i64 k, .int .i64 t.kind, .sl 2 (Ty.encs t.args), .sl 5 (Tm.encs ts), .sl 5 (encs as)]
def encs : List Fm → List (List PV)
  | [] => []
  | t :: ts => enc t :: encs ts
end
mutual
def size : Fm → Nat
  | .mk _ t ts as => t.size + Tm.sizes ts + sizes as + 1
def sizes : List Fm → Nat
  | [] => 0
  | t :: ts => size t + sizes ts
end
end Fm
theorem Ty.kind_mk (k : Int) (as : List Ty) : (Ty.mk k as).kind = k := rfl
theorem Ty.args_mk (k : Int) (as : List Ty) : (Ty.mk k as).args = as := rfl
theorem Ty.encs_nil : Ty.encs [] = [] := rfl
theorem Ty.enc_eq (t : Ty) : t.enc = [.int .i64 t.kind, .sl 2 (Ty.encs t.args)] := by cases t; rfl
theorem Ty.encs_eq : ∀ as, Ty.encs as = as.map Ty.enc
  | [] => rfl
  | t :: ts => by simp [Ty.encs, Ty.encs_eq ts]
theorem Tm.encs_eq : ∀ as, Tm.encs as = as.map Tm.enc
  | [] => rfl
  | t :: ts => by simp [Tm.encs, Tm.encs_eq ts]
theorem Fm.encs_eq : ∀ as, Fm.encs as = as.map Fm.enc
  | [] => rfl
  | t :: ts => by simp [Fm.encs, Fm.encs_eq ts]
theorem Ty.encs_len (as) : (Ty.encs as).length = as.length := by simp [Ty.encs_eq]
theorem Tm.encs_len (as) : (Tm.encs as).length = as.length := by simp [Tm.encs_eq]
theorem Fm.encs_len (as) : (Fm.encs as).length = as.length := by simp [Fm.encs_eq]
theorem Ty.sizes_len : ∀ as, as.length ≤ Ty.sizes as
  | [] => by simp
  | .mk k bs :: as => by have := Ty.sizes_len as; simp only [Ty.sizes, Ty.size, List.length_cons]; omega
theorem Tm.sizes_len : ∀ as, as.length ≤ Tm.sizes as
  | [] => by simp
  | .mk k i t bs :: as => by have := Tm.sizes_len as; simp only [Tm.sizes, Tm.size, List.length_cons]; omega
theorem Fm.sizes_len : ∀ as, as.length ≤ Fm.sizes as
  | [] => by simp
  | .mk k t ts bs :: as => by have := Fm.sizes_len as; simp only [Fm.sizes, Fm.size, List.length_cons]; omega
theorem Ty.size_mem : ∀ {as : List Ty} {a}, a ∈ as → a.size ≤ Ty.sizes as
  | b :: as, a, h => by
    rcases List.mem_cons.1 h with rfl | h
    · simp only [Ty.sizes]; omega
    · have := Ty.size_mem h; simp only [Ty.sizes]; omega
theorem Tm.size_mem : ∀ {as : List Tm} {a}, a ∈ as → a.size ≤ Tm.sizes as
  | b :: as, a, h => by
    rcases List.mem_cons.1 h with rfl | h
    · simp only [Tm.sizes]; omega
    · have := Tm.size_mem h; simp only [Tm.sizes]; omega
theorem Fm.size_mem : ∀ {as : List Fm} {a}, a ∈ as → a.size ≤ Fm.sizes as
  | b :: as, a, h => by
    rcases List.mem_cons.1 h with rfl | h
    · simp only [Fm.sizes]; omega
    · have := Fm.size_mem h; simp only [Fm.sizes]; omega
theorem Ty.size_pos (t : Ty) : 1 ≤ t.size := by cases t; simp only [Ty.size]; omega
theorem Tm.size_pos (t : Tm) : 1 ≤ t.size := by cases t; simp only [Tm.size]; omega
theorem Fm.size_pos (t : Fm) : 1 ≤ t.size := by cases t; simp only [Fm.size]; omega
theorem Ty.at_ {as : List Ty} {n : Int} (h : 0 ≤ n ∧ n < as.length) : ∃ a, a ∈ as ∧ as.drop n.toNat = a :: as.drop (n + 1).toNat ∧ (Ty.encs as).getD n.toNat [] = a.enc := by
  have h1 : n.toNat < as.length := by omega
  refine ⟨as[n.toNat], List.getElem_mem h1, ?_, by simp [Ty.encs_eq, h1]⟩
  rw [show (n + 1).toNat = n.toNat + 1 by omega]; exact List.drop_eq_getElem_cons h1
theorem Tm.at_ {as : List Tm} {n : Int} (h : 0 ≤ n ∧ n < as.length) : ∃ a, a ∈ as ∧ as.drop n.toNat = a :: as.drop (n + 1).toNat ∧ (Tm.encs as).getD n.toNat [] = a.enc := by
  have h1 : n.toNat < as.length := by omega
  refine ⟨as[n.toNat], List.getElem_mem h1, ?_, by simp [Tm.encs_eq, h1]⟩
  rw [show (n + 1).toNat = n.toNat + 1 by omega]; exact List.drop_eq_getElem_cons h1
theorem Fm.at_ {as : List Fm} {n : Int} (h : 0 ≤ n ∧ n < as.length) : ∃ a, a ∈ as ∧ as.drop n.toNat = a :: as.drop (n + 1).toNat ∧ (Fm.encs as).getD n.toNat [] = a.enc := by
  have h1 : n.toNat < as.length := by omega
  refine ⟨as[n.toNat], List.getElem_mem h1, ?_, by simp [Fm.encs_eq, h1]⟩
  rw [show (n + 1).toNat = n.toNat + 1 by omega]; exact List.drop_eq_getElem_cons h1
mutual
def Ty.same : Ty → Ty → Bool
  | .mk k as, .mk k' bs => decide (k = k') && Ty.sames as bs
def Ty.sames : List Ty → List Ty → Bool
  | [], [] => true
  | a :: as, b :: bs => a.same b && Ty.sames as bs
  | _, _ => false
end
theorem Ty.sames_len : ∀ {as bs : List Ty}, as.length ≠ bs.length → Ty.sames as bs = false
  | [], [], h => absurd rfl h
  | a :: as, b :: bs, h => by simp only [Ty.sames, Ty.sames_len (as := as) (bs := bs) (by simpa using h), Bool.and_false]
  | [], _ :: _, _ => rfl
  | _ :: _, [], _ => rfl
def Ty.kindOk (k : Int) (n : Nat) : Prop := (k = 1 ∨ k = 2 ∨ k = 5) ∧ n = 0 ∨ (k = 3 ∨ k = 4) ∧ n = 2
instance (k : Int) (n : Nat) : Decidable (Ty.kindOk k n) := by unfold Ty.kindOk; infer_instance
mutual
def Ty.ok : Ty → Bool
  | .mk k as => decide (Ty.kindOk k as.length) && Ty.oks as
def Ty.oks : List Ty → Bool
  | [] => true
  | t :: ts => t.ok && Ty.oks ts
end
def Ty.err (t : Ty) : Int := if t.ok then if t.size > 64 then 4 else 0 else 2
def Ty.zero : Ty → Bool | .mk k as => decide (k = 0 ∧ as.length = 0)
theorem drop_all {α : Type} {as : List α} {n : Int} (h0 : 0 ≤ n) (h : ¬ n < as.length) : as.drop n.toNat = [] := List.drop_eq_nil_of_le (by omega)
end Eng

namespace Eng
open Go
mutual
def Tm.same : Tm → Tm → Bool
  | .mk k i t as, .mk k' i' t' bs => decide (k = k' ∧ i = i') && t.same t' && Tm.sames as bs
def Tm.sames : List Tm → List Tm → Bool
  | [], [] => true
  | a :: as, b :: bs => a.same b && Tm.sames as bs
  | _, _ => false
end
mutual
def Fm.same : Fm → Fm → Bool
  | .mk k t ts as, .mk k' t' ts' bs => decide (k = k') && t.same t' && Tm.sames ts ts' && Fm.sames as bs
def Fm.sames : List Fm → List Fm → Bool
  | [], [] => true
  | a :: as, b :: bs => a.same b && Fm.sames as bs
  | _, _ => false
end
theorem Tm.sames_len : ∀ {as bs : List Tm}, as.length ≠ bs.length → Tm.sames as bs = false
  | [], [], h => absurd rfl h
  | a :: as, b :: bs, h => by simp only [Tm.sames, Tm.sames_len (as := as) (bs := bs) (by simpa using h), Bool.and_false]
  | [], _ :: _, _ => rfl
  | _ :: _, [], _ => rfl
theorem Fm.sames_len : ∀ {as bs : List Fm}, as.length ≠ bs.length → Fm.sames as bs = false
  | [], [], h => absurd rfl h
  | a :: as, b :: bs, h => by simp only [Fm.sames, Fm.sames_len (as := as) (bs := bs) (by simpa using h), Bool.and_false]
  | [], _ :: _, _ => rfl
  | _ :: _, [], _ => rfl
def Tm.want (k : Int) : Int :=
  if k = 1 ∨ k = 4 ∨ k = 7 ∨ k = 13 then 0 else if k = 2 ∨ k = 5 ∨ k = 11 ∨ k = 12 then 1 else if k = 3 ∨ k = 8 ∨ k = 10 then 2 else if k = 6 ∨ k = 9 then 3 else -1
def Tm.tyOk (k : Int) (t : Ty) : Bool := bif decide (k = 2 ∨ k = 6 ∨ k = 9) then decide (t.err = 0) else t.zero
mutual
def Tm.ok : Tm → Bool
  | .mk k i t as => decide ((as.length : Int) = Tm.want k ∧ 0 ≤ i ∧ (k = 1 ∨ i = 0)) && (Tm.tyOk k t && Tm.oks as)
def Tm.oks : List Tm → Bool
  | [] => true
  | t :: ts => t.ok && Tm.oks ts
end
mutual
def Tm.num : Tm → Nat
  | .mk _ _ _ as => Tm.nums as + 1
def Tm.nums : List Tm → Nat
  | [] => 0
  | t :: ts => t.num + Tm.nums ts
end
def Fm.quant (k : Int) : Prop := k = 4 ∨ k = 5 ∨ k = 6 ∨ k = 7
instance (k : Int) : Decidable (Fm.quant k) := by unfold Fm.quant; infer_instance
def Fm.kindOk (k : Int) (n m : Nat) : Prop := k = 1 ∧ n = 2 ∧ m = 0 ∨ (k = 2 ∨ k = 3) ∧ n = 0 ∧ m = 2 ∨ Fm.quant k ∧ n = 0 ∧ m = 1
instance (k : Int) (n m : Nat) : Decidable (Fm.kindOk k n m) := by unfold Fm.kindOk; infer_instance
def Fm.tyOk (k : Int) (t : Ty) : Bool := bif decide (Fm.quant k) then decide (t.err = 0) else t.zero
mutual
def Fm.ok : Fm → Bool
  | .mk k t ts as => decide (Fm.kindOk k ts.length as.length) && (Fm.tyOk k t && (Tm.oks ts && Fm.oks as))
def Fm.oks : List Fm → Bool
  | [] => true
  | t :: ts => t.ok && Fm.oks ts
end
mutual
def Fm.num : Fm → Nat
  | .mk _ _ ts as => Tm.nums ts + Fm.nums as + 1
def Fm.nums : List Fm → Nat
  | [] => 0
  | t :: ts => t.num + Fm.nums ts
end
def Fm.err (f : Fm) : Int := if f.ok then if f.num > 4096 then 4 else 0 else 2
def Tm.err (f : Tm) : Int := if f.ok then if f.num > 4096 then 4 else 0 else 2
mutual
theorem Tm.num_le : ∀ t : Tm, t.num ≤ t.size
  | .mk k i t as => by have := Tm.nums_le as; simp only [Tm.num, Tm.size]; omega
theorem Tm.nums_le : ∀ ts : List Tm, Tm.nums ts ≤ Tm.sizes ts
  | [] => by simp [Tm.nums, Tm.sizes]
  | t :: ts => by have := Tm.num_le t; have := Tm.nums_le ts; simp only [Tm.nums, Tm.sizes]; omega
end
mutual
theorem Fm.num_le : ∀ t : Fm, t.num ≤ t.size
  | .mk k t ts as => by have := Tm.nums_le ts; have := Fm.nums_le as; simp only [Fm.num, Fm.size]; omega
theorem Fm.nums_le : ∀ ts : List Fm, Fm.nums ts ≤ Fm.sizes ts
  | [] => by simp [Fm.nums, Fm.sizes]
  | t :: ts => by have := Fm.num_le t; have := Fm.nums_le ts; simp only [Fm.nums, Fm.sizes]; omega
end
end Eng

namespace Eng
open Go
def Tm.bnd (k : Int) : Int := if k = 2 then 1 else 0
def Fm.bnd (k : Int) : Int := if Fm.quant k then 1 else 0
mutual
def Tm.least : Tm → Int → Bool
  | .mk _ i _ as, m => decide (i ≤ m) && Tm.leasts as m
def Tm.leasts : List Tm → Int → Bool
  | [], _ => true
  | t :: ts, m => t.least m && Tm.leasts ts m
end
mutual
def Fm.least : Fm → Int → Bool
  | .mk _ _ ts as, m => Tm.leasts ts m && Fm.leasts as m
def Fm.leasts : List Fm → Int → Bool
  | [], _ => true
  | t :: ts, m => t.least m && Fm.leasts ts m
end
mutual
def Tm.up : Tm → Int → Int → Tm
  | .mk k i t as, fr, d => .mk k (if k = 1 ∧ fr ≤ i then i + d else i) t (Tm.ups as (fr + Tm.bnd k) d)
def Tm.ups : List Tm → Int → Int → List Tm
  | [], _, _ => []
  | t :: ts, fr, d => t.up fr d :: Tm.ups ts fr d
end
mutual
def Fm.up : Fm → Int → Int → Fm
  | .mk k t ts as, fr, d => .mk k t (Tm.ups ts fr d) (Fm.ups as (fr + Fm.bnd k) d)
def Fm.ups : List Fm → Int → Int → List Fm
  | [], _, _ => []
  | t :: ts, fr, d => t.up fr d :: Fm.ups ts fr d
end
section
variable (F : Int → Int → Tm)
mutual
def Tm.reb : Tm → Int → Tm
  | .mk k i t as, b => if k = 1 then F i b else .mk k i t (Tm.rebs as (b + Tm.bnd k))
def Tm.rebs : List Tm → Int → List Tm
  | [], _ => []
  | t :: ts, b => t.reb b :: Tm.rebs ts b
end
end
def Tm.var (i : Int) : Tm := .mk 1 i (.mk 0 []) []
def Tm.lift (t : Tm) (fr d : Int) : Tm := Tm.reb (fun i b => Tm.var (if fr ≤ i - b then i + d else i)) t 0
section
variable {σ : Type} (g : σ → Int → Int → σ)
mutual
def Tm.vf : Tm → Int → σ → σ
  | .mk k i _ as, b, s => Tm.vfs as (b + Tm.bnd k) (if k = 1 then g s i b else s)
def Tm.vfs : List Tm → Int → σ → σ
  | [], _, s => s
  | t :: ts, b, s => Tm.vfs ts b (t.vf b s)
end
end
section
variable (F : Tm → Int → Tm)
mutual
def Fm.reb : Fm → Int → Fm
  | .mk k t ts as, b => .mk k t (ts.map (F · b)) (Fm.rebs as (b + Fm.bnd k))
def Fm.rebs : List Fm → Int → List Fm
  | [], _ => []
  | t :: ts, b => t.reb b :: Fm.rebs ts b
end
end
section
variable {σ : Type} (g : σ → Tm → Int → σ)
def Tm.tfs : List Tm → Int → σ → σ
  | [], _, s => s
  | t :: ts, b, s => Tm.tfs ts b (g s t b)
mutual
def Fm.tf : Fm → Int → σ → σ
  | .mk k _ ts as, b, s => Fm.tfs as (b + Fm.bnd k) (Tm.tfs g ts b s)
def Fm.tfs : List Fm → Int → σ → σ
  | [], _, s => s
  | t :: ts, b, s => Fm.tfs ts b (t.tf b s)
end
end
def Fm.lift (f : Fm) (fr d : Int) : Fm := Fm.reb (fun t b => t.lift (fr + b) d) f 0
mutual
def Tm.low : Tm → Int → Prop
  | .mk _ i _ as, m => 0 ≤ i ∧ i ≤ m ∧ Tm.lows as m
def Tm.lows : List Tm → Int → Prop
  | [], _ => True
  | t :: ts, m => t.low m ∧ Tm.lows ts m
end
mutual
def Fm.low : Fm → Int → Prop
  | .mk _ _ ts as, m => Tm.lows ts m ∧ Fm.lows as m
def Fm.lows : List Fm → Int → Prop
  | [], _ => True
  | t :: ts, m => t.low m ∧ Fm.lows ts m
end
theorem Tm.lows_mem : ∀ {as : List Tm} {a m}, Tm.lows as m → a ∈ as → a.low m
  | b :: as, a, m, h, hm => by
    simp only [Tm.lows] at h
    rcases List.mem_cons.1 hm with rfl | hm
    · exact h.1
    · exact Tm.lows_mem h.2 hm
theorem Fm.lows_mem : ∀ {as : List Fm} {a m}, Fm.lows as m → a ∈ as → a.low m
  | b :: as, a, m, h, hm => by
    simp only [Fm.lows] at h
    rcases List.mem_cons.1 hm with rfl | hm
    · exact h.1
    · exact Fm.lows_mem h.2 hm
theorem Tm.ups_len : ∀ as fr d, (Tm.ups as fr d).length = as.length
  | [], _, _ => rfl
  | _ :: as, fr, d => by simp [Tm.ups, Tm.ups_len as fr d]
theorem Fm.ups_len : ∀ as fr d, (Fm.ups as fr d).length = as.length
  | [], _, _ => rfl
  | _ :: as, fr, d => by simp [Fm.ups, Fm.ups_len as fr d]
end Eng

namespace Eng
open Go
def Fm.eq (a b : Tm) : Fm := .mk 1 (.mk 0 []) [a, b] []
def Fm.two (k : Int) (a b : Fm) : Fm := .mk k (.mk 0 []) [] [a, b]
def Fm.q (k : Int) (t : Ty) (a : Fm) : Fm := .mk k t [] [a]
def Fm.imp (a b : Fm) : Fm := Fm.two 3 a b
mutual
def Fm.nu : Fm → Bool
  | .mk k _ _ as => decide (k ≠ 6 ∧ k ≠ 7) && Fm.nus as
def Fm.nus : List Fm → Bool
  | [] => true
  | t :: ts => t.nu && Fm.nus ts
end
mutual
def Fm.tsz : Fm → Int → Int
  | .mk k t ts as, a => if k = 1 then (Fm.mk k t ts as).num + 2 + 2 * a else if k = 5 then Fm.tszs as a + 3 + 2 * a else Fm.tszs as a + 1
def Fm.tszs : List Fm → Int → Int
  | [], _ => 0
  | t :: ts, a => t.tsz a + Fm.tszs ts a
end
def Fm.up1 (a : Fm) : Fm := Fm.up a 0 1
def Fm.ups1 (a : Fm) : Nat → Fm
  | 0 => a
  | n + 1 => (Fm.ups1 a n).up1
def Fm.Tr : Fm → Fm → Fm
  | .mk k t ts as, a =>
    match as with
    | [b] => if k = 4 then Fm.q 4 t (b.Tr a.up1) else Fm.imp (Fm.q 4 t (Fm.imp (b.Tr a.up1) a.up1)) a
    | [b, c] => Fm.two k (b.Tr a) (c.Tr a)
    | _ => Fm.imp (Fm.imp (.mk k t ts as) a) a
def Fm.nd : Fm → Nat
  | .mk k _ _ as =>
    match as with
    | [b] => if k = 4 then b.nd + 1 else max (b.nd + 1) 2
    | [b, c] => max b.nd c.nd
    | _ => 1
end Eng

namespace Eng
open Go
theorem Tm.ok_mk {k i : Int} {t : Ty} {as : List Tm} (h : (Tm.mk k i t as).ok = true) : (as.length : Int) = Tm.want k ∧ 0 ≤ i ∧ (k = 1 ∨ i = 0) ∧ Tm.tyOk k t = true ∧ Tm.oks as = true := by
  simp only [Tm.ok, Bool.and_eq_true, decide_eq_true_eq] at h
  exact ⟨h.1.1, h.1.2.1, h.1.2.2, h.2.1, h.2.2⟩
theorem Fm.ok_mk {k : Int} {t : Ty} {ts : List Tm} {as : List Fm} (h : (Fm.mk k t ts as).ok = true) : Fm.kindOk k ts.length as.length ∧ Fm.tyOk k t = true ∧ Tm.oks ts = true ∧ Fm.oks as = true := by
  simp only [Fm.ok, Bool.and_eq_true, decide_eq_true_eq] at h
  exact ⟨h.1, h.2.1, h.2.2.1, h.2.2.2⟩
theorem Tm.oks_cons {t : Tm} {ts : List Tm} (h : Tm.oks (t :: ts) = true) : t.ok = true ∧ Tm.oks ts = true := by
  simpa only [Tm.oks, Bool.and_eq_true] using h
theorem Fm.oks_cons {t : Fm} {ts : List Fm} (h : Fm.oks (t :: ts) = true) : t.ok = true ∧ Fm.oks ts = true := by
  simpa only [Fm.oks, Bool.and_eq_true] using h
theorem Fm.err_ok {f : Fm} (h : f.err = 0) : f.ok = true ∧ f.num ≤ 4096 := by
  unfold Fm.err at h
  split at h
  · split at h
    · omega
    · exact ⟨by assumption, by omega⟩
  · omega
mutual
theorem Tm.vf_least {m : Int} (hm : 0 ≤ m) : ∀ (t : Tm) (b : Int) (s : Bool), t.ok = true → Tm.vf (fun s i _ => s && decide (i ≤ m)) t b s = (s && t.least m)
  | .mk k i t as, b, s, h => by
    obtain ⟨_, h1, h2, _, h3⟩ := Tm.ok_mk h
    simp only [Tm.vf, Tm.least]
    rw [Tm.vfs_least hm as _ _ h3]
    by_cases hk : k = 1
    · rw [if_pos hk, Bool.and_assoc]
    · rw [if_neg hk, decide_eq_true (show i ≤ m by omega), Bool.true_and]
theorem Tm.vfs_least {m : Int} (hm : 0 ≤ m) : ∀ (ts : List Tm) (b : Int) (s : Bool), Tm.oks ts = true → Tm.vfs (fun s i _ => s && decide (i ≤ m)) ts b s = (s && Tm.leasts ts m)
  | [], b, s, _ => by simp [Tm.vfs, Tm.leasts]
  | t :: ts, b, s, h => by
    obtain ⟨h1, h2⟩ := Tm.oks_cons h
    simp only [Tm.vfs, Tm.leasts]
    rw [Tm.vf_least hm t _ _ h1, Tm.vfs_least hm ts _ _ h2, Bool.and_assoc]
end
theorem Tm.tfs_least {m : Int} (hm : 0 ≤ m) : ∀ (ts : List Tm) (b : Int) (s : Bool), Tm.oks ts = true → Tm.tfs (fun s t _ => s && Tm.vf (fun s i _ => s && decide (i ≤ m)) t 0 true) ts b s = (s && Tm.leasts ts m)
  | [], b, s, _ => by simp [Tm.tfs, Tm.leasts]
  | t :: ts, b, s, h => by
    obtain ⟨h1, h2⟩ := Tm.oks_cons h
    simp only [Tm.tfs, Tm.leasts]
    rw [Tm.vf_least hm t _ _ h1, Tm.tfs_least hm ts _ _ h2, Bool.true_and, Bool.and_assoc]
mutual
theorem Fm.tf_least {m : Int} (hm : 0 ≤ m) : ∀ (f : Fm) (b : Int) (s : Bool), f.ok = true → Fm.tf (fun s t _ => s && Tm.vf (fun s i _ => s && decide (i ≤ m)) t 0 true) f b s = (s && f.least m)
  | .mk k t ts as, b, s, h => by
    obtain ⟨_, _, h1, h2⟩ := Fm.ok_mk h
    simp only [Fm.tf, Fm.least]
    rw [Tm.tfs_least hm ts _ _ h1, Fm.tfs_least hm as _ _ h2, Bool.and_assoc]
theorem Fm.tfs_least {m : Int} (hm : 0 ≤ m) : ∀ (fs : List Fm) (b : Int) (s : Bool), Fm.oks fs = true → Fm.tfs (fun s t _ => s && Tm.vf (fun s i _ => s && decide (i ≤ m)) t 0 true) fs b s = (s && Fm.leasts fs m)
  | [], b, s, _ => by simp [Fm.tfs, Fm.leasts]
  | f :: fs, b, s, h => by
    obtain ⟨h1, h2⟩ := Fm.oks_cons h
    simp only [Fm.tfs, Fm.leasts]
    rw [Fm.tf_least hm f _ _ h1, Fm.tfs_least hm fs _ _ h2, Bool.and_assoc]
end
mutual
theorem Tm.low_of {m : Int} : ∀ (t : Tm), t.ok = true → t.least m = true → t.low m
  | .mk k i t as, h, hl => by
    obtain ⟨_, h1, h2, _, h3⟩ := Tm.ok_mk h
    simp only [Tm.least, Bool.and_eq_true, decide_eq_true_eq] at hl
    exact ⟨h1, hl.1, Tm.lows_of as h3 hl.2⟩
theorem Tm.lows_of {m : Int} : ∀ (ts : List Tm), Tm.oks ts = true → Tm.leasts ts m = true → Tm.lows ts m
  | [], _, _ => trivial
  | t :: ts, h, hl => by
    obtain ⟨h1, h2⟩ := Tm.oks_cons h
    simp only [Tm.leasts, Bool.and_eq_true] at hl
    exact ⟨Tm.low_of t h1 hl.1, Tm.lows_of ts h2 hl.2⟩
end
mutual
theorem Fm.low_of {m : Int} : ∀ (f : Fm), f.ok = true → f.least m = true → f.low m
  | .mk k t ts as, h, hl => by
    obtain ⟨_, _, h1, h2⟩ := Fm.ok_mk h
    simp only [Fm.least, Bool.and_eq_true] at hl
    exact ⟨Tm.lows_of ts h1 hl.1, Fm.lows_of as h2 hl.2⟩
theorem Fm.lows_of {m : Int} : ∀ (fs : List Fm), Fm.oks fs = true → Fm.leasts fs m = true → Fm.lows fs m
  | [], _, _ => trivial
  | f :: fs, h, hl => by
    obtain ⟨h1, h2⟩ := Fm.oks_cons h
    simp only [Fm.leasts, Bool.and_eq_true] at hl
    exact ⟨Fm.low_of f h1 hl.1, Fm.lows_of fs h2 hl.2⟩
end
mutual
theorem Tm.low_mono {m n : Int} (h : m ≤ n) : ∀ t : Tm, t.low m → t.low n
  | .mk k i t as, hl => ⟨hl.1, by have := hl.2.1; omega, Tm.lows_mono h as hl.2.2⟩
theorem Tm.lows_mono {m n : Int} (h : m ≤ n) : ∀ ts : List Tm, Tm.lows ts m → Tm.lows ts n
  | [], _ => trivial
  | t :: ts, hl => ⟨Tm.low_mono h t hl.1, Tm.lows_mono h ts hl.2⟩
end
mutual
theorem Fm.low_mono {m n : Int} (h : m ≤ n) : ∀ t : Fm, t.low m → t.low n
  | .mk k t ts as, hl => ⟨Tm.lows_mono h ts hl.1, Fm.lows_mono h as hl.2⟩
theorem Fm.lows_mono {m n : Int} (h : m ≤ n) : ∀ ts : List Fm, Fm.lows ts m → Fm.lows ts n
  | [], _ => trivial
  | t :: ts, hl => ⟨Fm.low_mono h t hl.1, Fm.lows_mono h ts hl.2⟩
end
mutual
theorem Fm.reb_id : ∀ (f : Fm) (b : Int), Fm.reb (fun t _ => t) f b = f
  | .mk k t ts as, b => by simp only [Fm.reb, List.map_id', Fm.rebs_id as]
theorem Fm.rebs_id : ∀ (fs : List Fm) (b : Int), Fm.rebs (fun t _ => t) fs b = fs
  | [], b => rfl
  | f :: fs, b => by simp only [Fm.rebs, Fm.reb_id f, Fm.rebs_id fs]
end
theorem Tm.ok_var {i : Int} {t : Ty} {as : List Tm} (h : (Tm.mk 1 i t as).ok = true) : as = [] ∧ t = .mk 0 [] := by
  obtain ⟨h1, _, _, h2, _⟩ := Tm.ok_mk h
  rw [show Tm.want 1 = 0 from rfl] at h1
  refine ⟨List.eq_nil_of_length_eq_zero (by omega), ?_⟩
  obtain ⟨k, l⟩ := t
  simp only [Tm.tyOk, Ty.zero] at h2
  rw [decide_eq_false (by omega), cond_false, decide_eq_true_eq] at h2
  rw [h2.1, List.eq_nil_of_length_eq_zero h2.2]
mutual
theorem Tm.reb_up (fr d : Int) : ∀ (t : Tm) (b : Int), t.ok = true → Tm.reb (fun i b => Tm.var (if fr ≤ i - b then i + d else i)) t b = t.up (fr + b) d
  | .mk k i t as, b, h => by
    simp only [Tm.reb, Tm.up]
    by_cases hk : k = 1
    · subst hk
      obtain ⟨rfl, rfl⟩ := Tm.ok_var h
      rw [if_pos rfl, Tm.var]
      simp only [Tm.ups]
      by_cases hi : fr ≤ i - b
      · rw [if_pos hi, if_pos (by simp; omega)]
      · rw [if_neg hi, if_neg (by simp; omega)]
    · rw [if_neg hk, if_neg (fun h => hk h.1), Tm.rebs_up fr d as _ (Tm.ok_mk h).2.2.2.2]
      congr 2; omega
theorem Tm.rebs_up (fr d : Int) : ∀ (ts : List Tm) (b : Int), Tm.oks ts = true → Tm.rebs (fun i b => Tm.var (if fr ≤ i - b then i + d else i)) ts b = Tm.ups ts (fr + b) d
  | [], _, _ => rfl
  | t :: ts, b, h => by
    obtain ⟨h1, h2⟩ := Tm.oks_cons h
    simp only [Tm.rebs, Tm.ups]
    rw [Tm.reb_up fr d t b h1, Tm.rebs_up fr d ts b h2]
end
theorem Tm.lift_up {t : Tm} (h : t.ok = true) (fr d : Int) : t.lift fr d = t.up fr d := by
  unfold Tm.lift
  rw [Tm.reb_up fr d t 0 h]; simp
theorem Tm.lift_ups (fr d : Int) : ∀ (ts : List Tm), Tm.oks ts = true → ts.map (fun t => t.lift fr d) = Tm.ups ts fr d
  | [], _ => rfl
  | t :: ts, h => by
    obtain ⟨h1, h2⟩ := Tm.oks_cons h
    simp only [List.map_cons, Tm.ups, Tm.lift_up h1, Tm.lift_ups fr d ts h2]
mutual
theorem Fm.reb_up (fr d : Int) : ∀ (f : Fm) (b : Int), f.ok = true → Fm.reb (fun t b => t.lift (fr + b) d) f b = f.up (fr + b) d
  | .mk k t ts as, b, h => by
    obtain ⟨_, _, h1, h2⟩ := Fm.ok_mk h
    simp only [Fm.reb, Fm.up]
    rw [Tm.lift_ups _ _ ts h1, Fm.rebs_up fr d as _ h2]
    congr 2; omega
theorem Fm.rebs_up (fr d : Int) : ∀ (fs : List Fm) (b : Int), Fm.oks fs = true → Fm.rebs (fun t b => t.lift (fr + b) d) fs b = Fm.ups fs (fr + b) d
  | [], _, _ => rfl
  | f :: fs, b, h => by
    obtain ⟨h1, h2⟩ := Fm.oks_cons h
    simp only [Fm.rebs, Fm.ups]
    rw [Fm.reb_up fr d f b h1, Fm.rebs_up fr d fs b h2]
end
theorem Fm.lift_up {f : Fm} (h : f.ok = true) (fr d : Int) : f.lift fr d = f.up fr d := by
  unfold Fm.lift
  rw [Fm.reb_up fr d f 0 h]; simp
mutual
theorem Tm.up_ok {fr d : Int} (hd : 0 ≤ d) : ∀ (t : Tm) , t.ok = true → ∀ fr, (t.up fr d).ok = true
  | .mk k i t as, h, fr => by
    obtain ⟨h1, h2, h3, h4, h5⟩ := Tm.ok_mk h
    simp only [Tm.up, Tm.ok, Tm.ups_len]
    rw [h4, Tm.ups_ok hd as h5, decide_eq_true (by split <;> omega)]; rfl
theorem Tm.ups_ok {d : Int} (hd : 0 ≤ d) : ∀ (ts : List Tm), Tm.oks ts = true → ∀ fr, Tm.oks (Tm.ups ts fr d) = true
  | [], _, _ => rfl
  | t :: ts, h, fr => by
    obtain ⟨h1, h2⟩ := Tm.oks_cons h
    simp only [Tm.ups, Tm.oks]
    rw [Tm.up_ok (fr := fr) hd t h1, Tm.ups_ok hd ts h2]; rfl
end
mutual
theorem Fm.up_ok {d : Int} (hd : 0 ≤ d) : ∀ (t : Fm) , t.ok = true → ∀ fr, (t.up fr d).ok = true
  | .mk k t ts as, h, fr => by
    obtain ⟨h1, h2, h3, h4⟩ := Fm.ok_mk h
    simp only [Fm.up, Fm.ok, Tm.ups_len, Fm.ups_len]
    rw [h2, Tm.ups_ok hd ts h3, Fm.ups_ok hd as h4, decide_eq_true h1]; rfl
theorem Fm.ups_ok {d : Int} (hd : 0 ≤ d) : ∀ (ts : List Fm), Fm.oks ts = true → ∀ fr, Fm.oks (Fm.ups ts fr d) = true
  | [], _, _ => rfl
  | t :: ts, h, fr => by
    obtain ⟨h1, h2⟩ := Fm.oks_cons h
    simp only [Fm.ups, Fm.oks]
    rw [Fm.up_ok hd t h1, Fm.ups_ok hd ts h2]; rfl
end
mutual
theorem Tm.up_low {d m : Int} (hd : 0 ≤ d) : ∀ (t : Tm) , t.low m → ∀ fr, (t.up fr d).low (m + d)
  | .mk k i t as, h, fr => by
    refine ⟨?_, ?_, Tm.ups_low hd as h.2.2 _⟩ <;> (have := h.1; have := h.2.1; split <;> omega)
theorem Tm.ups_low {d m : Int} (hd : 0 ≤ d) : ∀ (ts : List Tm), Tm.lows ts m → ∀ fr, Tm.lows (Tm.ups ts fr d) (m + d)
  | [], _, _ => trivial
  | t :: ts, h, fr => ⟨Tm.up_low hd t h.1 fr, Tm.ups_low hd ts h.2 fr⟩
end
mutual
theorem Fm.up_low {d m : Int} (hd : 0 ≤ d) : ∀ (t : Fm) , t.low m → ∀ fr, (t.up fr d).low (m + d)
  | .mk k t ts as, h, fr => ⟨Tm.ups_low hd ts h.1 _, Fm.ups_low hd as h.2 _⟩
theorem Fm.ups_low {d m : Int} (hd : 0 ≤ d) : ∀ (ts : List Fm), Fm.lows ts m → ∀ fr, Fm.lows (Fm.ups ts fr d) (m + d)
  | [], _, _ => trivial
  | t :: ts, h, fr => ⟨Fm.up_low hd t h.1 fr, Fm.ups_low hd ts h.2 fr⟩
end
mutual
theorem Tm.up_size {d : Int} : ∀ (t : Tm) fr, (t.up fr d).size = t.size
  | .mk k i t as, fr => by simp only [Tm.up, Tm.size, Tm.ups_size as]
theorem Tm.ups_size {d : Int} : ∀ (ts : List Tm) fr, Tm.sizes (Tm.ups ts fr d) = Tm.sizes ts
  | [], _ => rfl
  | t :: ts, fr => by simp only [Tm.ups, Tm.sizes, Tm.up_size t, Tm.ups_size ts]
end
mutual
theorem Fm.up_size {d : Int} : ∀ (t : Fm) fr, (t.up fr d).size = t.size
  | .mk k t ts as, fr => by simp only [Fm.up, Fm.size, Tm.ups_size, Fm.ups_size as]
theorem Fm.ups_size {d : Int} : ∀ (ts : List Fm) fr, Fm.sizes (Fm.ups ts fr d) = Fm.sizes ts
  | [], _ => rfl
  | t :: ts, fr => by simp only [Fm.ups, Fm.sizes, Fm.up_size t, Fm.ups_size ts]
end
mutual
theorem Tm.up_num {d : Int} : ∀ (t : Tm) fr, (t.up fr d).num = t.num
  | .mk k i t as, fr => by simp only [Tm.up, Tm.num, Tm.ups_num as]
theorem Tm.ups_num {d : Int} : ∀ (ts : List Tm) fr, Tm.nums (Tm.ups ts fr d) = Tm.nums ts
  | [], _ => rfl
  | t :: ts, fr => by simp only [Tm.ups, Tm.nums, Tm.up_num t, Tm.ups_num ts]
end
mutual
theorem Fm.up_num {d : Int} : ∀ (t : Fm) fr, (t.up fr d).num = t.num
  | .mk k t ts as, fr => by simp only [Fm.up, Fm.num, Tm.ups_num, Fm.ups_num as]
theorem Fm.ups_num {d : Int} : ∀ (ts : List Fm) fr, Fm.nums (Fm.ups ts fr d) = Fm.nums ts
  | [], _ => rfl
  | t :: ts, fr => by simp only [Fm.ups, Fm.nums, Fm.up_num t, Fm.ups_num ts]
end
mutual
theorem Fm.tsz_b {an : Int} (h : 0 ≤ an ∧ an ≤ 4096) : ∀ (f : Fm), 0 ≤ f.tsz an ∧ f.tsz an ≤ f.num * 8200
  | .mk k t ts as => by
    have := Fm.tszs_b h as
    simp only [Fm.tsz, Fm.num]
    split
    · omega
    · split <;> omega
theorem Fm.tszs_b {an : Int} (h : 0 ≤ an ∧ an ≤ 4096) : ∀ (fs : List Fm), 0 ≤ Fm.tszs fs an ∧ Fm.tszs fs an ≤ Fm.nums fs * 8200
  | [] => by simp [Fm.tszs, Fm.nums]
  | f :: fs => by
    have := Fm.tsz_b h f
    have := Fm.tszs_b h fs
    simp only [Fm.tszs, Fm.nums]
    omega
end
theorem Fm.num_mem : ∀ {as : List Fm} {a}, a ∈ as → a.num ≤ Fm.nums as
  | b :: as, a, h => by
    rcases List.mem_cons.1 h with rfl | h
    · simp only [Fm.nums]; omega
    · have := Fm.num_mem h; simp only [Fm.nums]; omega
theorem Tm.num_mem : ∀ {as : List Tm} {a}, a ∈ as → a.num ≤ Tm.nums as
  | b :: as, a, h => by
    rcases List.mem_cons.1 h with rfl | h
    · simp only [Tm.nums]; omega
    · have := Tm.num_mem h; simp only [Tm.nums]; omega
theorem Fm.oks_mem : ∀ {as : List Fm} {a}, Fm.oks as = true → a ∈ as → a.ok = true
  | b :: as, a, h, hm => by
    obtain ⟨h1, h2⟩ := Fm.oks_cons h
    rcases List.mem_cons.1 hm with rfl | hm
    · exact h1
    · exact Fm.oks_mem h2 hm
theorem Tm.oks_mem : ∀ {as : List Tm} {a}, Tm.oks as = true → a ∈ as → a.ok = true
  | b :: as, a, h, hm => by
    obtain ⟨h1, h2⟩ := Tm.oks_cons h
    rcases List.mem_cons.1 hm with rfl | hm
    · exact h1
    · exact Tm.oks_mem h2 hm
theorem Fm.err_zero {f : Fm} (h : f.ok = true) (hn : f.num ≤ 4096) : f.err = 0 := by
  unfold Fm.err
  rw [if_pos h, if_neg (by omega)]
def Fm.anss (a : Fm) (n : Nat) : List Fm := (List.range n).map a.ups1
theorem Fm.anss_len (a : Fm) (n : Nat) : (a.anss n).length = n := by simp [Fm.anss]
theorem Fm.anss_succ (a : Fm) (n : Nat) : Fm.encs (a.anss (n + 1)) = Fm.encs (a.anss n) ++ [(a.ups1 n).enc] := by
  simp [Fm.anss, List.range_succ, Fm.encs_eq]
theorem Fm.anss_get {a : Fm} {n i : Nat} (h : i < n) : (Fm.encs (a.anss n)).getD i [] = (a.ups1 i).enc := by
  simp [Fm.anss, Fm.encs_eq, h]
theorem Fm.ups1_ok {a : Fm} (h : a.ok = true) : ∀ n, (a.ups1 n).ok = true
  | 0 => h
  | n + 1 => Fm.up_ok (by omega) _ (Fm.ups1_ok h n) _
theorem Fm.ups1_low {a : Fm} {m : Int} (h : a.low m) : ∀ n : Nat, (a.ups1 n).low (m + n)
  | 0 => by simpa [Fm.ups1] using h
  | n + 1 => by
    have := Fm.up_low (d := 1) (by omega) _ (Fm.ups1_low h n) 0
    rw [show m + ((n + 1 : Nat) : Int) = m + n + 1 by omega]
    exact this
theorem Fm.ups1_size {a : Fm} : ∀ n : Nat, (a.ups1 n).size = a.size
  | 0 => rfl
  | n + 1 => by rw [Fm.ups1, Fm.up1, Fm.up_size, Fm.ups1_size n]
mutual
theorem Fm.nd_le : ∀ f : Fm, 1 ≤ f.nd ∧ f.nd ≤ f.size
  | .mk k t ts [] => by simp only [Fm.nd, Fm.size]; omega
  | .mk k t ts [b] => by
    have := Fm.nd_le b
    simp only [Fm.nd, Fm.size, Fm.sizes]; split <;> omega
  | .mk k t ts [b, c] => by
    have := Fm.nd_le b
    have := Fm.nd_le c
    simp only [Fm.nd, Fm.size, Fm.sizes]; omega
  | .mk k t ts (b :: c :: d :: l) => by simp only [Fm.nd, Fm.size]; omega
end
theorem Fm.shape {k : Int} {t : Ty} {ts : List Tm} {as : List Fm} (h : (Fm.mk k t ts as).ok = true) :
    (k = 1 ∧ t = .mk 0 [] ∧ (∃ x y, ts = [x, y]) ∧ as = []) ∨ ((k = 2 ∨ k = 3) ∧ t = .mk 0 [] ∧ ts = [] ∧ ∃ b c, as = [b, c]) ∨ ((k = 4 ∨ k = 5 ∨ k = 6 ∨ k = 7) ∧ t.err = 0 ∧ ts = [] ∧ ∃ b, as = [b]) := by
  obtain ⟨h1, h2, _, _⟩ := Fm.ok_mk h
  have hz : ¬ Fm.quant k → t = .mk 0 [] := fun hq => by
    obtain ⟨tk, ta⟩ := t
    simp only [Fm.tyOk, Ty.zero] at h2
    rw [decide_eq_false hq, cond_false, decide_eq_true_eq] at h2
    rw [h2.1, List.eq_nil_of_length_eq_zero h2.2]
  rcases h1 with ⟨rfl, h3, h4⟩ | ⟨h3, h4, h5⟩ | ⟨h3, h4, h5⟩
  · left
    refine ⟨rfl, hz (by unfold Fm.quant; omega), ?_, List.eq_nil_of_length_eq_zero h4⟩
    match ts, h3 with
    | [x, y], _ => exact ⟨x, y, rfl⟩
  · right; left
    refine ⟨h3, hz (by unfold Fm.quant; omega), List.eq_nil_of_length_eq_zero h4, ?_⟩
    match as, h5 with
    | [x, y], _ => exact ⟨x, y, rfl⟩
  · right; right
    refine ⟨h3, ?_, List.eq_nil_of_length_eq_zero h4, ?_⟩
    · simp only [Fm.tyOk] at h2
      rw [decide_eq_true h3, cond_true, decide_eq_true_eq] at h2
      exact h2
    · match as, h5 with
      | [x], _ => exact ⟨x, rfl⟩
theorem Fm.nu_mk {k : Int} {t : Ty} {ts : List Tm} {as : List Fm} (h : (Fm.mk k t ts as).nu = true) : k ≠ 6 ∧ k ≠ 7 ∧ Fm.nus as = true := by
  simp only [Fm.nu, Bool.and_eq_true, decide_eq_true_eq] at h
  exact ⟨h.1.1, h.1.2, h.2⟩
theorem Fm.two_size (k : Int) (a b : Fm) : (Fm.two k a b).size = a.size + b.size + 2 := by simp [Fm.two, Fm.size, Fm.sizes, Tm.sizes, Ty.size, Ty.sizes]; omega
theorem Fm.q_size (k : Int) (t : Ty) (a : Fm) : (Fm.q k t a).size = t.size + a.size + 1 := by simp [Fm.q, Fm.size, Fm.sizes, Tm.sizes]
def Fm.lookE (a f : Fm) : Int := if a.err ≠ 0 then a.err else if f.err ≠ 0 then f.err else if f.nu = false then 10 else if a.least 536870912 = false then 1 else if 4096 < f.tsz a.num then 4 else 0
theorem Fm.lookE_zero {a f : Fm} (h : a.lookE f = 0) : a.err = 0 ∧ f.err = 0 ∧ f.nu = true ∧ a.least 536870912 = true ∧ f.tsz a.num ≤ 4096 := by
  unfold Fm.lookE at h
  split at h
  · omega
  · split at h
    · omega
    · split at h
      · omega
      · split at h
        · omega
        · split at h
          · omega
          · rename_i h1 h2 h3 h4 h5
            simp at h3 h4
            exact ⟨by omega, by omega, h3, h4, by omega⟩
def Fm.zero : Fm := .mk 0 (.mk 0 []) [] []
end Eng

namespace Eng
open Go
def Ty.nat : Ty := .mk 1 []
def Ty.list : Ty := .mk 2 []
def Ty.unit : Ty := .mk 5 []
def Ty.pair (a b : Ty) : Ty := .mk 3 [a, b]
def Ty.fn (a b : Ty) : Ty := .mk 4 [a, b]
mutual
theorem Ty.eq_of_same : ∀ {a b : Ty}, a.same b = true → a = b
  | .mk k as, .mk k' bs, h => by
    simp only [Ty.same, Bool.and_eq_true, decide_eq_true_eq] at h
    rw [h.1, Ty.eqs_of_same h.2]
theorem Ty.eqs_of_same : ∀ {as bs : List Ty}, Ty.sames as bs = true → as = bs
  | [], [], _ => rfl
  | a :: as, b :: bs, h => by
    simp only [Ty.sames, Bool.and_eq_true] at h
    rw [Ty.eq_of_same h.1, Ty.eqs_of_same h.2]
  | [], _ :: _, h => by simp [Ty.sames] at h
  | _ :: _, [], h => by simp [Ty.sames] at h
end
mutual
theorem Ty.same_refl : ∀ a : Ty, a.same a = true
  | .mk k as => by simp only [Ty.same, Ty.sames_refl as, decide_true, Bool.and_self]
theorem Ty.sames_refl : ∀ as : List Ty, Ty.sames as as = true
  | [] => rfl
  | a :: as => by simp only [Ty.sames, Ty.same_refl a, Ty.sames_refl as, Bool.and_self]
end
theorem Ty.same_iff {a b : Ty} : a.same b = true ↔ a = b := ⟨Ty.eq_of_same, fun h => h ▸ Ty.same_refl a⟩
def Ty.sized (t : Ty) : Except Int Ty := if t.err = 0 then .ok t else .error 4
def Tm.node (k : Int) (t : Ty) (l : List Ty) : Except Int Ty :=
  if k = 3 then match l with
    | [.mk fk [x, y], a] => if fk = 4 ∧ x.same a = true then .ok y else .error 7
    | _ => .error 7
  else if k = 4 then .ok .nat
  else if k = 5 then match l with
    | [a] => if a.same .nat = true then .ok .nat else .error 7
    | _ => .error 7
  else if k = 6 then match l with
    | [a, b, c] => if a.same t = true ∧ b.same (.fn .nat (.fn t t)) = true ∧ c.same .nat = true then .ok t else .error 7
    | _ => .error 7
  else if k = 7 then .ok .list
  else if k = 8 then match l with
    | [a, b] => if a.same .nat = true ∧ b.same .list = true then .ok .list else .error 7
    | _ => .error 7
  else if k = 9 then match l with
    | [a, b, c] => if a.same t = true ∧ b.same (.fn .nat (.fn .list (.fn t t))) = true ∧ c.same .list = true then .ok t else .error 7
    | _ => .error 7
  else if k = 10 then match l with
    | [a, b] => Ty.sized (.pair a b)
    | _ => .error 7
  else if k = 11 then match l with
    | [.mk fk [x, _]] => if fk = 3 then .ok x else .error 7
    | _ => .error 7
  else if k = 12 then match l with
    | [.mk fk [_, y]] => if fk = 3 then .ok y else .error 7
    | _ => .error 7
  else .ok .unit
mutual
def Tm.inf : Tm → List Ty → Except Int Ty
  | .mk k i t as, r =>
    if k = 1 then match r[i.toNat]? with
      | some u => .ok u
      | none => .error 6
    else if k = 2 then match Tm.infs as (t :: r) with
      | .ok [u] => Ty.sized (.fn t u)
      | .ok _ => .error 7
      | .error e => .error e
    else match Tm.infs as r with
      | .ok l => Tm.node k t l
      | .error e => .error e
def Tm.infs : List Tm → List Ty → Except Int (List Ty)
  | [], _ => .ok []
  | a :: as, r => match a.inf r with
    | .error e => .error e
    | .ok u => match Tm.infs as r with
      | .error e => .error e
      | .ok l => .ok (u :: l)
end
theorem Tm.infs_1 {a : Tm} {r : List Ty} {x : Ty} (ha : a.inf r = .ok x) : Tm.infs [a] r = .ok [x] := by simp only [Tm.infs, ha]
theorem Tm.infs_2 {a b : Tm} {r : List Ty} {x y : Ty} (ha : a.inf r = .ok x) (hb : b.inf r = .ok y) : Tm.infs [a, b] r = .ok [x, y] := by simp only [Tm.infs, ha, hb]
theorem Tm.infs_3 {a b c : Tm} {r : List Ty} {x y z : Ty} (ha : a.inf r = .ok x) (hb : b.inf r = .ok y) (hc : c.inf r = .ok z) : Tm.infs [a, b, c] r = .ok [x, y, z] := by simp only [Tm.infs, ha, hb, hc]
structure Ty.Sm (n : Nat) (t : Ty) : Prop where
  ok : t.ok = true
  sz : t.size ≤ n
theorem Ty.Sm.err {n : Nat} {t : Ty} (h : t.Sm n) (hn : n ≤ 64) : t.err = 0 := by
  unfold Ty.err
  rw [if_pos h.ok, if_neg (by have := h.sz; omega)]
theorem Ty.Sm.mono {n m : Nat} {t : Ty} (h : t.Sm n) (hn : n ≤ m) : t.Sm m := ⟨h.ok, by have := h.sz; omega⟩
theorem Ty.Sm.nat {n : Nat} (h : 1 ≤ n) : Ty.nat.Sm n := ⟨by decide, h⟩
theorem Ty.Sm.list {n : Nat} (h : 1 ≤ n) : Ty.list.Sm n := ⟨by decide, h⟩
theorem Ty.Sm.unit {n : Nat} (h : 1 ≤ n) : Ty.unit.Sm n := ⟨by decide, h⟩
theorem Ty.Sm.pair {n m : Nat} {a b : Ty} (ha : a.Sm n) (hb : b.Sm m) : (Ty.pair a b).Sm (n + m + 1) := ⟨by
  have := ha.ok; have := hb.ok; simp [Ty.pair, Ty.ok, Ty.oks, Ty.kindOk, *], by have := ha.sz; have := hb.sz; simp only [Ty.pair, Ty.size, Ty.sizes]; omega⟩
theorem Ty.Sm.fn {n m : Nat} {a b : Ty} (ha : a.Sm n) (hb : b.Sm m) : (Ty.fn a b).Sm (n + m + 1) := ⟨by
  have := ha.ok; have := hb.ok; simp [Ty.fn, Ty.ok, Ty.oks, Ty.kindOk, *], by have := ha.sz; have := hb.sz; simp only [Ty.fn, Ty.size, Ty.sizes]; omega⟩
structure Tm.Gd (r : List Ty) (t : Ty) (n : Nat) (u : Tm) : Prop where
  ok : u.ok = true
  ty : u.inf r = .ok t
  sz : u.size ≤ n
def Tm.n0 (k : Int) (as : List Tm) : Tm := .mk k 0 (.mk 0 []) as
def Tm.n1 (k : Int) (t : Ty) (as : List Tm) : Tm := .mk k 0 t as
section
variable {r : List Ty} {t s : Ty} {n m p : Nat} {a b c : Tm}
theorem Tm.Gd.mono (h : Tm.Gd r t n a) (hn : n ≤ m) : Tm.Gd r t m a := ⟨h.ok, h.ty, by have := h.sz; omega⟩
theorem Tm.Gd.var {i : Int} (h0 : 0 ≤ i) (h : r[i.toNat]? = some t) : Tm.Gd r t 2 (Tm.var i) :=
  ⟨by simp [Tm.var, Tm.ok, Tm.oks, Tm.want, Tm.tyOk, Ty.zero, h0], by simp [Tm.var, Tm.inf, h], by simp [Tm.var, Tm.size, Ty.size, Ty.sizes, Tm.sizes]⟩
theorem Tm.Gd.lam (hs : s.err = 0) (hf : (Ty.fn s t).err = 0) (h : Tm.Gd (s :: r) t n a) : Tm.Gd r (.fn s t) (n + s.size + 1) (Tm.n1 2 s [a]) :=
  ⟨by simp [Tm.n1, Tm.ok, Tm.oks, Tm.want, Tm.tyOk, hs, h.ok], by simp [Tm.n1, Tm.inf, Tm.infs_1 h.ty, Ty.sized, hf], by have := h.sz; simp only [Tm.n1, Tm.size, Tm.sizes]; omega⟩
theorem Tm.Gd.app (h : Tm.Gd r (.fn s t) n a) (h2 : Tm.Gd r s m b) : Tm.Gd r t (n + m + 2) (Tm.n0 3 [a, b]) :=
  ⟨by simp [Tm.n0, Tm.ok, Tm.oks, Tm.want, Tm.tyOk, Ty.zero, h.ok, h2.ok], by simp [Tm.n0, Tm.inf, Tm.infs_2 h.ty h2.ty, Tm.node, Ty.fn, Ty.same_refl], by have := h.sz; have := h2.sz; simp only [Tm.n0, Tm.size, Tm.sizes, Ty.size, Ty.sizes]; omega⟩
theorem Tm.Gd.zero : Tm.Gd r .nat 2 (Tm.n0 4 []) := ⟨by decide, by simp [Tm.n0, Tm.inf, Tm.infs, Tm.node], by decide⟩
theorem Tm.Gd.succ (h : Tm.Gd r .nat n a) : Tm.Gd r .nat (n + 2) (Tm.n0 5 [a]) :=
  ⟨by simp [Tm.n0, Tm.ok, Tm.oks, Tm.want, Tm.tyOk, Ty.zero, h.ok], by simp [Tm.n0, Tm.inf, Tm.infs_1 h.ty, Tm.node, Ty.same_refl], by have := h.sz; simp only [Tm.n0, Tm.size, Tm.sizes, Ty.size, Ty.sizes]; omega⟩
theorem Tm.Gd.recn (ht : t.err = 0) (h : Tm.Gd r t n a) (h2 : Tm.Gd r (.fn .nat (.fn t t)) m b) (h3 : Tm.Gd r .nat p c) : Tm.Gd r t (n + m + p + t.size + 1) (Tm.n1 6 t [a, b, c]) :=
  ⟨by simp [Tm.n1, Tm.ok, Tm.oks, Tm.want, Tm.tyOk, ht, h.ok, h2.ok, h3.ok], by simp [Tm.n1, Tm.inf, Tm.infs_3 h.ty h2.ty h3.ty, Tm.node, Ty.same_refl], by have := h.sz; have := h2.sz; have := h3.sz; simp only [Tm.n1, Tm.size, Tm.sizes]; omega⟩
theorem Tm.Gd.nil : Tm.Gd r .list 2 (Tm.n0 7 []) := ⟨by decide, by simp [Tm.n0, Tm.inf, Tm.infs, Tm.node], by decide⟩
theorem Tm.Gd.cons (h : Tm.Gd r .nat n a) (h2 : Tm.Gd r .list m b) : Tm.Gd r .list (n + m + 2) (Tm.n0 8 [a, b]) :=
  ⟨by simp [Tm.n0, Tm.ok, Tm.oks, Tm.want, Tm.tyOk, Ty.zero, h.ok, h2.ok], by simp [Tm.n0, Tm.inf, Tm.infs_2 h.ty h2.ty, Tm.node, Ty.same_refl], by have := h.sz; have := h2.sz; simp only [Tm.n0, Tm.size, Tm.sizes, Ty.size, Ty.sizes]; omega⟩
theorem Tm.Gd.fold (ht : t.err = 0) (h : Tm.Gd r t n a) (h2 : Tm.Gd r (.fn .nat (.fn .list (.fn t t))) m b) (h3 : Tm.Gd r .list p c) : Tm.Gd r t (n + m + p + t.size + 1) (Tm.n1 9 t [a, b, c]) :=
  ⟨by simp [Tm.n1, Tm.ok, Tm.oks, Tm.want, Tm.tyOk, ht, h.ok, h2.ok, h3.ok], by simp [Tm.n1, Tm.inf, Tm.infs_3 h.ty h2.ty h3.ty, Tm.node, Ty.same_refl], by have := h.sz; have := h2.sz; have := h3.sz; simp only [Tm.n1, Tm.size, Tm.sizes]; omega⟩
theorem Tm.Gd.pair (hp : (Ty.pair s t).err = 0) (h : Tm.Gd r s n a) (h2 : Tm.Gd r t m b) : Tm.Gd r (.pair s t) (n + m + 2) (Tm.n0 10 [a, b]) :=
  ⟨by simp [Tm.n0, Tm.ok, Tm.oks, Tm.want, Tm.tyOk, Ty.zero, h.ok, h2.ok], by simp [Tm.n0, Tm.inf, Tm.infs_2 h.ty h2.ty, Tm.node, Ty.sized, hp], by have := h.sz; have := h2.sz; simp only [Tm.n0, Tm.size, Tm.sizes, Ty.size, Ty.sizes]; omega⟩
theorem Tm.Gd.fst (h : Tm.Gd r (.pair s t) n a) : Tm.Gd r s (n + 2) (Tm.n0 11 [a]) :=
  ⟨by simp [Tm.n0, Tm.ok, Tm.oks, Tm.want, Tm.tyOk, Ty.zero, h.ok], by simp [Tm.n0, Tm.inf, Tm.infs_1 h.ty, Tm.node, Ty.pair], by have := h.sz; simp only [Tm.n0, Tm.size, Tm.sizes, Ty.size, Ty.sizes]; omega⟩
theorem Tm.Gd.snd (h : Tm.Gd r (.pair s t) n a) : Tm.Gd r t (n + 2) (Tm.n0 12 [a]) :=
  ⟨by simp [Tm.n0, Tm.ok, Tm.oks, Tm.want, Tm.tyOk, Ty.zero, h.ok], by simp [Tm.n0, Tm.inf, Tm.infs_1 h.ty, Tm.node, Ty.pair], by have := h.sz; simp only [Tm.n0, Tm.size, Tm.sizes, Ty.size, Ty.sizes]; omega⟩
theorem Tm.Gd.unit : Tm.Gd r .unit 2 (Tm.n0 13 []) := ⟨by decide, by simp [Tm.n0, Tm.inf, Tm.infs, Tm.node], by decide⟩
end
def Tm.numl : Nat → Tm
  | 0 => Tm.n0 4 []
  | n + 1 => Tm.n0 5 [Tm.numl n]
def Tm.lamN (a : Tm) : Tm := Tm.n1 2 .nat [a]
def Tm.recN (a b c : Tm) : Tm := Tm.n1 6 .nat [a, b, c]
def Tm.pred : Tm := .lamN (.recN (.n0 4 []) (.lamN (.lamN (.var 1))) (.var 0))
def Tm.plus : Tm := .lamN (.lamN (.recN (.var 1) (.lamN (.lamN (.n0 5 [.var 0]))) (.var 0)))
def Tm.sub : Tm := .lamN (.lamN (.recN (.var 1) (.lamN (.lamN (.n0 3 [.pred, .var 0]))) (.var 0)))
theorem Tm.Gd.numl {r : List Ty} : ∀ n : Nat, Tm.Gd r .nat (2 * n + 2) (Tm.numl n)
  | 0 => Tm.Gd.zero
  | n + 1 => (Tm.Gd.succ (Tm.Gd.numl n)).mono (by omega)
theorem Tm.Gd.pred {r : List Ty} : Tm.Gd r (.fn .nat .nat) 40 Tm.pred := by
  refine Tm.Gd.mono (.lam (by decide) (by decide) (.recn (by decide) .zero (.lam (by decide) (by decide) (.lam (by decide) (by decide) (.var (by decide) (by rfl)))) (.var (by decide) (by rfl)))) (by decide)
theorem Tm.Gd.plus {r : List Ty} : Tm.Gd r (.fn .nat (.fn .nat .nat)) 40 Tm.plus := by
  refine Tm.Gd.mono (.lam (by decide) (by decide) (.lam (by decide) (by decide) (.recn (by decide) (.var (by decide) (by rfl)) (.lam (by decide) (by decide) (.lam (by decide) (by decide) (.succ (.var (by decide) (by rfl))))) (.var (by decide) (by rfl))))) (by decide)
theorem Tm.Gd.sub {r : List Ty} : Tm.Gd r (.fn .nat (.fn .nat .nat)) 100 Tm.sub := by
  refine Tm.Gd.mono (.lam (by decide) (by decide) (.lam (by decide) (by decide) (.recn (by decide) (.var (by decide) (by rfl)) (.lam (by decide) (by decide) (.lam (by decide) (by decide) (.app .pred (.var (by decide) (by rfl))))) (.var (by decide) (by rfl))))) (by decide)
theorem Tm.n0_size (k : Int) (as : List Tm) : (Tm.n0 k as).size = Tm.sizes as + 2 := by simp only [Tm.n0, Tm.size, Ty.size, Ty.sizes]; omega
theorem Tm.n1_size (k : Int) (t : Ty) (as : List Tm) : (Tm.n1 k t as).size = t.size + Tm.sizes as + 1 := by simp only [Tm.n1, Tm.size]
theorem Tm.var_size (i : Int) : (Tm.var i).size = 2 := rfl
theorem Tm.numl_size : ∀ n : Nat, (Tm.numl n).size = 2 * n + 2
  | 0 => rfl
  | n + 1 => by rw [Tm.numl, Tm.n0_size]; simp only [Tm.sizes, Tm.numl_size n]; omega
theorem Tm.plus_size : Tm.plus.size ≤ 40 := by decide
theorem Tm.sub_size : Tm.sub.size ≤ 100 := by decide
theorem Tm.Gd.pk {r : List Ty} {t : Ty} {n : Nat} {u : Tm} {P : Prop} (hp : P) (h : Tm.Gd r t n u) : (P ∧ u.size ≤ n) ∧ Tm.Gd r t n u := ⟨⟨hp, h.sz⟩, h⟩
theorem Ty.Sm.pk {n : Nat} {t : Ty} {P : Prop} (hp : P) (h : t.Sm n) : (P ∧ t.size ≤ n) ∧ t.Sm n := ⟨⟨hp, h.sz⟩, h⟩
def CtxOk (b : Nat) (r : List Ty) : Prop := r.length ≤ b ∧ ∀ s ∈ r, s.Sm 3
theorem CtxOk.cons {b : Nat} {r : List Ty} {s : Ty} (h : CtxOk b r) (hs : s.Sm 3) : CtxOk (b + 1) (s :: r) := ⟨by have := h.1; simp only [List.length_cons]; omega, fun u hu => by
  rcases List.mem_cons.1 hu with rfl | hu
  · exact hs
  · exact h.2 u hu⟩
theorem CtxOk.mono {b c : Nat} {r : List Ty} (h : CtxOk b r) (hb : b ≤ c) : CtxOk c r := ⟨by have := h.1; omega, h.2⟩
theorem Ty.size1 : ∀ {t : Ty}, t.Sm 1 → t = .nat ∨ t = .list ∨ t = .unit
  | .mk k as, h => by
    have h1 := h.sz
    have h2 := h.ok
    have : as = [] := by
      cases as with
      | nil => rfl
      | cons a as => have := Ty.size_pos a; simp only [Ty.size, Ty.sizes] at h1; omega
    subst this
    simp only [Ty.ok, Ty.oks, Bool.and_true, decide_eq_true_eq, Ty.kindOk, List.length_nil] at h2
    unfold Ty.nat Ty.list Ty.unit
    rcases (show k = 1 ∨ k = 2 ∨ k = 5 by omega) with rfl | rfl | rfl <;> simp
theorem Ty.size3 {t : Ty} (h : t.Sm 3) : t = .nat ∨ t = .list ∨ t = .unit ∨ (∃ a b : Ty, a.Sm 1 ∧ b.Sm 1 ∧ t = .pair a b) ∨ ∃ a b : Ty, a.Sm 1 ∧ b.Sm 1 ∧ t = .fn a b := by
  obtain ⟨k, as⟩ := t
  have h1 := h.sz
  have h2 := h.ok
  simp only [Ty.ok, Bool.and_eq_true, decide_eq_true_eq] at h2
  rcases h2.1 with ⟨hk, hl⟩ | ⟨hk, hl⟩
  · obtain rfl := List.eq_nil_of_length_eq_zero hl
    unfold Ty.nat Ty.list Ty.unit
    rcases hk with rfl | rfl | rfl <;> simp
  · match as, hl with
    | [a, b], _ =>
      simp only [Ty.oks, Bool.and_true, Bool.and_eq_true] at h2
      simp only [Ty.size, Ty.sizes] at h1
      have ha := Ty.size_pos a
      have hb := Ty.size_pos b
      have sa : a.Sm 1 := ⟨h2.2.1, by omega⟩
      have sb : b.Sm 1 := ⟨h2.2.2, by omega⟩
      rcases hk with rfl | rfl
      · exact .inr (.inr (.inr (.inl ⟨a, b, sa, sb, rfl⟩)))
      · exact .inr (.inr (.inr (.inr ⟨a, b, sa, sb, rfl⟩)))
theorem Ty.nat_size : Ty.nat.size = 1 := rfl
theorem Ty.list_size : Ty.list.size = 1 := rfl
theorem Ty.enc_shape (f : Ty) (h : f.Sm 3) : (∃ x y : Ty, x.Sm 1 ∧ y.Sm 1 ∧ f = .fn x y ∧ f.enc = [.int .i64 4, .sl 2 [x.enc, y.enc]]) ∨ ∃ k rows, f.enc = [.int .i64 k, .sl 2 rows] ∧ k ≠ 4 := by
  rcases Ty.size3 h with rfl | rfl | rfl | ⟨x, y, hx, hy, rfl⟩ | ⟨x, y, hx, hy, rfl⟩
  · exact .inr ⟨1, _, rfl, by decide⟩
  · exact .inr ⟨2, _, rfl, by decide⟩
  · exact .inr ⟨5, _, rfl, by decide⟩
  · exact .inr ⟨3, _, rfl, by decide⟩
  · exact .inl ⟨x, y, hx, hy, rfl, by simp [Ty.fn, Ty.enc, Ty.encs]⟩
theorem Tm.Gd.pair' {r : List Ty} {s t : Ty} {n m : Nat} {a b : Tm} (h : Tm.Gd r s n a) (h2 : Tm.Gd r t m b) (hp : (Ty.pair s t).err = 0) : Tm.Gd r (.pair s t) (n + m + 2) (Tm.n0 10 [a, b]) := Tm.Gd.pair hp h h2
def Tm.natE : List Tm → List Ty → Int
  | [], _ => 0
  | t :: ts, r => match t.inf r with
    | .error e => e
    | .ok s => if s.kind ≠ 1 then 7 else Tm.natE ts r
mutual
def Fm.tyE : Fm → List Ty → Int
  | .mk k t ts as, r => if Tm.natE ts r ≠ 0 then Tm.natE ts r else Fm.tyEs as (if Fm.quant k then t :: r else r)
def Fm.tyEs : List Fm → List Ty → Int
  | [], _ => 0
  | f :: fs, r => if f.tyE r ≠ 0 then f.tyE r else Fm.tyEs fs r
end
structure Fm.Gd (r : List Ty) (n : Nat) (f : Fm) : Prop where
  ok : f.ok = true
  ty : f.tyE r = 0
  sz : f.size ≤ n
section
variable {r : List Ty} {t : Ty} {n m : Nat} {a b : Fm} {x y : Tm}
theorem Fm.Gd.mono (h : Fm.Gd r n a) (hn : n ≤ m) : Fm.Gd r m a := ⟨h.ok, h.ty, by have := h.sz; omega⟩
theorem Fm.Gd.eq (h : Tm.Gd r .nat n x) (h2 : Tm.Gd r .nat m y) : Fm.Gd r (n + m + 2) (Fm.eq x y) :=
  ⟨by simp [Fm.eq, Fm.ok, Fm.oks, Tm.oks, Fm.kindOk, Fm.tyOk, Ty.zero, Fm.quant, h.ok, h2.ok], by simp [Fm.eq, Fm.tyE, Fm.tyEs, Tm.natE, h.ty, h2.ty, Ty.nat, Ty.kind], by have := h.sz; have := h2.sz; simp only [Fm.eq, Fm.size, Fm.sizes, Tm.sizes, Ty.size, Ty.sizes]; omega⟩
theorem Fm.Gd.two {k : Int} (hk : k = 2 ∨ k = 3) (h : Fm.Gd r n a) (h2 : Fm.Gd r m b) : Fm.Gd r (n + m + 2) (Fm.two k a b) := by
  have hq : ¬ Fm.quant k := by unfold Fm.quant; omega
  refine ⟨?_, ?_, by have := h.sz; have := h2.sz; rw [Fm.two_size]; omega⟩
  · simp [Fm.two, Fm.ok, Fm.oks, Tm.oks, Fm.tyOk, Ty.zero, hq, h.ok, h2.ok, Fm.kindOk]; omega
  · simp [Fm.two, Fm.tyE, Fm.tyEs, Tm.natE, hq, h.ty, h2.ty]
theorem Fm.Gd.q {k : Int} (hk : Fm.quant k) (ht : t.err = 0) (h : Fm.Gd (t :: r) n a) : Fm.Gd r (n + t.size + 1) (Fm.q k t a) := by
  refine ⟨?_, ?_, by have := h.sz; rw [Fm.q_size]; omega⟩
  · simp [Fm.q, Fm.ok, Fm.oks, Tm.oks, Fm.tyOk, ht, hk, h.ok, Fm.kindOk]
  · simp [Fm.q, Fm.tyE, Fm.tyEs, Tm.natE, hk, h.ty]
end
theorem Fm.Gd.pk {r : List Ty} {n : Nat} {u : Fm} {P Q : Prop} (hp : P) (h : Fm.Gd r n u) (hq : Q) : (P ∧ u.size ≤ n) ∧ Fm.Gd r n u ∧ Q := ⟨⟨hp, h.sz⟩, h, hq⟩
theorem Fm.nu_eq {x y : Tm} : (Fm.eq x y).nu = true := by simp [Fm.eq, Fm.nu, Fm.nus]
theorem Fm.nu_two {k : Int} {a b : Fm} (hk : k = 2 ∨ k = 3) (ha : a.nu = true) (hb : b.nu = true) : (Fm.two k a b).nu = true := by simp [Fm.two, Fm.nu, Fm.nus, ha, hb]; omega
theorem Fm.nu_q {k : Int} {t : Ty} {a : Fm} (hk : k = 4 ∨ k = 5) (ha : a.nu = true) : (Fm.q k t a).nu = true := by simp [Fm.q, Fm.nu, Fm.nus, ha]; omega
end Eng

namespace Eng
open Go
mutual
theorem Tm.same_refl : ∀ t : Tm, t.same t = true
  | .mk k i t as => by simp only [Tm.same, Ty.same_refl, Tm.sames_refl as, and_self, decide_true, Bool.and_self]
theorem Tm.sames_refl : ∀ ts : List Tm, Tm.sames ts ts = true
  | [] => rfl
  | t :: ts => by simp only [Tm.sames, Tm.same_refl t, Tm.sames_refl ts, Bool.and_self]
end
mutual
theorem Fm.same_refl : ∀ t : Fm, t.same t = true
  | .mk k t ts as => by simp only [Fm.same, Ty.same_refl, Tm.sames_refl, Fm.sames_refl as, decide_true, Bool.and_self]
theorem Fm.sames_refl : ∀ ts : List Fm, Fm.sames ts ts = true
  | [] => rfl
  | t :: ts => by simp only [Fm.sames, Fm.same_refl t, Fm.sames_refl ts, Bool.and_self]
end
end Eng

namespace Eng
open Go
mutual
def Tm.times : Tm → Int → Nat
  | .mk k i _ as, p => (if k = 1 ∧ i = p then 1 else 0) + Tm.timess as (p + Tm.bnd k)
def Tm.timess : List Tm → Int → Nat
  | [], _ => 0
  | t :: ts, p => t.times p + Tm.timess ts p
end
mutual
def Fm.times : Fm → Int → Nat
  | .mk k _ ts as, p => Tm.timess ts p + Fm.timess as (p + Fm.bnd k)
def Fm.timess : List Fm → Int → Nat
  | [], _ => 0
  | t :: ts, p => t.times p + Fm.timess ts p
end
mutual
theorem Tm.times_le : ∀ (t : Tm) p, t.times p ≤ t.num
  | .mk k i t as, p => by simp only [Tm.times, Tm.num]; have := Tm.timess_le as (p + Tm.bnd k); split <;> omega
theorem Tm.timess_le : ∀ (ts : List Tm) p, Tm.timess ts p ≤ Tm.nums ts
  | [], _ => by simp [Tm.timess]
  | t :: ts, p => by simp only [Tm.timess, Tm.nums]; have := Tm.times_le t p; have := Tm.timess_le ts p; omega
end
mutual
theorem Fm.times_le : ∀ (t : Fm) p, t.times p ≤ t.num
  | .mk k t ts as, p => by simp only [Fm.times, Fm.num]; have := Tm.timess_le ts p; have := Fm.timess_le as (p + Fm.bnd k); omega
theorem Fm.timess_le : ∀ (ts : List Fm) p, Fm.timess ts p ≤ Fm.nums ts
  | [], _ => by simp [Fm.timess]
  | t :: ts, p => by simp only [Fm.timess, Fm.nums]; have := Fm.times_le t p; have := Fm.timess_le ts p; omega
end
mutual
def Tm.inn : Tm → Int → Int → Tm → Tm
  | .mk k i t as, p, d, s => if k = 1 then (if i = p + d then s.up 0 (p + d) else if p + d < i then Tm.var (i - 1) else .mk k i t as) else .mk k i t (Tm.inns as p (d + Tm.bnd k) s)
def Tm.inns : List Tm → Int → Int → Tm → List Tm
  | [], _, _, _ => []
  | t :: ts, p, d, s => t.inn p d s :: Tm.inns ts p d s
end
mutual
def Fm.inn : Fm → Int → Int → Tm → Fm
  | .mk k t ts as, p, d, s => .mk k t (Tm.inns ts p d s) (Fm.inns as p (d + Fm.bnd k) s)
def Fm.inns : List Fm → Int → Int → Tm → List Fm
  | [], _, _, _ => []
  | t :: ts, p, d, s => t.inn p d s :: Fm.inns ts p d s
end
theorem Tm.inns_len : ∀ as p d s, (Tm.inns as p d s).length = as.length
  | [], _, _, _ => rfl
  | _ :: as, p, d, s => by simp [Tm.inns, Tm.inns_len as p d s]
theorem Fm.inns_len : ∀ as p d s, (Fm.inns as p d s).length = as.length
  | [], _, _, _ => rfl
  | _ :: as, p, d, s => by simp [Fm.inns, Fm.inns_len as p d s]
def Fm.putE (f : Fm) (s : Tm) : Int := if f.err ≠ 0 then f.err else if s.err ≠ 0 then s.err else if f.least 536870912 = false then 1 else if s.least 536870912 = false then 1 else if 4096 < (f.num : Int) + f.times 0 * (s.num - 1) then 4 else 0
end Eng

namespace Eng
open Go
mutual
def Tm.mark : Tm → Int → List Int → List Int
  | .mk k i _ as, d, ks => Tm.marks as (d + Tm.bnd k) (if k = 1 ∧ d ≤ i then insK ks (i - d) else ks)
def Tm.marks : List Tm → Int → List Int → List Int
  | [], _, ks => ks
  | t :: ts, d, ks => Tm.marks ts d (t.mark d ks)
end
mutual
def Fm.mark : Fm → Int → List Int → List Int
  | .mk k _ ts as, d, ks => Fm.marks as (d + Fm.bnd k) (Tm.marks ts d ks)
def Fm.marks : List Fm → Int → List Int → List Int
  | [], _, ks => ks
  | t :: ts, d, ks => Fm.marks ts d (t.mark d ks)
end
mutual
theorem Tm.mark_len : ∀ (t : Tm) d ks, (t.mark d ks).length ≤ ks.length + t.size
  | .mk k i t as, d, ks => by
    simp only [Tm.mark, Tm.size]
    have h := Tm.marks_len as (d + Tm.bnd k) (if k = 1 ∧ d ≤ i then insK ks (i - d) else ks)
    have h2 : (if k = 1 ∧ d ≤ i then insK ks (i - d) else ks).length ≤ ks.length + 1 := by
      split
      · exact len_insK
      · omega
    omega
theorem Tm.marks_len : ∀ (ts : List Tm) d ks, (Tm.marks ts d ks).length ≤ ks.length + Tm.sizes ts
  | [], _, _ => by simp [Tm.marks, Tm.sizes]
  | t :: ts, d, ks => by
    simp only [Tm.marks, Tm.sizes]
    have h1 := Tm.mark_len t d ks
    have h2 := Tm.marks_len ts d (t.mark d ks)
    omega
end
mutual
theorem Fm.mark_len : ∀ (t : Fm) d ks, (t.mark d ks).length ≤ ks.length + t.size
  | .mk k t ts as, d, ks => by
    simp only [Fm.mark, Fm.size]
    have h1 := Tm.marks_len ts d ks
    have h2 := Fm.marks_len as (d + Fm.bnd k) (Tm.marks ts d ks)
    omega
theorem Fm.marks_len : ∀ (ts : List Fm) d ks, (Fm.marks ts d ks).length ≤ ks.length + Fm.sizes ts
  | [], _, _ => by simp [Fm.marks, Fm.sizes]
  | t :: ts, d, ks => by
    simp only [Fm.marks, Fm.sizes]
    have h1 := Fm.mark_len t d ks
    have h2 := Fm.marks_len ts d (t.mark d ks)
    omega
end
end Eng

namespace Eng
open Go
theorem Ty.err_iff {t : Ty} : t.err = 0 ↔ t.ok = true ∧ t.size ≤ 64 := by
  unfold Ty.err
  cases h : t.ok with
  | false => simp
  | true =>
    simp only [if_true]
    constructor
    · intro h'
      refine ⟨trivial, ?_⟩
      split at h'
      · simp at h'
      · omega
    · intro h'
      rw [if_neg (by omega)]
theorem Ty.err_parts {k : Int} {x y : Ty} (h : (Ty.mk k [x, y]).err = 0) : x.err = 0 ∧ y.err = 0 := by
  rw [Ty.err_iff] at h
  obtain ⟨h1, h2⟩ := h
  simp only [Ty.size, Ty.sizes] at h2
  simp only [Ty.ok, Ty.oks, Bool.and_eq_true, Bool.and_true] at h1
  rw [Ty.err_iff, Ty.err_iff]
  exact ⟨⟨h1.2.1, by omega⟩, h1.2.2, by omega⟩
theorem Ty.sized_ok {t u : Ty} (h : Ty.sized t = .ok u) : u = t ∧ t.err = 0 := by
  unfold Ty.sized at h
  split at h
  · rename_i e
    cases h; exact ⟨rfl, e⟩
  · cases h
theorem Tm.node_err {k : Int} {t u : Ty} {l : List Ty} (ht : k = 6 ∨ k = 9 → t.err = 0) (hl : ∀ s ∈ l, s.err = 0) (h : Tm.node k t l = .ok u) : u.err = 0 := by
  unfold Tm.node at h
  by_cases h3 : k = 3
  · rw [if_pos h3] at h
    split at h
    · rename_i fk x y a
      split at h
      · cases h
        exact (Ty.err_parts (hl _ (List.mem_cons_self ..))).2
      · cases h
    · cases h
  rw [if_neg h3] at h
  by_cases h4 : k = 4
  · rw [if_pos h4] at h; cases h; decide
  rw [if_neg h4] at h
  by_cases h5 : k = 5
  · rw [if_pos h5] at h
    split at h
    · split at h
      · cases h; decide
      · cases h
    · cases h
  rw [if_neg h5] at h
  by_cases h6 : k = 6
  · rw [if_pos h6] at h
    split at h
    · split at h
      · cases h; exact ht (.inl h6)
      · cases h
    · cases h
  rw [if_neg h6] at h
  by_cases h7 : k = 7
  · rw [if_pos h7] at h; cases h; decide
  rw [if_neg h7] at h
  by_cases h8 : k = 8
  · rw [if_pos h8] at h
    split at h
    · split at h
      · cases h; decide
      · cases h
    · cases h
  rw [if_neg h8] at h
  by_cases h9 : k = 9
  · rw [if_pos h9] at h
    split at h
    · split at h
      · cases h; exact ht (.inr h9)
      · cases h
    · cases h
  rw [if_neg h9] at h
  by_cases h10 : k = 10
  · rw [if_pos h10] at h
    split at h
    · obtain ⟨rfl, e⟩ := Ty.sized_ok h; exact e
    · cases h
  rw [if_neg h10] at h
  by_cases h11 : k = 11
  · rw [if_pos h11] at h
    split at h
    · split at h
      · cases h; exact (Ty.err_parts (hl _ (List.mem_cons_self ..))).1
      · cases h
    · cases h
  rw [if_neg h11] at h
  by_cases h12 : k = 12
  · rw [if_pos h12] at h
    split at h
    · split at h
      · cases h; exact (Ty.err_parts (hl _ (List.mem_cons_self ..))).2
      · cases h
    · cases h
  rw [if_neg h12] at h
  cases h; decide
theorem Tm.tyOk_err {k : Int} {t : Ty} (h : Tm.tyOk k t = true) (hk : k = 2 ∨ k = 6 ∨ k = 9) : t.err = 0 := by
  unfold Tm.tyOk at h
  rw [decide_eq_true hk] at h
  simpa using h
mutual
theorem Tm.inf_err : ∀ (t : Tm) (r : List Ty) (u : Ty), t.ok = true → (∀ s ∈ r, s.err = 0) → t.inf r = .ok u → u.err = 0
  | .mk k i t as, r, u, hok, hr, h => by
    obtain ⟨_, _, _, e4, e5⟩ := Tm.ok_mk hok
    unfold Tm.inf at h
    by_cases h1 : k = 1
    · rw [if_pos h1] at h
      split at h
      · rename_i v hv
        cases h
        exact hr _ (List.mem_of_getElem? hv)
      · cases h
    rw [if_neg h1] at h
    by_cases h2 : k = 2
    · rw [if_pos h2] at h
      split at h
      · obtain ⟨rfl, e⟩ := Ty.sized_ok h; exact e
      · cases h
      · cases h
    rw [if_neg h2] at h
    split at h
    · rename_i l hl
      exact Tm.node_err (fun hk => Tm.tyOk_err e4 (.inr hk)) (Tm.infs_err as r l e5 hr hl) h
    · cases h
theorem Tm.infs_err : ∀ (ts : List Tm) (r l : List Ty), Tm.oks ts = true → (∀ s ∈ r, s.err = 0) → Tm.infs ts r = .ok l → ∀ s ∈ l, s.err = 0
  | [], r, l, _, _, h => by
    simp only [Tm.infs] at h
    cases h; simp
  | t :: ts, r, l, hok, hr, h => by
    obtain ⟨h1, h2⟩ := Tm.oks_cons hok
    simp only [Tm.infs] at h
    split at h
    · cases h
    · rename_i u hu
      split at h
      · cases h
      · rename_i l' hl'
        cases h
        intro s hs
        rcases List.mem_cons.1 hs with rfl | hs
        · exact Tm.inf_err t r _ h1 hr hu
        · exact Tm.infs_err ts r l' h2 hr hl' s hs
end
def Tm.ty1 (t : Tm) (r : List Ty) : Ty := match t.inf r with
  | .ok u => u
  | .error _ => .nat
def Tm.tys : List Tm → List Ty → List Ty
  | [], _ => []
  | t :: ts, r => t.ty1 r :: Tm.tys ts r
end Eng

namespace Eng
open Go
def ansT : Except Int Ty → AV
  | .ok u => .tup [.st 2 u.enc, .pl (.int .i64 0)]
  | .error e => .tup [.st 2 [.int .i64 0, .sl 2 []], .pl (.int .i64 e)]
theorem Tm.want_cases {k : Int} {n : Nat} (h : (n : Int) = Tm.want k) : k = 1 ∧ n = 0 ∨ k = 2 ∧ n = 1 ∨ k = 3 ∧ n = 2 ∨ k = 4 ∧ n = 0 ∨ k = 5 ∧ n = 1 ∨ k = 6 ∧ n = 3 ∨ k = 7 ∧ n = 0 ∨ k = 8 ∧ n = 2 ∨ k = 9 ∧ n = 3 ∨ k = 10 ∧ n = 2 ∨ k = 11 ∧ n = 1 ∨ k = 12 ∧ n = 1 ∨ k = 13 ∧ n = 0 := by
  unfold Tm.want at h
  split at h
  · rename_i hk
    obtain rfl : n = 0 := by omega
    rcases hk with rfl | rfl | rfl | rfl <;> simp
  · split at h
    · rename_i hk
      obtain rfl : n = 1 := by omega
      rcases hk with rfl | rfl | rfl | rfl <;> simp
    · split at h
      · rename_i hk
        obtain rfl : n = 2 := by omega
        rcases hk with rfl | rfl | rfl <;> simp
      · split at h
        · rename_i hk
          obtain rfl : n = 3 := by omega
          rcases hk with rfl | rfl <;> simp
        · omega
theorem Ty.err_two {k : Int} {as : List Ty} (h : (Ty.mk k as).err = 0) (hk : k = 3 ∨ k = 4) : ∃ x y, as = [x, y] ∧ x.err = 0 ∧ y.err = 0 := by
  have h' := h
  rw [Ty.err_iff] at h
  obtain ⟨h1, _⟩ := h
  simp only [Ty.ok, Bool.and_eq_true, decide_eq_true_eq, Ty.kindOk] at h1
  match as, h1.1, h' with
  | [x, y], _, h' => exact ⟨x, y, rfl, Ty.err_parts h'⟩
  | [], h, _ => simp at h; omega
  | [_], h, _ => simp at h
  | _ :: _ :: _ :: _, h, _ => simp at h
theorem len0 {α : Type} {l : List α} (h : l.length = 0) : l = [] := List.length_eq_zero_iff.1 h
theorem len1 {α : Type} {l : List α} (h : l.length = 1) : ∃ a, l = [a] := by
  match l, h with
  | [a], _ => exact ⟨a, rfl⟩
theorem len2 {α : Type} {l : List α} (h : l.length = 2) : ∃ a b, l = [a, b] := by
  match l, h with
  | [a, b], _ => exact ⟨a, b, rfl⟩
theorem len3 {α : Type} {l : List α} (h : l.length = 3) : ∃ a b c, l = [a, b, c] := by
  match l, h with
  | [a, b, c], _ => exact ⟨a, b, c, rfl⟩
def Tm.pre (l0 : List Ty) : Except Int (List Ty) → Except Int (List Ty)
  | .ok l => .ok (l0 ++ l)
  | .error e => .error e
theorem Tm.pre_nil {x : Except Int (List Ty)} : Tm.pre [] x = x := by cases x <;> rfl
theorem Ty.encs_app (a b : List Ty) : Ty.encs (a ++ b) = Ty.encs a ++ Ty.encs b := by simp [Ty.encs_eq]
theorem Ty.sized_ne {t : Ty} {e : Int} (h : Ty.sized t = .error e) : e = 4 := by
  unfold Ty.sized at h
  split at h <;> cases h
  rfl
theorem Tm.node_ne {k : Int} {t : Ty} {l : List Ty} {e : Int} (h : Tm.node k t l = .error e) : e = 4 ∨ e = 7 := by
  unfold Tm.node at h
  repeat' split at h
  all_goals first
    | (cases h; done)
    | (cases h; exact .inr rfl)
    | exact .inl (Ty.sized_ne h)
mutual
theorem Tm.inf_ne : ∀ (t : Tm) (r : List Ty) (e : Int), t.inf r = .error e → e = 4 ∨ e = 6 ∨ e = 7
  | .mk k i t as, r, e, h => by
    unfold Tm.inf at h
    by_cases h1 : k = 1
    · rw [if_pos h1] at h
      split at h <;> cases h
      exact .inr (.inl rfl)
    rw [if_neg h1] at h
    by_cases h2 : k = 2
    · rw [if_pos h2] at h
      split at h
      · exact .inl (Ty.sized_ne h)
      · cases h; exact .inr (.inr rfl)
      · rename_i e' he
        cases h
        exact Tm.infs_ne as _ _ he
    rw [if_neg h2] at h
    split at h
    · rcases Tm.node_ne h with h | h
      · exact .inl h
      · exact .inr (.inr h)
    · rename_i e' he
      cases h
      exact Tm.infs_ne as _ _ he
theorem Tm.infs_ne : ∀ (ts : List Tm) (r : List Ty) (e : Int), Tm.infs ts r = .error e → e = 4 ∨ e = 6 ∨ e = 7
  | [], r, e, h => by simp only [Tm.infs] at h; cases h
  | t :: ts, r, e, h => by
    simp only [Tm.infs] at h
    split at h
    · rename_i e' he
      cases h
      exact Tm.inf_ne t _ _ he
    · split at h
      · rename_i e' he
        cases h
        exact Tm.infs_ne ts _ _ he
      · cases h
end
end Eng

namespace Eng
open Go
theorem Ty.size_of {t : Ty} (h : t.err = 0 ∨ t.zero = true) : t.size ≤ 64 := by
  rcases h with h | h
  · exact (Ty.err_iff.1 h).2
  · obtain ⟨k, as⟩ := t
    simp only [Ty.zero, decide_eq_true_eq] at h
    obtain rfl := len0 h.2
    simp [Ty.size, Ty.sizes]
theorem Tm.tyOk_size {k : Int} {t : Ty} (h : Tm.tyOk k t = true) : t.size ≤ 64 := by
  unfold Tm.tyOk at h
  by_cases hk : k = 2 ∨ k = 6 ∨ k = 9
  · rw [decide_eq_true hk] at h
    exact Ty.size_of (.inl (by simpa using h))
  · rw [decide_eq_false hk] at h
    exact Ty.size_of (.inr (by simpa using h))
theorem Fm.tyOk_size {k : Int} {t : Ty} (h : Fm.tyOk k t = true) : t.size ≤ 64 := by
  unfold Fm.tyOk at h
  by_cases hk : Fm.quant k
  · rw [decide_eq_true hk] at h
    exact Ty.size_of (.inl (by simpa using h))
  · rw [decide_eq_false hk] at h
    exact Ty.size_of (.inr (by simpa using h))
mutual
theorem Tm.size_num : ∀ (t : Tm), t.ok = true → t.size ≤ 65 * t.num
  | .mk k i t as, h => by
    obtain ⟨_, _, _, h4, h5⟩ := Tm.ok_mk h
    have := Tm.tyOk_size h4
    have := Tm.sizes_num as h5
    simp only [Tm.size, Tm.num]; omega
theorem Tm.sizes_num : ∀ (ts : List Tm), Tm.oks ts = true → Tm.sizes ts ≤ 65 * Tm.nums ts
  | [], _ => by simp [Tm.sizes]
  | t :: ts, h => by
    obtain ⟨h1, h2⟩ := Tm.oks_cons h
    have := Tm.size_num t h1
    have := Tm.sizes_num ts h2
    simp only [Tm.sizes, Tm.nums]; omega
end
mutual
theorem Fm.size_num : ∀ (t : Fm), t.ok = true → t.size ≤ 65 * t.num
  | .mk k t ts as, h => by
    obtain ⟨_, h3, h4, h5⟩ := Fm.ok_mk h
    have := Fm.tyOk_size h3
    have := Tm.sizes_num ts h4
    have := Fm.sizes_num as h5
    simp only [Fm.size, Fm.num]; omega
theorem Fm.sizes_num : ∀ (ts : List Fm), Fm.oks ts = true → Fm.sizes ts ≤ 65 * Fm.nums ts
  | [], _ => by simp [Fm.sizes]
  | t :: ts, h => by
    obtain ⟨h1, h2⟩ := Fm.oks_cons h
    have := Fm.size_num t h1
    have := Fm.sizes_num ts h2
    simp only [Fm.sizes, Fm.nums]; omega
end
theorem Fm.err_cases {f : Fm} (h : f.ok = true) : f.err = 0 ∨ f.err = 4 := by
  unfold Fm.err
  rw [if_pos h]
  split
  · exact .inr rfl
  · exact .inl rfl
theorem Tm.err_cases {f : Tm} (h : f.ok = true) : f.err = 0 ∨ f.err = 4 := by
  unfold Tm.err
  rw [if_pos h]
  split
  · exact .inr rfl
  · exact .inl rfl
theorem Tm.err_ok {f : Tm} (h : f.err = 0) : f.ok = true ∧ f.num ≤ 4096 := by
  unfold Tm.err at h
  cases e : f.ok with
  | false => rw [e] at h; simp at h
  | true =>
    rw [e] at h
    simp only [if_true] at h
    refine ⟨rfl, ?_⟩
    split at h
    · simp at h
    · omega
theorem Fm.imp_num (a b : Fm) : (Fm.imp a b).num = a.num + b.num + 1 := by simp [Fm.imp, Fm.two, Fm.num, Fm.nums, Tm.nums]
theorem Fm.two_num (k : Int) (a b : Fm) : (Fm.two k a b).num = a.num + b.num + 1 := by simp [Fm.two, Fm.num, Fm.nums, Tm.nums]
theorem Fm.q_num (k : Int) (t : Ty) (a : Fm) : (Fm.q k t a).num = a.num + 1 := by simp [Fm.q, Fm.num, Fm.nums, Tm.nums]
theorem Fm.up1_num (a : Fm) : a.up1.num = a.num := Fm.up_num a 0
theorem Fm.Tr_num : ∀ (f a : Fm), f.ok = true → f.nu = true → ((f.Tr a).num : Int) = f.tsz a.num := by
  refine Fm.ind fun k t ts as ih a ho hn => ?_
  obtain ⟨hk6, hk7, hns⟩ := Fm.nu_mk hn
  obtain ⟨_, _, _, hos⟩ := Fm.ok_mk ho
  rcases Fm.shape ho with ⟨rfl, rfl, ⟨x, y, rfl⟩, rfl⟩ | ⟨hk, rfl, rfl, c, d, rfl⟩ | ⟨hk, _, rfl, c, rfl⟩
  · simp only [Fm.Tr, Fm.tsz, Fm.imp_num]
    simp
    omega
  · obtain ⟨h1, h2⟩ := Fm.oks_cons hos
    obtain ⟨h2, _⟩ := Fm.oks_cons h2
    simp only [Fm.nus, Bool.and_eq_true] at hns
    have i1 := ih c (by simp) a h1 hns.1
    have i2 := ih d (by simp) a h2 hns.2.1
    simp only [Fm.Tr, Fm.tsz, Fm.two_num, Fm.tszs]
    rw [if_neg (by omega), if_neg (by omega)]
    omega
  · obtain ⟨h1, _⟩ := Fm.oks_cons hos
    simp only [Fm.nus, Bool.and_eq_true] at hns
    have i1 := ih c (by simp) a.up1 h1 hns.1
    rw [Fm.up1_num] at i1
    rcases (show k = 4 ∨ k = 5 by omega) with rfl | rfl
    · simp only [Fm.Tr, Fm.tsz, Fm.tszs]
      rw [if_pos trivial, if_neg (by decide), if_neg (by decide), Fm.q_num]
      omega
    · simp only [Fm.Tr, Fm.tsz, Fm.tszs]
      rw [if_neg (by decide), if_neg (by decide), if_pos trivial, Fm.imp_num, Fm.q_num, Fm.imp_num, Fm.up1_num]
      omega
theorem Fm.two_ok {k : Int} (hk : k = 2 ∨ k = 3) {a b : Fm} (ha : a.ok = true) (hb : b.ok = true) : (Fm.two k a b).ok = true := by
  have hq : ¬ Fm.quant k := by unfold Fm.quant; omega
  simp [Fm.two, Fm.ok, Fm.oks, Tm.oks, Fm.tyOk, Ty.zero, hq, ha, hb, Fm.kindOk]; omega
theorem Fm.q_ok {k : Int} (hk : Fm.quant k) {t : Ty} (ht : t.err = 0) {a : Fm} (ha : a.ok = true) : (Fm.q k t a).ok = true := by
  simp [Fm.q, Fm.ok, Fm.oks, Tm.oks, Fm.tyOk, ht, hk, ha, Fm.kindOk]
theorem Fm.tyOk_err {k : Int} {t : Ty} (h : Fm.tyOk k t = true) (hk : Fm.quant k) : t.err = 0 := by
  unfold Fm.tyOk at h
  rw [decide_eq_true hk] at h
  simpa using h
theorem Fm.Tr_ok1 : ∀ (f a : Fm), f.ok = true → f.nu = true → a.ok = true → (f.Tr a).ok = true := by
  refine Fm.ind fun k t ts as ih a ho hn ha => ?_
  obtain ⟨hk6, hk7, hns⟩ := Fm.nu_mk hn
  obtain ⟨_, ht, _, hos⟩ := Fm.ok_mk ho
  have ha1 : a.up1.ok = true := Fm.ups1_ok ha 1
  rcases Fm.shape ho with ⟨rfl, rfl, ⟨x, y, rfl⟩, rfl⟩ | ⟨hk, rfl, rfl, c, d, rfl⟩ | ⟨hk, _, rfl, c, rfl⟩
  · exact Fm.two_ok (.inr rfl) (Fm.two_ok (.inr rfl) ho ha) ha
  · obtain ⟨h1, h2⟩ := Fm.oks_cons hos
    obtain ⟨h2, _⟩ := Fm.oks_cons h2
    simp only [Fm.nus, Bool.and_eq_true] at hns
    exact Fm.two_ok hk (ih c (by simp) a h1 hns.1 ha) (ih d (by simp) a h2 hns.2.1 ha)
  · obtain ⟨h1, _⟩ := Fm.oks_cons hos
    simp only [Fm.nus, Bool.and_eq_true] at hns
    have i1 := ih c (by simp) a.up1 h1 hns.1 ha1
    have hk' : k = 4 ∨ k = 5 := by omega
    have hq4 : Fm.quant 4 := .inl rfl
    have ht0 : t.err = 0 := Fm.tyOk_err ht (by unfold Fm.quant; omega)
    simp only [Fm.Tr]
    rcases hk' with rfl | rfl
    · simp only [if_true]
      exact Fm.q_ok hq4 ht0 i1
    · rw [if_neg (by decide)]
      exact Fm.two_ok (.inr rfl) (Fm.q_ok hq4 ht0 (Fm.two_ok (.inr rfl) i1 ha1)) ha
mutual
def Tm.sc : Tm → Int → Prop
  | .mk k i _ as, n => (k = 1 → i < n) ∧ Tm.scs as (n + Tm.bnd k)
def Tm.scs : List Tm → Int → Prop
  | [], _ => True
  | t :: ts, n => t.sc n ∧ Tm.scs ts n
end
mutual
def Fm.sc : Fm → Int → Prop
  | .mk k _ ts as, n => Tm.scs ts n ∧ Fm.scs as (n + Fm.bnd k)
def Fm.scs : List Fm → Int → Prop
  | [], _ => True
  | t :: ts, n => t.sc n ∧ Fm.scs ts n
end
theorem Tm.bnd_pos (k : Int) : 0 ≤ Tm.bnd k ∧ Tm.bnd k ≤ 1 := by unfold Tm.bnd; split <;> omega
theorem Fm.bnd_pos (k : Int) : 0 ≤ Fm.bnd k ∧ Fm.bnd k ≤ 1 := by unfold Fm.bnd; split <;> omega
mutual
theorem Tm.up_sc : ∀ (t : Tm) (n fr d : Int), t.sc n → n ≤ fr → t.up fr d = t
  | .mk k i t as, n, fr, d, h, hn => by
    simp only [Tm.sc] at h
    simp only [Tm.up, Tm.ups_sc as _ _ d h.2 (Int.add_le_add_right hn _)]
    rw [if_neg (fun h' => by have := h.1 h'.1; omega)]
theorem Tm.ups_sc : ∀ (ts : List Tm) (n fr d : Int), Tm.scs ts n → n ≤ fr → Tm.ups ts fr d = ts
  | [], _, _, _, _, _ => rfl
  | t :: ts, n, fr, d, h, hn => by
    simp only [Tm.scs] at h
    simp only [Tm.ups, Tm.up_sc t n fr d h.1 hn, Tm.ups_sc ts n fr d h.2 hn]
end
mutual
theorem Fm.up_sc : ∀ (t : Fm) (n fr d : Int), t.sc n → n ≤ fr → t.up fr d = t
  | .mk k t ts as, n, fr, d, h, hn => by
    simp only [Fm.sc] at h
    simp only [Fm.up, Tm.ups_sc ts n fr d h.1 hn, Fm.ups_sc as _ _ d h.2 (Int.add_le_add_right hn _)]
theorem Fm.ups_sc : ∀ (ts : List Fm) (n fr d : Int), Fm.scs ts n → n ≤ fr → Fm.ups ts fr d = ts
  | [], _, _, _, _, _ => rfl
  | t :: ts, n, fr, d, h, hn => by
    simp only [Fm.scs] at h
    simp only [Fm.ups, Fm.up_sc t n fr d h.1 hn, Fm.ups_sc ts n fr d h.2 hn]
end
mutual
theorem Tm.inn_sc {s : Tm} : ∀ (t : Tm) (n p d : Int), t.sc n → n ≤ p + d → t.inn p d s = t
  | .mk k i t as, n, p, d, h, hn => by
    simp only [Tm.sc] at h
    simp only [Tm.inn]
    by_cases hk : k = 1
    · rw [if_pos hk]
      have := h.1 hk
      rw [if_neg (by omega), if_neg (by omega)]
    · rw [if_neg hk, Tm.inns_sc as _ p _ h.2 (by omega)]
theorem Tm.inns_sc {s : Tm} : ∀ (ts : List Tm) (n p d : Int), Tm.scs ts n → n ≤ p + d → Tm.inns ts p d s = ts
  | [], _, _, _, _, _ => rfl
  | t :: ts, n, p, d, h, hn => by
    simp only [Tm.scs] at h
    simp only [Tm.inns, Tm.inn_sc t n p d h.1 hn, Tm.inns_sc ts n p d h.2 hn]
end
mutual
theorem Fm.inn_sc {s : Tm} : ∀ (t : Fm) (n p d : Int), t.sc n → n ≤ p + d → t.inn p d s = t
  | .mk k t ts as, n, p, d, h, hn => by
    simp only [Fm.sc] at h
    simp only [Fm.inn, Tm.inns_sc ts n p d h.1 hn, Fm.inns_sc as _ p _ h.2 (show n + Fm.bnd k ≤ p + (d + Fm.bnd k) by omega)]
theorem Fm.inns_sc {s : Tm} : ∀ (ts : List Fm) (n p d : Int), Fm.scs ts n → n ≤ p + d → Fm.inns ts p d s = ts
  | [], _, _, _, _, _ => rfl
  | t :: ts, n, p, d, h, hn => by
    simp only [Fm.scs] at h
    simp only [Fm.inns, Fm.inn_sc t n p d h.1 hn, Fm.inns_sc ts n p d h.2 hn]
end
mutual
theorem Tm.least_sc {m : Int} : ∀ (t : Tm) (n : Int), t.ok = true → t.sc n → 0 ≤ n → n + t.size ≤ m → t.least m = true
  | .mk k i t as, n, ho, h, h0, hm => by
    obtain ⟨_, e2, e3, _, e5⟩ := Tm.ok_mk ho
    simp only [Tm.sc] at h
    simp only [Tm.size] at hm
    have hb := Tm.bnd_pos k
    simp only [Tm.least, Tm.leasts_sc (m := m) as _ e5 h.2 (by omega) (show n + Tm.bnd k + Tm.sizes as ≤ m by omega), Bool.and_true, decide_eq_true_eq]
    rcases e3 with e3 | e3
    · have := h.1 e3; omega
    · omega
theorem Tm.leasts_sc {m : Int} : ∀ (ts : List Tm) (n : Int), Tm.oks ts = true → Tm.scs ts n → 0 ≤ n → n + Tm.sizes ts ≤ m → Tm.leasts ts m = true
  | [], _, _, _, _, _ => rfl
  | t :: ts, n, ho, h, h0, hm => by
    obtain ⟨h1, h2⟩ := Tm.oks_cons ho
    simp only [Tm.scs] at h
    simp only [Tm.sizes] at hm
    simp only [Tm.leasts, Tm.least_sc (m := m) t n h1 h.1 h0 (by omega), Tm.leasts_sc (m := m) ts n h2 h.2 h0 (by omega), Bool.and_true]
end
mutual
theorem Fm.least_sc {m : Int} : ∀ (t : Fm) (n : Int), t.ok = true → t.sc n → 0 ≤ n → n + t.size ≤ m → t.least m = true
  | .mk k t ts as, n, ho, h, h0, hm => by
    obtain ⟨_, _, e4, e5⟩ := Fm.ok_mk ho
    simp only [Fm.sc] at h
    simp only [Fm.size] at hm
    have hb := Fm.bnd_pos k
    simp only [Fm.least, Tm.leasts_sc (m := m) ts n e4 h.1 h0 (by omega), Fm.leasts_sc (m := m) as _ e5 h.2 (by omega) (show n + Fm.bnd k + Fm.sizes as ≤ m by omega), Bool.and_true]
theorem Fm.leasts_sc {m : Int} : ∀ (ts : List Fm) (n : Int), Fm.oks ts = true → Fm.scs ts n → 0 ≤ n → n + Fm.sizes ts ≤ m → Fm.leasts ts m = true
  | [], _, _, _, _, _ => rfl
  | t :: ts, n, ho, h, h0, hm => by
    obtain ⟨h1, h2⟩ := Fm.oks_cons ho
    simp only [Fm.scs] at h
    simp only [Fm.sizes] at hm
    simp only [Fm.leasts, Fm.least_sc (m := m) t n h1 h.1 h0 (by omega), Fm.leasts_sc (m := m) ts n h2 h.2 h0 (by omega), Bool.and_true]
end
mutual
theorem Tm.inf_sc : ∀ (t : Tm) (r : List Ty) (u : Ty), t.ok = true → t.inf r = .ok u → t.sc r.length
  | .mk k i t as, r, u, ho, h => by
    obtain ⟨e1, e2, e3, _, e5⟩ := Tm.ok_mk ho
    have hw := Tm.want_cases e1
    unfold Tm.inf at h
    simp only [Tm.sc]
    by_cases h1 : k = 1
    · rw [if_pos h1] at h
      have has := len0 (l := as) (by omega)
      subst has
      split at h
      · rename_i v hv
        have := (List.getElem?_eq_some_iff.1 hv).1
        exact ⟨fun _ => by omega, trivial⟩
      · cases h
    rw [if_neg h1] at h
    refine ⟨fun h' => absurd h' h1, ?_⟩
    by_cases h2 : k = 2
    · rw [if_pos h2] at h
      split at h
      · rename_i v hv
        have := Tm.infs_sc as (t :: r) _ e5 hv
        rw [show Tm.bnd k = 1 by rw [h2]; rfl]
        simpa using this
      · cases h
      · cases h
    rw [if_neg h2] at h
    split at h
    · rename_i l hl
      have := Tm.infs_sc as r _ e5 hl
      rw [show Tm.bnd k = 0 by unfold Tm.bnd; rw [if_neg h2]]
      simpa using this
    · cases h
theorem Tm.infs_sc : ∀ (ts : List Tm) (r l : List Ty), Tm.oks ts = true → Tm.infs ts r = .ok l → Tm.scs ts r.length
  | [], r, l, _, _ => trivial
  | t :: ts, r, l, ho, h => by
    obtain ⟨h1, h2⟩ := Tm.oks_cons ho
    simp only [Tm.infs] at h
    split at h
    · cases h
    · rename_i u hu
      split at h
      · cases h
      · rename_i l' hl'
        exact ⟨Tm.inf_sc t r u h1 hu, Tm.infs_sc ts r l' h2 hl'⟩
end
theorem Tm.natE_sc : ∀ (ts : List Tm) (r : List Ty), Tm.oks ts = true → Tm.natE ts r = 0 → Tm.scs ts r.length
  | [], r, _, _ => trivial
  | t :: ts, r, ho, h => by
    obtain ⟨h1, h2⟩ := Tm.oks_cons ho
    simp only [Tm.natE] at h
    split at h
    · rename_i e he
      have := Tm.inf_ne t r e he
      omega
    · rename_i u hu
      split at h
      · omega
      · exact ⟨Tm.inf_sc t r u h1 hu, Tm.natE_sc ts r h2 h⟩
theorem Fm.tyE_mk {k : Int} {t : Ty} {ts : List Tm} {as : List Fm} {r : List Ty} (h : (Fm.mk k t ts as).tyE r = 0) : Tm.natE ts r = 0 ∧ Fm.tyEs as (if Fm.quant k then t :: r else r) = 0 := by
  simp only [Fm.tyE] at h
  split at h
  · omega
  · rename_i h1
    exact ⟨by omega, h⟩
theorem Fm.tyEs_cons {f : Fm} {fs : List Fm} {r : List Ty} (h : Fm.tyEs (f :: fs) r = 0) : f.tyE r = 0 ∧ Fm.tyEs fs r = 0 := by
  simp only [Fm.tyEs] at h
  split at h
  · omega
  · rename_i h1
    exact ⟨by omega, h⟩
mutual
theorem Fm.tyE_sc : ∀ (f : Fm) (r : List Ty), f.ok = true → f.tyE r = 0 → f.sc r.length
  | .mk k t ts as, r, ho, h => by
    obtain ⟨_, _, e4, e5⟩ := Fm.ok_mk ho
    obtain ⟨h1, h2⟩ := Fm.tyE_mk h
    simp only [Fm.sc]
    refine ⟨Tm.natE_sc ts r e4 h1, ?_⟩
    have := Fm.tyEs_sc as _ e5 h2
    by_cases hq : Fm.quant k
    · rw [if_pos hq] at this
      rw [show Fm.bnd k = 1 by unfold Fm.bnd; rw [if_pos hq]]
      simpa using this
    · rw [if_neg hq] at this
      rw [show Fm.bnd k = 0 by unfold Fm.bnd; rw [if_neg hq]]
      simpa using this
theorem Fm.tyEs_sc : ∀ (fs : List Fm) (r : List Ty), Fm.oks fs = true → Fm.tyEs fs r = 0 → Fm.scs fs r.length
  | [], r, _, _ => trivial
  | f :: fs, r, ho, h => by
    obtain ⟨h1, h2⟩ := Fm.oks_cons ho
    obtain ⟨h3, h4⟩ := Fm.tyEs_cons h
    exact ⟨Fm.tyE_sc f r h1 h3, Fm.tyEs_sc fs r h2 h4⟩
end
mutual
theorem Tm.inf_app (r' : List Ty) : ∀ (t : Tm) (r : List Ty) (u : Ty), t.inf r = .ok u → t.inf (r ++ r') = .ok u
  | .mk k i t as, r, u, h => by
    unfold Tm.inf at h ⊢
    by_cases h1 : k = 1
    · rw [if_pos h1] at h ⊢
      split at h
      · rename_i v hv
        have := (List.getElem?_eq_some_iff.1 hv).1
        rw [List.getElem?_append_left this, hv]
        exact h
      · cases h
    rw [if_neg h1] at h ⊢
    by_cases h2 : k = 2
    · rw [if_pos h2] at h ⊢
      split at h
      · rename_i v hv
        have := Tm.infs_app r' as (t :: r) _ hv
        rw [List.cons_append] at this
        rw [this]
        exact h
      · cases h
      · cases h
    rw [if_neg h2] at h ⊢
    split at h
    · rename_i l hl
      rw [Tm.infs_app r' as r _ hl]
      exact h
    · cases h
theorem Tm.infs_app (r' : List Ty) : ∀ (ts : List Tm) (r l : List Ty), Tm.infs ts r = .ok l → Tm.infs ts (r ++ r') = .ok l
  | [], r, l, h => h
  | t :: ts, r, l, h => by
    simp only [Tm.infs] at h ⊢
    split at h
    · cases h
    · rename_i u hu
      rw [Tm.inf_app r' t r u hu]
      split at h
      · cases h
      · rename_i l' hl'
        rw [Tm.infs_app r' ts r l' hl']
        exact h
end
theorem Tm.natE_app (r' : List Ty) : ∀ (ts : List Tm) (r : List Ty), Tm.natE ts r = 0 → Tm.natE ts (r ++ r') = 0
  | [], r, _ => rfl
  | t :: ts, r, h => by
    simp only [Tm.natE] at h ⊢
    split at h
    · rename_i e he
      have := Tm.inf_ne t r e he
      omega
    · rename_i u hu
      rw [Tm.inf_app r' t r u hu]
      dsimp only
      split at h
      · omega
      · rename_i hk
        rw [if_neg hk]
        exact Tm.natE_app r' ts r h
mutual
theorem Fm.tyE_app (r' : List Ty) : ∀ (f : Fm) (r : List Ty), f.tyE r = 0 → f.tyE (r ++ r') = 0
  | .mk k t ts as, r, h => by
    obtain ⟨h1, h2⟩ := Fm.tyE_mk h
    have h3 := Tm.natE_app r' ts r h1
    simp only [Fm.tyE, h3]
    rw [if_neg (by simp)]
    by_cases hq : Fm.quant k
    · rw [if_pos hq] at h2 ⊢
      exact Fm.tyEs_app r' as (t :: r) h2
    · rw [if_neg hq] at h2 ⊢
      exact Fm.tyEs_app r' as r h2
theorem Fm.tyEs_app (r' : List Ty) : ∀ (fs : List Fm) (r : List Ty), Fm.tyEs fs r = 0 → Fm.tyEs fs (r ++ r') = 0
  | [], r, _ => rfl
  | f :: fs, r, h => by
    obtain ⟨h3, h4⟩ := Fm.tyEs_cons h
    simp only [Fm.tyEs, Fm.tyE_app r' f r h3]
    rw [if_neg (by simp)]
    exact Fm.tyEs_app r' fs r h4
end
end Eng

namespace Eng
open Go
theorem Fm.up1_sc {a : Fm} (h : a.sc 0) : a.up1 = a := Fm.up_sc a 0 0 1 h (by omega)
theorem Fm.bnd_q {k : Int} (h : k = 4 ∨ k = 5) : Fm.bnd k = 1 := by unfold Fm.bnd; rw [if_pos (by unfold Fm.quant; omega)]
theorem Fm.bnd_n {k : Int} (h : k = 1 ∨ k = 2 ∨ k = 3) : Fm.bnd k = 0 := by unfold Fm.bnd; rw [if_neg (by unfold Fm.quant; omega)]
theorem Fm.two_inn {k : Int} (hk : k = 2 ∨ k = 3) (a b : Fm) (p d : Int) (s : Tm) : (Fm.two k a b).inn p d s = Fm.two k (a.inn p d s) (b.inn p d s) := by
  simp only [Fm.two, Fm.inn, Fm.inns, Tm.inns, Fm.bnd_n (show k = 1 ∨ k = 2 ∨ k = 3 by omega), Int.add_zero]
theorem Fm.imp_inn (a b : Fm) (p d : Int) (s : Tm) : (Fm.imp a b).inn p d s = Fm.imp (a.inn p d s) (b.inn p d s) := Fm.two_inn (.inr rfl) a b p d s
theorem Fm.q_inn {k : Int} (hk : k = 4 ∨ k = 5) (t : Ty) (a : Fm) (p d : Int) (s : Tm) : (Fm.q k t a).inn p d s = Fm.q k t (a.inn p (d + 1) s) := by
  simp only [Fm.q, Fm.inn, Fm.inns, Tm.inns, Fm.bnd_q hk]
theorem Fm.Tr_inn {a : Fm} (ha : a.sc 0) (s : Tm) : ∀ (f : Fm), f.ok = true → f.nu = true → ∀ (d : Int), 0 ≤ d → (f.Tr a).inn 0 d s = (f.inn 0 d s).Tr a := by
  refine Fm.ind fun k t ts as ih ho hn d hd => ?_
  obtain ⟨hk6, hk7, hns⟩ := Fm.nu_mk hn
  obtain ⟨_, _, _, hos⟩ := Fm.ok_mk ho
  have hai : ∀ d : Int, 0 ≤ d → a.inn 0 d s = a := fun d hd => Fm.inn_sc a 0 0 d ha (by omega)
  have ha1 := Fm.up1_sc ha
  rcases Fm.shape ho with ⟨rfl, rfl, ⟨x, y, rfl⟩, rfl⟩ | ⟨hk, rfl, rfl, c, e, rfl⟩ | ⟨hk, _, rfl, c, rfl⟩
  · simp only [Fm.Tr, Fm.imp_inn, hai d hd]
    simp only [Fm.inn, Fm.inns, Fm.Tr]
  · obtain ⟨h1, h2⟩ := Fm.oks_cons hos
    obtain ⟨h2, _⟩ := Fm.oks_cons h2
    simp only [Fm.nus, Bool.and_eq_true] at hns
    have i1 := ih c (by simp) h1 hns.1 d hd
    have i2 := ih e (by simp) h2 hns.2.1 d hd
    simp only [Fm.Tr, Fm.two_inn hk, i1, i2]
    simp only [Fm.inn, Fm.inns, Tm.inns, Fm.Tr, Fm.bnd_n (show k = 1 ∨ k = 2 ∨ k = 3 by omega), Int.add_zero]
  · obtain ⟨h1, _⟩ := Fm.oks_cons hos
    simp only [Fm.nus, Bool.and_eq_true] at hns
    have i1 := ih c (by simp) h1 hns.1 (d + 1) (by omega)
    have hk' : k = 4 ∨ k = 5 := by omega
    simp only [Fm.inn, Fm.inns, Tm.inns, Fm.Tr, ha1, Fm.bnd_q hk']
    rcases hk' with rfl | rfl
    · simp only [if_true]
      rw [Fm.q_inn (.inl rfl), i1]
    · rw [if_neg (by decide), if_neg (by decide), Fm.imp_inn, Fm.q_inn (.inl rfl), Fm.imp_inn, i1, hai d hd, hai (d + 1) (by omega)]
theorem Tm.var_ok {i : Int} (h : 0 ≤ i) : (Tm.var i).ok = true := by simp [Tm.var, Tm.ok, Tm.oks, Tm.want, Tm.tyOk, Ty.zero, h]
mutual
theorem Tm.inn_ok {s : Tm} (hs : s.ok = true) : ∀ (t : Tm) (p d : Int), t.ok = true → 0 ≤ p → 0 ≤ d → (t.inn p d s).ok = true
  | .mk k i t as, p, d, h, hp, hd => by
    have h' := h
    obtain ⟨e1, e2, e3, e4, e5⟩ := Tm.ok_mk h
    simp only [Tm.inn]
    by_cases hk : k = 1
    · rw [if_pos hk]
      split
      · exact Tm.up_ok (fr := 0) (by omega) s hs 0
      · split
        · exact Tm.var_ok (by omega)
        · exact h'
    · rw [if_neg hk]
      have hb := Tm.bnd_pos k
      have := Tm.inns_ok hs as p (d + Tm.bnd k) e5 hp (by omega)
      simp only [Tm.ok, Tm.inns_len, this, e4, Bool.and_true, decide_eq_true_eq]
      exact ⟨e1, e2, e3⟩
theorem Tm.inns_ok {s : Tm} (hs : s.ok = true) : ∀ (ts : List Tm) (p d : Int), Tm.oks ts = true → 0 ≤ p → 0 ≤ d → Tm.oks (Tm.inns ts p d s) = true
  | [], _, _, _, _, _ => rfl
  | t :: ts, p, d, h, hp, hd => by
    obtain ⟨h1, h2⟩ := Tm.oks_cons h
    simp only [Tm.inns, Tm.oks, Tm.inn_ok hs t p d h1 hp hd, Tm.inns_ok hs ts p d h2 hp hd, Bool.and_true]
end
mutual
theorem Fm.inn_ok {s : Tm} (hs : s.ok = true) : ∀ (t : Fm) (p d : Int), t.ok = true → 0 ≤ p → 0 ≤ d → (t.inn p d s).ok = true
  | .mk k t ts as, p, d, h, hp, hd => by
    obtain ⟨e1, e2, e3, e4⟩ := Fm.ok_mk h
    have hb := Fm.bnd_pos k
    simp only [Fm.inn, Fm.ok, Tm.inns_len, Fm.inns_len, e2, Tm.inns_ok hs ts p d e3 hp hd, Fm.inns_ok hs as p (d + Fm.bnd k) e4 hp (by omega), Bool.and_true, decide_eq_true e1]
theorem Fm.inns_ok {s : Tm} (hs : s.ok = true) : ∀ (ts : List Fm) (p d : Int), Fm.oks ts = true → 0 ≤ p → 0 ≤ d → Fm.oks (Fm.inns ts p d s) = true
  | [], _, _, _, _, _ => rfl
  | t :: ts, p, d, h, hp, hd => by
    obtain ⟨h1, h2⟩ := Fm.oks_cons h
    simp only [Fm.inns, Fm.oks, Fm.inn_ok hs t p d h1 hp hd, Fm.inns_ok hs ts p d h2 hp hd, Bool.and_true]
end
mutual
theorem Fm.inn_nu {s : Tm} : ∀ (t : Fm) (p d : Int), (t.inn p d s).nu = t.nu
  | .mk k t ts as, p, d => by simp only [Fm.inn, Fm.nu, Fm.inns_nu as p (d + Fm.bnd k)]
theorem Fm.inns_nu {s : Tm} : ∀ (ts : List Fm) (p d : Int), Fm.nus (Fm.inns ts p d s) = Fm.nus ts
  | [], _, _ => rfl
  | t :: ts, p, d => by simp only [Fm.inns, Fm.nus, Fm.inn_nu t p d, Fm.inns_nu ts p d]
end
mutual
theorem Tm.inn_num {s : Tm} : ∀ (t : Tm) (p d : Int), t.ok = true → ((t.inn p d s).num : Int) = t.num + t.times (p + d) * (s.num - 1)
  | .mk k i t as, p, d, h => by
    obtain ⟨e1, _, _, _, e5⟩ := Tm.ok_mk h
    have hw := Tm.want_cases e1
    simp only [Tm.inn]
    by_cases hk : k = 1
    · obtain rfl := len0 (l := as) (by omega)
      rw [if_pos hk]
      simp only [Tm.times, Tm.timess, Tm.num, Tm.nums]
      by_cases hi : i = p + d
      · rw [if_pos hi, if_pos ⟨hk, hi⟩, Tm.up_num]
        simp
        omega
      · rw [if_neg hi, if_neg (show ¬ (k = 1 ∧ i = p + d) from fun h => hi h.2)]
        split <;> simp [Tm.var, Tm.num, Tm.nums]
    · rw [if_neg hk]
      have := Tm.inns_num (s := s) as p (d + Tm.bnd k) e5
      rw [← Int.add_assoc] at this
      simp only [Tm.times, Tm.num]
      rw [if_neg (show ¬ (k = 1 ∧ i = p + d) from fun h => hk h.1)]
      simp only [Nat.zero_add]
      omega
theorem Tm.inns_num {s : Tm} : ∀ (ts : List Tm) (p d : Int), Tm.oks ts = true → ((Tm.nums (Tm.inns ts p d s) : Nat) : Int) = Tm.nums ts + Tm.timess ts (p + d) * (s.num - 1)
  | [], _, _, _ => by simp [Tm.inns, Tm.nums, Tm.timess]
  | t :: ts, p, d, h => by
    obtain ⟨h1, h2⟩ := Tm.oks_cons h
    have a1 := Tm.inn_num (s := s) t p d h1
    have a2 := Tm.inns_num (s := s) ts p d h2
    simp only [Tm.inns, Tm.nums, Tm.timess, Int.natCast_add, Int.add_mul]
    omega
end
mutual
theorem Fm.inn_num {s : Tm} : ∀ (t : Fm) (p d : Int), t.ok = true → ((t.inn p d s).num : Int) = t.num + t.times (p + d) * (s.num - 1)
  | .mk k t ts as, p, d, h => by
    obtain ⟨_, _, e4, e5⟩ := Fm.ok_mk h
    have a1 := Tm.inns_num (s := s) ts p d e4
    have a2 := Fm.inns_num (s := s) as p (d + Fm.bnd k) e5
    rw [← Int.add_assoc] at a2
    simp only [Fm.inn, Fm.num, Fm.times, Int.natCast_add, Int.add_mul]
    omega
theorem Fm.inns_num {s : Tm} : ∀ (ts : List Fm) (p d : Int), Fm.oks ts = true → ((Fm.nums (Fm.inns ts p d s) : Nat) : Int) = Fm.nums ts + Fm.timess ts (p + d) * (s.num - 1)
  | [], _, _, _ => by simp [Fm.inns, Fm.nums, Fm.timess]
  | t :: ts, p, d, h => by
    obtain ⟨h1, h2⟩ := Fm.oks_cons h
    have a1 := Fm.inn_num (s := s) t p d h1
    have a2 := Fm.inns_num (s := s) ts p d h2
    simp only [Fm.inns, Fm.nums, Fm.timess, Int.natCast_add, Int.add_mul]
    omega
end
mutual
def Tm.has : Tm → Int → Int → Prop
  | .mk k i _ as, x, d => (k = 1 ∧ d ≤ i ∧ x = i - d) ∨ Tm.hass as x (d + Tm.bnd k)
def Tm.hass : List Tm → Int → Int → Prop
  | [], _, _ => False
  | t :: ts, x, d => t.has x d ∨ Tm.hass ts x d
end
mutual
def Fm.has : Fm → Int → Int → Prop
  | .mk k _ ts as, x, d => Tm.hass ts x d ∨ Fm.hass as x (d + Fm.bnd k)
def Fm.hass : List Fm → Int → Int → Prop
  | [], _, _ => False
  | t :: ts, x, d => t.has x d ∨ Fm.hass ts x d
end
mutual
theorem Tm.mem_mark {x : Int} : ∀ (t : Tm) (d : Int) (ks : List Int), x ∈ t.mark d ks ↔ x ∈ ks ∨ t.has x d
  | .mk k i t as, d, ks => by
    simp only [Tm.mark, Tm.mem_marks as, Tm.has]
    by_cases h : k = 1 ∧ d ≤ i
    · rw [if_pos h, mem_insK]
      constructor
      · rintro ((h1 | h1) | h1)
        · exact .inl h1
        · exact .inr (.inl ⟨h.1, h.2, h1⟩)
        · exact .inr (.inr h1)
      · rintro (h1 | ⟨_, _, h1⟩ | h1)
        · exact .inl (.inl h1)
        · exact .inl (.inr h1)
        · exact .inr h1
    · rw [if_neg h]
      constructor
      · rintro (h1 | h1)
        · exact .inl h1
        · exact .inr (.inr h1)
      · rintro (h1 | ⟨h1, h2, _⟩ | h1)
        · exact .inl h1
        · exact absurd ⟨h1, h2⟩ h
        · exact .inr h1
theorem Tm.mem_marks {x : Int} : ∀ (ts : List Tm) (d : Int) (ks : List Int), x ∈ Tm.marks ts d ks ↔ x ∈ ks ∨ Tm.hass ts x d
  | [], d, ks => by simp [Tm.marks, Tm.hass]
  | t :: ts, d, ks => by simp only [Tm.marks, Tm.mem_marks ts, Tm.mem_mark t, Tm.hass, or_assoc]
end
mutual
theorem Fm.mem_mark {x : Int} : ∀ (t : Fm) (d : Int) (ks : List Int), x ∈ t.mark d ks ↔ x ∈ ks ∨ t.has x d
  | .mk k t ts as, d, ks => by simp only [Fm.mark, Fm.mem_marks as, Tm.mem_marks ts, Fm.has, or_assoc]
theorem Fm.mem_marks {x : Int} : ∀ (ts : List Fm) (d : Int) (ks : List Int), x ∈ Fm.marks ts d ks ↔ x ∈ ks ∨ Fm.hass ts x d
  | [], d, ks => by simp [Fm.marks, Fm.hass]
  | t :: ts, d, ks => by simp only [Fm.marks, Fm.mem_marks ts, Fm.mem_mark t, Fm.hass, or_assoc]
end
mutual
theorem Tm.nodup_mark : ∀ (t : Tm) (d : Int) (ks : List Int), ks.Nodup → (t.mark d ks).Nodup
  | .mk k i t as, d, ks, h => by
    simp only [Tm.mark]
    refine Tm.nodup_marks as _ _ ?_
    split
    · exact nodup_insK h
    · exact h
theorem Tm.nodup_marks : ∀ (ts : List Tm) (d : Int) (ks : List Int), ks.Nodup → (Tm.marks ts d ks).Nodup
  | [], d, ks, h => h
  | t :: ts, d, ks, h => Tm.nodup_marks ts d _ (Tm.nodup_mark t d ks h)
end
mutual
theorem Fm.nodup_mark : ∀ (t : Fm) (d : Int) (ks : List Int), ks.Nodup → (t.mark d ks).Nodup
  | .mk k t ts as, d, ks, h => Fm.nodup_marks as _ _ (Tm.nodup_marks ts d ks h)
theorem Fm.nodup_marks : ∀ (ts : List Fm) (d : Int) (ks : List Int), ks.Nodup → (Fm.marks ts d ks).Nodup
  | [], d, ks, h => h
  | t :: ts, d, ks, h => Fm.nodup_marks ts d _ (Fm.nodup_mark t d ks h)
end
mutual
theorem Tm.has_sc {x : Int} : ∀ (t : Tm) (n d : Int), t.sc n → n ≤ d → ¬ t.has x d
  | .mk k i t as, n, d, h, hn, hh => by
    simp only [Tm.sc] at h
    simp only [Tm.has] at hh
    rcases hh with ⟨h1, h2, _⟩ | hh
    · have := h.1 h1; omega
    · exact Tm.hass_sc as _ _ h.2 (by omega) hh
theorem Tm.hass_sc {x : Int} : ∀ (ts : List Tm) (n d : Int), Tm.scs ts n → n ≤ d → ¬ Tm.hass ts x d
  | [], _, _, _, _, h => h
  | t :: ts, n, d, h, hn, hh => by
    simp only [Tm.hass] at hh
    rcases hh with hh | hh
    · exact Tm.has_sc t n d h.1 hn hh
    · exact Tm.hass_sc ts n d h.2 hn hh
end
mutual
theorem Fm.has_sc {x : Int} : ∀ (t : Fm) (n d : Int), t.sc n → n ≤ d → ¬ t.has x d
  | .mk k t ts as, n, d, h, hn, hh => by
    simp only [Fm.sc] at h
    simp only [Fm.has] at hh
    rcases hh with hh | hh
    · exact Tm.hass_sc ts n d h.1 hn hh
    · exact Fm.hass_sc as _ _ h.2 (show n + Fm.bnd k ≤ d + Fm.bnd k by omega) hh
theorem Fm.hass_sc {x : Int} : ∀ (ts : List Fm) (n d : Int), Fm.scs ts n → n ≤ d → ¬ Fm.hass ts x d
  | [], _, _, _, _, h => h
  | t :: ts, n, d, h, hn, hh => by
    simp only [Fm.hass] at hh
    rcases hh with hh | hh
    · exact Fm.has_sc t n d h.1 hn hh
    · exact Fm.hass_sc ts n d h.2 hn hh
end
theorem Fm.has_two {k : Int} (hk : k = 2 ∨ k = 3) (a b : Fm) (x d : Int) : (Fm.two k a b).has x d ↔ a.has x d ∨ b.has x d := by
  simp only [Fm.two, Fm.has, Fm.hass, Tm.hass, Fm.bnd_n (show k = 1 ∨ k = 2 ∨ k = 3 by omega), Int.add_zero, false_or, or_false]
theorem Fm.has_imp (a b : Fm) (x d : Int) : (Fm.imp a b).has x d ↔ a.has x d ∨ b.has x d := Fm.has_two (.inr rfl) a b x d
theorem Fm.has_q {k : Int} (hk : k = 4 ∨ k = 5) (t : Ty) (a : Fm) (x d : Int) : (Fm.q k t a).has x d ↔ a.has x (d + 1) := by
  simp only [Fm.q, Fm.has, Fm.hass, Tm.hass, Fm.bnd_q hk, false_or, or_false]
theorem Fm.has_Tr {a : Fm} (ha : a.sc 0) {x : Int} : ∀ (f : Fm), f.ok = true → f.nu = true → ∀ (d : Int), 0 ≤ d → ((f.Tr a).has x d ↔ f.has x d) := by
  refine Fm.ind fun k t ts as ih ho hn d hd => ?_
  obtain ⟨hk6, hk7, hns⟩ := Fm.nu_mk hn
  obtain ⟨_, _, _, hos⟩ := Fm.ok_mk ho
  have hai : ∀ d : Int, 0 ≤ d → (a.has x d ↔ False) := fun d hd => ⟨fun h => Fm.has_sc a 0 d ha hd h, False.elim⟩
  have ha1 := Fm.up1_sc ha
  rcases Fm.shape ho with ⟨rfl, rfl, ⟨y, z, rfl⟩, rfl⟩ | ⟨hk, rfl, rfl, c, e, rfl⟩ | ⟨hk, _, rfl, c, rfl⟩
  · simp only [Fm.Tr, Fm.has_imp, hai d hd, or_false]
  · obtain ⟨h1, h2⟩ := Fm.oks_cons hos
    obtain ⟨h2, _⟩ := Fm.oks_cons h2
    simp only [Fm.nus, Bool.and_eq_true] at hns
    have i1 := ih c (by simp) h1 hns.1 d hd
    have i2 := ih e (by simp) h2 hns.2.1 d hd
    simp only [Fm.Tr, Fm.has_two hk, i1, i2]
    simp only [Fm.has, Fm.hass, Tm.hass, Fm.bnd_n (show k = 1 ∨ k = 2 ∨ k = 3 by omega), Int.add_zero, false_or, or_false]
  · obtain ⟨h1, _⟩ := Fm.oks_cons hos
    simp only [Fm.nus, Bool.and_eq_true] at hns
    have i1 := ih c (by simp) h1 hns.1 (d + 1) (by omega)
    have hk' : k = 4 ∨ k = 5 := by omega
    have e1 : (Fm.mk k t [] [c]).has x d ↔ c.has x (d + 1) := by simp only [Fm.has, Fm.hass, Tm.hass, Fm.bnd_q hk', false_or, or_false]
    rw [e1]
    simp only [Fm.Tr, ha1]
    rcases hk' with rfl | rfl
    · simp only [if_true]
      rw [Fm.has_q (.inl rfl), i1]
    · rw [if_neg (by decide), Fm.has_imp, Fm.has_q (.inl rfl), Fm.has_imp, i1, hai d hd, hai (d + 1) (by omega), or_false, or_false]
theorem Fm.uses_Tr {a f : Fm} (ha : a.sc 0) (ho : f.ok = true) (hn : f.nu = true) : sortK ((f.Tr a).mark 0 []) = sortK (f.mark 0 []) := by
  refine sortK_ext (Fm.nodup_mark _ _ _ List.nodup_nil) (Fm.nodup_mark _ _ _ List.nodup_nil) fun x => ?_
  simp only [Fm.mem_mark, List.not_mem_nil, false_or]
  exact Fm.has_Tr ha f ho hn 0 (by omega)
theorem Fm.two_ty {k : Int} (hk : k = 2 ∨ k = 3) {a b : Fm} {r : List Ty} (ha : a.tyE r = 0) (hb : b.tyE r = 0) : (Fm.two k a b).tyE r = 0 := by
  have hq : ¬ Fm.quant k := by unfold Fm.quant; omega
  simp [Fm.two, Fm.tyE, Fm.tyEs, Tm.natE, hq, ha, hb]
theorem Fm.q_ty {k : Int} (hk : Fm.quant k) {t : Ty} {a : Fm} {r : List Ty} (ha : a.tyE (t :: r) = 0) : (Fm.q k t a).tyE r = 0 := by
  simp [Fm.q, Fm.tyE, Fm.tyEs, Tm.natE, hk, ha]
theorem Fm.Tr_ok {a : Fm} (ha : a.sc 0) (hao : a.ok = true) (hat : a.tyE [] = 0) : ∀ (f : Fm), f.ok = true → f.nu = true → (f.Tr a).ok = true ∧ ∀ r, f.tyE r = 0 → (f.Tr a).tyE r = 0 := by
  refine Fm.ind fun k t ts as ih ho hn => ?_
  obtain ⟨hk6, hk7, hns⟩ := Fm.nu_mk hn
  obtain ⟨_, ht, _, hos⟩ := Fm.ok_mk ho
  have hat' : ∀ r, a.tyE r = 0 := fun r => Fm.tyE_app r a [] hat
  have ha1 := Fm.up1_sc ha
  rcases Fm.shape ho with ⟨rfl, rfl, ⟨y, z, rfl⟩, rfl⟩ | ⟨hk, rfl, rfl, c, e, rfl⟩ | ⟨hk, _, rfl, c, rfl⟩
  · simp only [Fm.Tr]
    exact ⟨Fm.two_ok (.inr rfl) (Fm.two_ok (.inr rfl) ho hao) hao, fun r h => Fm.two_ty (.inr rfl) (Fm.two_ty (.inr rfl) h (hat' r)) (hat' r)⟩
  · obtain ⟨h1, h2⟩ := Fm.oks_cons hos
    obtain ⟨h2, _⟩ := Fm.oks_cons h2
    simp only [Fm.nus, Bool.and_eq_true] at hns
    have i1 := ih c (by simp) h1 hns.1
    have i2 := ih e (by simp) h2 hns.2.1
    simp only [Fm.Tr]
    refine ⟨Fm.two_ok hk i1.1 i2.1, fun r h => ?_⟩
    obtain ⟨_, h3⟩ := Fm.tyE_mk h
    rw [if_neg (by unfold Fm.quant; omega)] at h3
    obtain ⟨h3, h4⟩ := Fm.tyEs_cons h3
    exact Fm.two_ty hk (i1.2 r h3) (i2.2 r (Fm.tyEs_cons h4).1)
  · obtain ⟨h1, _⟩ := Fm.oks_cons hos
    simp only [Fm.nus, Bool.and_eq_true] at hns
    have i1 := ih c (by simp) h1 hns.1
    have hk' : k = 4 ∨ k = 5 := by omega
    have hq4 : Fm.quant 4 := .inl rfl
    have hqk : Fm.quant k := by unfold Fm.quant; omega
    have ht0 : t.err = 0 := by
      unfold Fm.tyOk at ht
      rw [decide_eq_true hqk] at ht
      simpa using ht
    have hty : ∀ r, (Fm.mk k t [] [c]).tyE r = 0 → (c.Tr a).tyE (t :: r) = 0 := fun r h => by
      obtain ⟨_, h3⟩ := Fm.tyE_mk h
      rw [if_pos hqk] at h3
      exact i1.2 _ (Fm.tyEs_cons h3).1
    simp only [Fm.Tr, ha1]
    rcases hk' with rfl | rfl
    · simp only [if_true]
      exact ⟨Fm.q_ok hq4 ht0 i1.1, fun r h => Fm.q_ty hq4 (hty r h)⟩
    · rw [if_neg (by decide)]
      exact ⟨Fm.two_ok (.inr rfl) (Fm.q_ok hq4 ht0 (Fm.two_ok (.inr rfl) i1.1 hao)) hao, fun r h => Fm.two_ty (.inr rfl) (Fm.q_ty hq4 (Fm.two_ty (.inr rfl) (hty r h) (hat' _))) (hat' r)⟩
theorem Fm.lookE_cases {a f : Fm} (h1 : a.ok = true) (h2 : f.ok = true) (h3 : f.nu = true) (h4 : a.least 536870912 = true) : a.lookE f = 0 ∨ a.lookE f = 4 := by
  unfold Fm.lookE
  rcases Fm.err_cases h1 with e | e
  · rcases Fm.err_cases h2 with e' | e'
    · rw [if_neg (by omega), if_neg (by omega), if_neg (by simp [h3]), if_neg (by simp [h4])]
      split
      · exact .inr rfl
      · exact .inl rfl
    · rw [if_neg (by omega), if_pos (by omega)]; exact .inr e'
  · rw [if_pos (by omega)]; exact .inr e
theorem Fm.putE_cases {f : Fm} {s : Tm} (h1 : f.ok = true) (h2 : s.ok = true) (h3 : f.least 536870912 = true) (h4 : s.least 536870912 = true) : f.putE s = 0 ∨ f.putE s = 4 := by
  unfold Fm.putE
  rcases Fm.err_cases h1 with e | e
  · rcases Tm.err_cases h2 with e' | e'
    · rw [if_neg (by omega), if_neg (by omega), if_neg (by simp [h3]), if_neg (by simp [h4])]
      split
      · exact .inr rfl
      · exact .inl rfl
    · rw [if_neg (by omega), if_pos (by omega)]; exact .inr e'
  · rw [if_pos (by omega)]; exact .inr e
theorem Fm.putE_zero {f : Fm} {s : Tm} (h : f.putE s = 0) : f.err = 0 ∧ s.err = 0 ∧ f.least 536870912 = true ∧ s.least 536870912 = true ∧ (f.num : Int) + f.times 0 * (s.num - 1) ≤ 4096 := by
  unfold Fm.putE at h
  split at h
  · omega
  · split at h
    · omega
    · split at h
      · omega
      · split at h
        · omega
        · split at h
          · omega
          · rename_i h1 h2 h3 h4 h5
            exact ⟨by omega, by omega, by simpa using h3, by simpa using h4, by omega⟩
end Eng

namespace Eng
open Go
def Fm.chkE (f : Fm) (r : List Ty) : Int := if f.err ≠ 0 then f.err else f.tyE r
theorem Fm.ok_size' {f : Fm} (h : f.ok = true) (hn : (f.num : Int) ≤ 4096) : f.size < 2 ^ 19 := by
  have := Fm.size_num f h
  omega
structure PutsLaw (a f : Fm) (u : Tm) (r : List Ty) : Prop where
  x : f.putE u = 0 ∨ f.putE u = 4
  y : a.lookE f = 0 ∨ a.lookE f = 4
  xs : f.putE u = 0 → (f.inn 0 0 u).size < 2 ^ 19
  ys : a.lookE f = 0 → (f.Tr a).size < 2 ^ 19
  p : f.putE u = 0 → a.lookE (f.inn 0 0 u) = 0 ∨ a.lookE (f.inn 0 0 u) = 4
  q : a.lookE f = 0 → (f.Tr a).putE u = 0 ∨ (f.Tr a).putE u = 4
  e : f.putE u = 0 → a.lookE f = 0 → (f.Tr a).putE u = 0 → f.err = 0 ∧ u.err = 0 ∧ (f.Tr a).err = 0 ∧ f.low (2 ^ 40) ∧ (f.Tr a).low (2 ^ 40) ∧ (f.inn 0 0 u).Tr a = (f.Tr a).inn 0 0 u ∧ sortK ((f.Tr a).mark 0 []) = sortK (f.mark 0 []) ∧ (f.Tr a).chkE r = 0
theorem puts_law {a f : Fm} {u : Tm} {r : List Ty} {s : Ty} {m : Nat} (ha : Fm.Gd [] m a) (hf : Fm.Gd (s :: r) m f) (hn : f.nu = true) (hu : Tm.Gd r s m u) (hr : r.length ≤ 3) (hm : m ≤ 10000) : PutsLaw a f u (s :: r) := by
  have hac := Fm.tyE_sc a [] ha.ok ha.ty
  rw [show (([] : List Ty).length : Int) = 0 from rfl] at hac
  have hfc := Fm.tyE_sc f (s :: r) hf.ok hf.ty
  have huc := Tm.inf_sc u r s hu.ok hu.ty
  have al : a.least 536870912 = true := Fm.least_sc a 0 ha.ok hac (by omega) (by have := ha.sz; omega)
  have fl : f.least 536870912 = true := Fm.least_sc f _ hf.ok hfc (by omega) (by have := hf.sz; simp only [List.length_cons]; omega)
  have ul : u.least 536870912 = true := Tm.least_sc u _ hu.ok huc (by omega) (by have := hu.sz; omega)
  have xok : (f.inn 0 0 u).ok = true := Fm.inn_ok hu.ok f 0 0 hf.ok (by omega) (by omega)
  have xnu : (f.inn 0 0 u).nu = true := by rw [Fm.inn_nu]; exact hn
  obtain ⟨yok, yty⟩ := Fm.Tr_ok hac ha.ok ha.ty f hf.ok hn
  have yty := yty _ hf.ty
  have yc := Fm.tyE_sc _ _ yok yty
  have ynum := Fm.Tr_num f a hf.ok hn
  have ysz : a.lookE f = 0 → (f.Tr a).size < 2 ^ 19 := fun h => by
    obtain ⟨_, _, _, _, h5⟩ := Fm.lookE_zero h
    exact Fm.ok_size' yok (by omega)
  have yl : a.lookE f = 0 → (f.Tr a).least 536870912 = true := fun h => Fm.least_sc _ _ yok yc (by omega) (by have := ysz h; simp only [List.length_cons]; omega)
  refine ⟨Fm.putE_cases hf.ok hu.ok fl ul, Fm.lookE_cases ha.ok hf.ok hn al, fun h => ?_, ysz, fun _ => Fm.lookE_cases ha.ok xok xnu al, fun h => Fm.putE_cases yok hu.ok (yl h) ul, fun h1 h2 h3 => ?_⟩
  · obtain ⟨_, _, _, _, h5⟩ := Fm.putE_zero h
    have n := Fm.inn_num (s := u) f 0 0 hf.ok
    rw [show (0 : Int) + 0 = 0 from rfl] at n
    exact Fm.ok_size' xok (by omega)
  · obtain ⟨f1, f2, f3, _, _⟩ := Fm.putE_zero h1
    obtain ⟨g1, _, g3, _, _⟩ := Fm.putE_zero h3
    refine ⟨f1, f2, g1, Fm.low_mono (by omega) f (Fm.low_of f hf.ok f3), Fm.low_mono (by omega) _ (Fm.low_of _ yok g3), (Fm.Tr_inn hac u f hf.ok hn 0 (by omega)).symm, Fm.uses_Tr hac hf.ok hn, ?_⟩
    unfold Fm.chkE
    rw [if_neg (by omega)]
    exact yty
theorem rowsK_get : ∀ {l : List Int} {n : Nat}, n < (rowsK l).length → ∃ v, (rowsK l).getD n [] = [.int .i64 v]
  | [], n, h => by simp [rowsK] at h
  | k :: l, 0, _ => ⟨k, rfl⟩
  | k :: l, n + 1, h => by
    simp only [rowsK, List.length_cons] at h
    obtain ⟨v, hv⟩ := rowsK_get (l := l) (n := n) (by omega)
    exact ⟨v, by simpa [rowsK] using hv⟩
end Eng


/- Types, terms, formulas as data; how they lie in cells. -/
import Derived.Test.YtjfkhhfdfebpeaaGreatDoorEngZ
set_option linter.all false
set_option linter.unusedVariables false
set_option linter.unusedSimpArgs false
namespace Eng
open Go
inductive Ty where
  | mk (k : Int) (as : List Ty)
inductive Tm where
  | mk (k i : Int) (t : Ty) (as : List Tm)
inductive Fm where
  | mk (k : Int) (t : Ty) (ts : List Tm) (as : List Fm)
namespace Ty
def kind : Ty → Int | .mk k _ => k
def args : Ty → List Ty | .mk _ as => as
theorem ind {P : Ty → Prop} (h : ∀ k as, (∀ a ∈ as, P a) → P (.mk k as)) : ∀ t, P t
  | .mk k as => h k as (fun a ha => ind h a)
termination_by t => sizeOf t
decreasing_by have := List.sizeOf_lt_of_mem ha; simp; omega
mutual
def enc : Ty → List PV
  | .mk k as => [.int .i64 k, .sl 2 (encs as)]
def encs : List Ty → List (List PV)
  | [] => []
  | t :: ts => enc t :: encs ts
end
mutual
def size : Ty → Nat
  | .mk _ as => sizes as + 1
def sizes : List Ty → Nat
  | [] => 0
  | t :: ts => size t + sizes ts
end
end Ty
namespace Tm
def kind : Tm → Int | .mk k _ _ _ => k
def idx : Tm → Int | .mk _ i _ _ => i
def ty : Tm → Ty | .mk _ _ t _ => t
def args : Tm → List Tm | .mk _ _ _ as => as
theorem ind {P : Tm → Prop} (h : ∀ k i t as, (∀ a ∈ as, P a) → P (.mk k i t as)) : ∀ t, P t
  | .mk k i t as => h k i t as (fun a ha => ind h a)
termination_by t => sizeOf t
decreasing_by have := List.sizeOf_lt_of_mem ha; simp; omega
mutual
def enc : Tm → List PV
  | .mk k i t as => [.int .i64 k, .int .i64 i, .int .i64 t.kind, .sl 2 (Ty.encs t.args), .sl 5 (encs as)]
def encs : List Tm → List (List PV)
  | [] => []
  | t :: ts => enc t :: encs ts
end
mutual
def size : Tm → Nat
  | .mk _ _ t as => t.size + sizes as + 1
def sizes : List Tm → Nat
  | [] => 0
  | t :: ts => size t + sizes ts
end
end Tm
namespace Fm
def kind : Fm → Int | .mk k _ _ _ => k
def ty : Fm → Ty | .mk _ t _ _ => t
def terms : Fm → List Tm | .mk _ _ ts _ => ts
def args : Fm → List Fm | .mk _ _ _ as => as
theorem ind {P : Fm → Prop} (h : ∀ k t ts as, (∀ a ∈ as, P a) → P (.mk k t ts as)) : ∀ t, P t
  | .mk k t ts as => h k t ts as (fun a ha => ind h a)
termination_by t => sizeOf t
decreasing_by have := List.sizeOf_lt_of_mem ha; simp; omega
mutual
def enc : Fm → List PV
  | .mk k t ts as => [.int .i64 k, .int .i64 t.kind, .sl 2 (Ty.encs t.args), .sl 5 (Tm.encs ts), .sl 5 (encs as)]
def encs : List Fm → List (List PV)
  | [] => []
  | t :: ts => enc t :: encs ts
end
mutual
def size : Fm → Nat
  | .mk _ t ts as => t.size + Tm.sizes ts + sizes as + 1
def sizes : List Fm → Nat
  | [] => 0
  | t :: ts => size t + sizes ts
end
end Fm
theorem Ty.kind_mk (k : Int) (as : List Ty) : (Ty.mk k as).kind = k := rfl
theorem Ty.args_mk (k : Int) (as : List Ty) : (Ty.mk k as).args = as := rfl
theorem Ty.encs_nil : Ty.encs [] = [] := rfl
theorem Ty.enc_eq (t : Ty) : t.enc = [.int .i64 t.kind, .sl 2 (Ty.encs t.args)] := by cases t; rfl
theorem Ty.encs_eq : ∀ as, Ty.encs as = as.map Ty.enc
  | [] => rfl
  | t :: ts => by simp [Ty.encs, Ty.encs_eq ts]
theorem Tm.encs_eq : ∀ as, Tm.encs as = as.map Tm.enc
  | [] => rfl
  | t :: ts => by simp [Tm.encs, Tm.encs_eq ts]
theorem Fm.encs_eq : ∀ as, Fm.encs as = as.map Fm.enc
  | [] => rfl
  | t :: ts => by simp [Fm.encs, Fm.encs_eq ts]
theorem Ty.encs_len (as) : (Ty.encs as).length = as.length := by simp [Ty.encs_eq]
theorem Tm.encs_len (as) : (Tm.encs as).length = as.length := by simp [Tm.encs_eq]
theorem Fm.encs_len (as) : (Fm.encs as).length = as.length := by simp [Fm.encs_eq]
theorem Ty.sizes_len : ∀ as, as.length ≤ Ty.sizes as
  | [] => by simp
  | .mk k bs :: as => by have := Ty.sizes_len as; simp only [Ty.sizes, Ty.size, List.length_cons]; omega
theorem Tm.sizes_len : ∀ as, as.length ≤ Tm.sizes as
  | [] => by simp
  | .mk k i t bs :: as => by have := Tm.sizes_len as; simp only [Tm.sizes, Tm.size, List.length_cons]; omega
theorem Fm.sizes_len : ∀ as, as.length ≤ Fm.sizes as
  | [] => by simp
  | .mk k t ts bs :: as => by have := Fm.sizes_len as; simp only [Fm.sizes, Fm.size, List.length_cons]; omega
theorem Ty.size_mem : ∀ {as : List Ty} {a}, a ∈ as → a.size ≤ Ty.sizes as
  | b :: as, a, h => by
    rcases List.mem_cons.1 h with rfl | h
    · simp only [Ty.sizes]; omega
    · have := Ty.size_mem h; simp only [Ty.sizes]; omega
theorem Tm.size_mem : ∀ {as : List Tm} {a}, a ∈ as → a.size ≤ Tm.sizes as
  | b :: as, a, h => by
    rcases List.mem_cons.1 h with rfl | h
    · simp only [Tm.sizes]; omega
    · have := Tm.size_mem h; simp only [Tm.sizes]; omega
theorem Fm.size_mem : ∀ {as : List Fm} {a}, a ∈ as → a.size ≤ Fm.sizes as
  | b :: as, a, h => by
    rcases List.mem_cons.1 h with rfl | h
    · simp only [Fm.sizes]; omega
    · have := Fm.size_mem h; simp only [Fm.sizes]; omega
theorem Ty.size_pos (t : Ty) : 1 ≤ t.size := by cases t; simp only [Ty.size]; omega
theorem Tm.size_pos (t : Tm) : 1 ≤ t.size := by cases t; simp only [Tm.size]; omega
theorem Fm.size_pos (t : Fm) : 1 ≤ t.size := by cases t; simp only [Fm.size]; omega
theorem Ty.at_ {as : List Ty} {n : Int} (h : 0 ≤ n ∧ n < as.length) : ∃ a, a ∈ as ∧ as.drop n.toNat = a :: as.drop (n + 1).toNat ∧ (Ty.encs as).getD n.toNat [] = a.enc := by
  have h1 : n.toNat < as.length := by omega
  refine ⟨as[n.toNat], List.getElem_mem h1, ?_, by simp [Ty.encs_eq, h1]⟩
  rw [show (n + 1).toNat = n.toNat + 1 by omega]; exact List.drop_eq_getElem_cons h1
theorem Tm.at_ {as : List Tm} {n : Int} (h : 0 ≤ n ∧ n < as.length) : ∃ a, a ∈ as ∧ as.drop n.toNat = a :: as.drop (n + 1).toNat ∧ (Tm.encs as).getD n.toNat [] = a.enc := by
  have h1 : n.toNat < as.length := by omega
  refine ⟨as[n.toNat], List.getElem_mem h1, ?_, by simp [Tm.encs_eq, h1]⟩
  rw [show (n + 1).toNat = n.toNat + 1 by omega]; exact List.drop_eq_getElem_cons h1
theorem Fm.at_ {as : List Fm} {n : Int} (h : 0 ≤ n ∧ n < as.length) : ∃ a, a ∈ as ∧ as.drop n.toNat = a :: as.drop (n + 1).toNat ∧ (Fm.encs as).getD n.toNat [] = a.enc := by
  have h1 : n.toNat < as.length := by omega
  refine ⟨as[n.toNat], List.getElem_mem h1, ?_, by simp [Fm.encs_eq, h1]⟩
  rw [show (n + 1).toNat = n.toNat + 1 by omega]; exact List.drop_eq_getElem_cons h1
mutual
def Ty.same : Ty → Ty → Bool
  | .mk k as, .mk k' bs => decide (k = k') && Ty.sames as bs
def Ty.sames : List Ty → List Ty → Bool
  | [], [] => true
  | a :: as, b :: bs => a.same b && Ty.sames as bs
  | _, _ => false
end
theorem Ty.sames_len : ∀ {as bs : List Ty}, as.length ≠ bs.length → Ty.sames as bs = false
  | [], [], h => absurd rfl h
  | a :: as, b :: bs, h => by simp only [Ty.sames, Ty.sames_len (as := as) (bs := bs) (by simpa using h), Bool.and_false]
  | [], _ :: _, _ => rfl
  | _ :: _, [], _ => rfl
def Ty.kindOk (k : Int) (n : Nat) : Prop := (k = 1 ∨ k = 2 ∨ k = 5) ∧ n = 0 ∨ (k = 3 ∨ k = 4) ∧ n = 2
instance (k : Int) (n : Nat) : Decidable (Ty.kindOk k n) := by unfold Ty.kindOk; infer_instance
mutual
def Ty.ok : Ty → Bool
  | .mk k as => decide (Ty.kindOk k as.length) && Ty.oks as
def Ty.oks : List Ty → Bool
  | [] => true
  | t :: ts => t.ok && Ty.oks ts
end
def Ty.err (t : Ty) : Int := if t.ok then if t.size > 64 then 4 else 0 else 2
def Ty.zero : Ty → Bool | .mk k as => decide (k = 0 ∧ as.length = 0)
mutual
def Ty.wf : Ty → Prop
  | .mk _ as => as.length < 2 ^ 63 ∧ Ty.wfs as
def Ty.wfs : List Ty → Prop
  | [] => True
  | t :: ts => t.wf ∧ Ty.wfs ts
end
mutual
def Tm.wf : Tm → Prop
  | .mk _ _ t as => t.wf ∧ as.length < 2 ^ 63 ∧ Tm.wfs as
def Tm.wfs : List Tm → Prop
  | [] => True
  | t :: ts => t.wf ∧ Tm.wfs ts
end
mutual
def Fm.wf : Fm → Prop
  | .mk _ t ts as => t.wf ∧ ts.length < 2 ^ 63 ∧ Tm.wfs ts ∧ as.length < 2 ^ 63 ∧ Fm.wfs as
def Fm.wfs : List Fm → Prop
  | [] => True
  | t :: ts => t.wf ∧ Fm.wfs ts
end
theorem Ty.wfs_mem : ∀ {as : List Ty} {a}, Ty.wfs as → a ∈ as → a.wf
  | b :: as, a, h, hm => by
    simp only [Ty.wfs] at h
    rcases List.mem_cons.1 hm with rfl | hm
    · exact h.1
    · exact Ty.wfs_mem h.2 hm
theorem Tm.wfs_mem : ∀ {as : List Tm} {a}, Tm.wfs as → a ∈ as → a.wf
  | b :: as, a, h, hm => by
    simp only [Tm.wfs] at h
    rcases List.mem_cons.1 hm with rfl | hm
    · exact h.1
    · exact Tm.wfs_mem h.2 hm
theorem Fm.wfs_mem : ∀ {as : List Fm} {a}, Fm.wfs as → a ∈ as → a.wf
  | b :: as, a, h, hm => by
    simp only [Fm.wfs] at h
    rcases List.mem_cons.1 hm with rfl | hm
    · exact h.1
    · exact Fm.wfs_mem h.2 hm
theorem drop_all {α : Type} {as : List α} {n : Int} (h0 : 0 ≤ n) (h : ¬ n < as.length) : as.drop n.toNat = [] := List.drop_eq_nil_of_le (by omega)
end Eng

namespace Eng
open Go
mutual
def Tm.same : Tm → Tm → Bool
  | .mk k i t as, .mk k' i' t' bs => decide (k = k' ∧ i = i') && t.same t' && Tm.sames as bs
def Tm.sames : List Tm → List Tm → Bool
  | [], [] => true
  | a :: as, b :: bs => a.same b && Tm.sames as bs
  | _, _ => false
end
mutual
def Fm.same : Fm → Fm → Bool
  | .mk k t ts as, .mk k' t' ts' bs => decide (k = k') && t.same t' && Tm.sames ts ts' && Fm.sames as bs
def Fm.sames : List Fm → List Fm → Bool
  | [], [] => true
  | a :: as, b :: bs => a.same b && Fm.sames as bs
  | _, _ => false
end
theorem Tm.sames_len : ∀ {as bs : List Tm}, as.length ≠ bs.length → Tm.sames as bs = false
  | [], [], h => absurd rfl h
  | a :: as, b :: bs, h => by simp only [Tm.sames, Tm.sames_len (as := as) (bs := bs) (by simpa using h), Bool.and_false]
  | [], _ :: _, _ => rfl
  | _ :: _, [], _ => rfl
theorem Fm.sames_len : ∀ {as bs : List Fm}, as.length ≠ bs.length → Fm.sames as bs = false
  | [], [], h => absurd rfl h
  | a :: as, b :: bs, h => by simp only [Fm.sames, Fm.sames_len (as := as) (bs := bs) (by simpa using h), Bool.and_false]
  | [], _ :: _, _ => rfl
  | _ :: _, [], _ => rfl
def Tm.want (k : Int) : Int :=
  if k = 1 ∨ k = 4 ∨ k = 7 ∨ k = 13 then 0 else if k = 2 ∨ k = 5 ∨ k = 11 ∨ k = 12 then 1 else if k = 3 ∨ k = 8 ∨ k = 10 then 2 else if k = 6 ∨ k = 9 then 3 else -1
def Tm.tyOk (k : Int) (t : Ty) : Bool := bif decide (k = 2 ∨ k = 6 ∨ k = 9) then decide (t.err = 0) else t.zero
mutual
def Tm.ok : Tm → Bool
  | .mk k i t as => decide ((as.length : Int) = Tm.want k ∧ 0 ≤ i ∧ (k = 1 ∨ i = 0)) && (Tm.tyOk k t && Tm.oks as)
def Tm.oks : List Tm → Bool
  | [] => true
  | t :: ts => t.ok && Tm.oks ts
end
mutual
def Tm.num : Tm → Nat
  | .mk _ _ _ as => Tm.nums as + 1
def Tm.nums : List Tm → Nat
  | [] => 0
  | t :: ts => t.num + Tm.nums ts
end
def Fm.quant (k : Int) : Prop := k = 4 ∨ k = 5 ∨ k = 6 ∨ k = 7
instance (k : Int) : Decidable (Fm.quant k) := by unfold Fm.quant; infer_instance
def Fm.kindOk (k : Int) (n m : Nat) : Prop := k = 1 ∧ n = 2 ∧ m = 0 ∨ (k = 2 ∨ k = 3) ∧ n = 0 ∧ m = 2 ∨ Fm.quant k ∧ n = 0 ∧ m = 1
instance (k : Int) (n m : Nat) : Decidable (Fm.kindOk k n m) := by unfold Fm.kindOk; infer_instance
def Fm.tyOk (k : Int) (t : Ty) : Bool := bif decide (Fm.quant k) then decide (t.err = 0) else t.zero
mutual
def Fm.ok : Fm → Bool
  | .mk k t ts as => decide (Fm.kindOk k ts.length as.length) && (Fm.tyOk k t && (Tm.oks ts && Fm.oks as))
def Fm.oks : List Fm → Bool
  | [] => true
  | t :: ts => t.ok && Fm.oks ts
end
mutual
def Fm.num : Fm → Nat
  | .mk _ _ ts as => Tm.nums ts + Fm.nums as + 1
def Fm.nums : List Fm → Nat
  | [] => 0
  | t :: ts => t.num + Fm.nums ts
end
def Fm.err (f : Fm) : Int := if f.ok then if f.num > 4096 then 4 else 0 else 2
def Tm.err (f : Tm) : Int := if f.ok then if f.num > 4096 then 4 else 0 else 2
mutual
theorem Tm.num_le : ∀ t : Tm, t.num ≤ t.size
  | .mk k i t as => by have := Tm.nums_le as; simp only [Tm.num, Tm.size]; omega
theorem Tm.nums_le : ∀ ts : List Tm, Tm.nums ts ≤ Tm.sizes ts
  | [] => by simp [Tm.nums, Tm.sizes]
  | t :: ts => by have := Tm.num_le t; have := Tm.nums_le ts; simp only [Tm.nums, Tm.sizes]; omega
end
mutual
theorem Fm.num_le : ∀ t : Fm, t.num ≤ t.size
  | .mk k t ts as => by have := Tm.nums_le ts; have := Fm.nums_le as; simp only [Fm.num, Fm.size]; omega
theorem Fm.nums_le : ∀ ts : List Fm, Fm.nums ts ≤ Fm.sizes ts
  | [] => by simp [Fm.nums, Fm.sizes]
  | t :: ts => by have := Fm.num_le t; have := Fm.nums_le ts; simp only [Fm.nums, Fm.sizes]; omega
end
mutual
def Ty.cnt : Ty → Int → Int
  | .mk _ as, most => Ty.cnts as 1 most
def Ty.cnts : List Ty → Int → Int → Int
  | [], n, _ => n
  | t :: ts, n, most => if n ≤ most then Ty.cnts ts (n + t.cnt (most - n)) most else n
end
mutual
def Tm.cnt : Tm → Int → Int
  | .mk _ _ t as, most => Tm.cnts as (1 + t.cnt (most - 1)) most
def Tm.cnts : List Tm → Int → Int → Int
  | [], n, _ => n
  | t :: ts, n, most => if n ≤ most then Tm.cnts ts (n + t.cnt (most - n)) most else n
end
mutual
def Fm.cnt : Fm → Int → Int
  | .mk _ t ts as, most => Fm.cnts as (Tm.cnts ts (1 + t.cnt (most - 1)) most) most
def Fm.cnts : List Fm → Int → Int → Int
  | [], n, _ => n
  | t :: ts, n, most => if n ≤ most then Fm.cnts ts (n + t.cnt (most - n)) most else n
end
mutual
theorem Ty.cnt_b : ∀ (t : Ty) (most : Int), 1 ≤ t.cnt most ∧ t.cnt most ≤ max (most + 1) 1
  | .mk k as, most => by have := Ty.cnts_b as 1 most; simp only [Ty.cnt]; omega
theorem Ty.cnts_b : ∀ (ts : List Ty) (n most : Int), n ≤ Ty.cnts ts n most ∧ Ty.cnts ts n most ≤ max (most + 1) n
  | [], n, most => by simp only [Ty.cnts]; omega
  | t :: ts, n, most => by
    simp only [Ty.cnts]
    split
    · have := Ty.cnt_b t (most - n); have := Ty.cnts_b ts (n + t.cnt (most - n)) most; omega
    · omega
end
mutual
theorem Tm.cnt_b : ∀ (t : Tm) (most : Int), 1 ≤ t.cnt most ∧ t.cnt most ≤ max (most + 2) 2
  | .mk k i t as, most => by have := Ty.cnt_b t (most - 1); have := Tm.cnts_b as (1 + t.cnt (most - 1)) most; simp only [Tm.cnt]; omega
theorem Tm.cnts_b : ∀ (ts : List Tm) (n most : Int), n ≤ Tm.cnts ts n most ∧ Tm.cnts ts n most ≤ max (most + 2) n
  | [], n, most => by simp only [Tm.cnts]; omega
  | t :: ts, n, most => by
    simp only [Tm.cnts]
    split
    · have := Tm.cnt_b t (most - n); have := Tm.cnts_b ts (n + t.cnt (most - n)) most; omega
    · omega
end
mutual
theorem Fm.cnt_b : ∀ (t : Fm) (most : Int), 1 ≤ t.cnt most ∧ t.cnt most ≤ max (most + 2) 2
  | .mk k t ts as, most => by have := Ty.cnt_b t (most - 1); have := Tm.cnts_b ts (1 + t.cnt (most - 1)) most; have := Fm.cnts_b as (Tm.cnts ts (1 + t.cnt (most - 1)) most) most; simp only [Fm.cnt]; omega
theorem Fm.cnts_b : ∀ (ts : List Fm) (n most : Int), n ≤ Fm.cnts ts n most ∧ Fm.cnts ts n most ≤ max (most + 2) n
  | [], n, most => by simp only [Fm.cnts]; omega
  | t :: ts, n, most => by
    simp only [Fm.cnts]
    split
    · have := Fm.cnt_b t (most - n); have := Fm.cnts_b ts (n + t.cnt (most - n)) most; omega
    · omega
end
end Eng

namespace Eng
open Go
def Tm.bnd (k : Int) : Int := if k = 2 then 1 else 0
def Fm.bnd (k : Int) : Int := if Fm.quant k then 1 else 0
mutual
def Tm.least : Tm → Int → Bool
  | .mk _ i _ as, m => decide (i ≤ m) && Tm.leasts as m
def Tm.leasts : List Tm → Int → Bool
  | [], _ => true
  | t :: ts, m => t.least m && Tm.leasts ts m
end
mutual
def Fm.least : Fm → Int → Bool
  | .mk _ _ ts as, m => Tm.leasts ts m && Fm.leasts as m
def Fm.leasts : List Fm → Int → Bool
  | [], _ => true
  | t :: ts, m => t.least m && Fm.leasts ts m
end
mutual
def Tm.up : Tm → Int → Int → Tm
  | .mk k i t as, fr, d => .mk k (if k = 1 ∧ fr ≤ i then i + d else i) t (Tm.ups as (fr + Tm.bnd k) d)
def Tm.ups : List Tm → Int → Int → List Tm
  | [], _, _ => []
  | t :: ts, fr, d => t.up fr d :: Tm.ups ts fr d
end
mutual
def Fm.up : Fm → Int → Int → Fm
  | .mk k t ts as, fr, d => .mk k t (Tm.ups ts fr d) (Fm.ups as (fr + Fm.bnd k) d)
def Fm.ups : List Fm → Int → Int → List Fm
  | [], _, _ => []
  | t :: ts, fr, d => t.up fr d :: Fm.ups ts fr d
end
section
variable (F : Int → Int → Tm)
mutual
def Tm.reb : Tm → Int → Tm
  | .mk k i t as, b => if k = 1 then F i b else .mk k i t (Tm.rebs as (b + Tm.bnd k))
def Tm.rebs : List Tm → Int → List Tm
  | [], _ => []
  | t :: ts, b => t.reb b :: Tm.rebs ts b
end
theorem Tm.rebs_len : ∀ as b, (Tm.rebs F as b).length = as.length
  | [], _ => rfl
  | _ :: as, b => by simp [Tm.rebs, Tm.rebs_len as b]
end
def Tm.var (i : Int) : Tm := .mk 1 i (.mk 0 []) []
def Tm.lift (t : Tm) (fr d : Int) : Tm := Tm.reb (fun i b => Tm.var (if fr ≤ i - b then i + d else i)) t 0
section
variable {σ : Type} (g : σ → Int → Int → σ)
mutual
def Tm.vf : Tm → Int → σ → σ
  | .mk k i _ as, b, s => Tm.vfs as (b + Tm.bnd k) (if k = 1 then g s i b else s)
def Tm.vfs : List Tm → Int → σ → σ
  | [], _, s => s
  | t :: ts, b, s => Tm.vfs ts b (t.vf b s)
end
end
section
variable (F : Tm → Int → Tm)
mutual
def Fm.reb : Fm → Int → Fm
  | .mk k t ts as, b => .mk k t (ts.map (F · b)) (Fm.rebs as (b + Fm.bnd k))
def Fm.rebs : List Fm → Int → List Fm
  | [], _ => []
  | t :: ts, b => t.reb b :: Fm.rebs ts b
end
theorem Fm.rebs_len : ∀ as b, (Fm.rebs F as b).length = as.length
  | [], _ => rfl
  | _ :: as, b => by simp [Fm.rebs, Fm.rebs_len as b]
end
section
variable {σ : Type} (g : σ → Tm → Int → σ)
def Tm.tfs : List Tm → Int → σ → σ
  | [], _, s => s
  | t :: ts, b, s => Tm.tfs ts b (g s t b)
mutual
def Fm.tf : Fm → Int → σ → σ
  | .mk k _ ts as, b, s => Fm.tfs as (b + Fm.bnd k) (Tm.tfs g ts b s)
def Fm.tfs : List Fm → Int → σ → σ
  | [], _, s => s
  | t :: ts, b, s => Fm.tfs ts b (t.tf b s)
end
end
def Fm.lift (f : Fm) (fr d : Int) : Fm := Fm.reb (fun t b => t.lift (fr + b) d) f 0
mutual
def Tm.near : Tm → Int → Bool
  | .mk k i _ as, m => (decide (k = 1 → i ≤ m)) && Tm.nears as m
def Tm.nears : List Tm → Int → Bool
  | [], _ => true
  | t :: ts, m => t.near m && Tm.nears ts m
end
mutual
def Tm.low : Tm → Int → Prop
  | .mk _ i _ as, m => 0 ≤ i ∧ i ≤ m ∧ Tm.lows as m
def Tm.lows : List Tm → Int → Prop
  | [], _ => True
  | t :: ts, m => t.low m ∧ Tm.lows ts m
end
mutual
def Fm.low : Fm → Int → Prop
  | .mk _ _ ts as, m => Tm.lows ts m ∧ Fm.lows as m
def Fm.lows : List Fm → Int → Prop
  | [], _ => True
  | t :: ts, m => t.low m ∧ Fm.lows ts m
end
theorem Tm.lows_mem : ∀ {as : List Tm} {a m}, Tm.lows as m → a ∈ as → a.low m
  | b :: as, a, m, h, hm => by
    simp only [Tm.lows] at h
    rcases List.mem_cons.1 hm with rfl | hm
    · exact h.1
    · exact Tm.lows_mem h.2 hm
theorem Fm.lows_mem : ∀ {as : List Fm} {a m}, Fm.lows as m → a ∈ as → a.low m
  | b :: as, a, m, h, hm => by
    simp only [Fm.lows] at h
    rcases List.mem_cons.1 hm with rfl | hm
    · exact h.1
    · exact Fm.lows_mem h.2 hm
theorem Tm.ups_len : ∀ as fr d, (Tm.ups as fr d).length = as.length
  | [], _, _ => rfl
  | _ :: as, fr, d => by simp [Tm.ups, Tm.ups_len as fr d]
theorem Fm.ups_len : ∀ as fr d, (Fm.ups as fr d).length = as.length
  | [], _, _ => rfl
  | _ :: as, fr, d => by simp [Fm.ups, Fm.ups_len as fr d]
end Eng

namespace Eng
open Go
def Fm.eq (a b : Tm) : Fm := .mk 1 (.mk 0 []) [a, b] []
def Fm.two (k : Int) (a b : Fm) : Fm := .mk k (.mk 0 []) [] [a, b]
def Fm.q (k : Int) (t : Ty) (a : Fm) : Fm := .mk k t [] [a]
def Fm.imp (a b : Fm) : Fm := Fm.two 3 a b
mutual
def Fm.nu : Fm → Bool
  | .mk k _ _ as => decide (k ≠ 6 ∧ k ≠ 7) && Fm.nus as
def Fm.nus : List Fm → Bool
  | [] => true
  | t :: ts => t.nu && Fm.nus ts
end
mutual
def Fm.tsz : Fm → Int → Int
  | .mk k t ts as, a => if k = 1 then (Fm.mk k t ts as).num + 2 + 2 * a else if k = 5 then Fm.tszs as a + 3 + 2 * a else Fm.tszs as a + 1
def Fm.tszs : List Fm → Int → Int
  | [], _ => 0
  | t :: ts, a => t.tsz a + Fm.tszs ts a
end
mutual
def Fm.tct : Fm → Int → Int
  | .mk k t ts as, a => min (if k = 1 then (Fm.mk k t ts as).num + 2 + 2 * a else if k = 5 then Fm.tcts as a + 3 + 2 * a else Fm.tcts as a + 1) 4097
def Fm.tcts : List Fm → Int → Int
  | [], _ => 0
  | t :: ts, a => t.tct a + Fm.tcts ts a
end
def Fm.up1 (a : Fm) : Fm := Fm.up a 0 1
def Fm.ups1 (a : Fm) : Nat → Fm
  | 0 => a
  | n + 1 => (Fm.ups1 a n).up1
def Fm.Tr : Fm → Fm → Fm
  | .mk k t ts as, a =>
    match as with
    | [b] => if k = 4 then Fm.q 4 t (b.Tr a.up1) else Fm.imp (Fm.q 4 t (Fm.imp (b.Tr a.up1) a.up1)) a
    | [b, c] => Fm.two k (b.Tr a) (c.Tr a)
    | _ => Fm.imp (Fm.imp (.mk k t ts as) a) a
def Fm.nd : Fm → Nat
  | .mk k _ _ as =>
    match as with
    | [b] => if k = 4 then b.nd + 1 else max (b.nd + 1) 2
    | [b, c] => max b.nd c.nd
    | _ => 1
end Eng

namespace Eng
open Go
theorem Tm.ok_mk {k i : Int} {t : Ty} {as : List Tm} (h : (Tm.mk k i t as).ok = true) : (as.length : Int) = Tm.want k ∧ 0 ≤ i ∧ (k = 1 ∨ i = 0) ∧ Tm.tyOk k t = true ∧ Tm.oks as = true := by
  simp only [Tm.ok, Bool.and_eq_true, decide_eq_true_eq] at h
  exact ⟨h.1.1, h.1.2.1, h.1.2.2, h.2.1, h.2.2⟩
theorem Fm.ok_mk {k : Int} {t : Ty} {ts : List Tm} {as : List Fm} (h : (Fm.mk k t ts as).ok = true) : Fm.kindOk k ts.length as.length ∧ Fm.tyOk k t = true ∧ Tm.oks ts = true ∧ Fm.oks as = true := by
  simp only [Fm.ok, Bool.and_eq_true, decide_eq_true_eq] at h
  exact ⟨h.1, h.2.1, h.2.2.1, h.2.2.2⟩
theorem Tm.oks_cons {t : Tm} {ts : List Tm} (h : Tm.oks (t :: ts) = true) : t.ok = true ∧ Tm.oks ts = true := by
  simpa only [Tm.oks, Bool.and_eq_true] using h
theorem Fm.oks_cons {t : Fm} {ts : List Fm} (h : Fm.oks (t :: ts) = true) : t.ok = true ∧ Fm.oks ts = true := by
  simpa only [Fm.oks, Bool.and_eq_true] using h
theorem Fm.err_ok {f : Fm} (h : f.err = 0) : f.ok = true ∧ f.num ≤ 4096 := by
  unfold Fm.err at h
  split at h
  · split at h
    · omega
    · exact ⟨by assumption, by omega⟩
  · omega
mutual
theorem Tm.vf_least {m : Int} (hm : 0 ≤ m) : ∀ (t : Tm) (b : Int) (s : Bool), t.ok = true → Tm.vf (fun s i _ => s && decide (i ≤ m)) t b s = (s && t.least m)
  | .mk k i t as, b, s, h => by
    obtain ⟨_, h1, h2, _, h3⟩ := Tm.ok_mk h
    simp only [Tm.vf, Tm.least]
    rw [Tm.vfs_least hm as _ _ h3]
    by_cases hk : k = 1
    · rw [if_pos hk, Bool.and_assoc]
    · rw [if_neg hk, decide_eq_true (show i ≤ m by omega), Bool.true_and]
theorem Tm.vfs_least {m : Int} (hm : 0 ≤ m) : ∀ (ts : List Tm) (b : Int) (s : Bool), Tm.oks ts = true → Tm.vfs (fun s i _ => s && decide (i ≤ m)) ts b s = (s && Tm.leasts ts m)
  | [], b, s, _ => by simp [Tm.vfs, Tm.leasts]
  | t :: ts, b, s, h => by
    obtain ⟨h1, h2⟩ := Tm.oks_cons h
    simp only [Tm.vfs, Tm.leasts]
    rw [Tm.vf_least hm t _ _ h1, Tm.vfs_least hm ts _ _ h2, Bool.and_assoc]
end
theorem Tm.tfs_least {m : Int} (hm : 0 ≤ m) : ∀ (ts : List Tm) (b : Int) (s : Bool), Tm.oks ts = true → Tm.tfs (fun s t _ => s && Tm.vf (fun s i _ => s && decide (i ≤ m)) t 0 true) ts b s = (s && Tm.leasts ts m)
  | [], b, s, _ => by simp [Tm.tfs, Tm.leasts]
  | t :: ts, b, s, h => by
    obtain ⟨h1, h2⟩ := Tm.oks_cons h
    simp only [Tm.tfs, Tm.leasts]
    rw [Tm.vf_least hm t _ _ h1, Tm.tfs_least hm ts _ _ h2, Bool.true_and, Bool.and_assoc]
mutual
theorem Fm.tf_least {m : Int} (hm : 0 ≤ m) : ∀ (f : Fm) (b : Int) (s : Bool), f.ok = true → Fm.tf (fun s t _ => s && Tm.vf (fun s i _ => s && decide (i ≤ m)) t 0 true) f b s = (s && f.least m)
  | .mk k t ts as, b, s, h => by
    obtain ⟨_, _, h1, h2⟩ := Fm.ok_mk h
    simp only [Fm.tf, Fm.least]
    rw [Tm.tfs_least hm ts _ _ h1, Fm.tfs_least hm as _ _ h2, Bool.and_assoc]
theorem Fm.tfs_least {m : Int} (hm : 0 ≤ m) : ∀ (fs : List Fm) (b : Int) (s : Bool), Fm.oks fs = true → Fm.tfs (fun s t _ => s && Tm.vf (fun s i _ => s && decide (i ≤ m)) t 0 true) fs b s = (s && Fm.leasts fs m)
  | [], b, s, _ => by simp [Fm.tfs, Fm.leasts]
  | f :: fs, b, s, h => by
    obtain ⟨h1, h2⟩ := Fm.oks_cons h
    simp only [Fm.tfs, Fm.leasts]
    rw [Fm.tf_least hm f _ _ h1, Fm.tfs_least hm fs _ _ h2, Bool.and_assoc]
end
mutual
theorem Tm.low_of {m : Int} : ∀ (t : Tm), t.ok = true → t.least m = true → t.low m
  | .mk k i t as, h, hl => by
    obtain ⟨_, h1, h2, _, h3⟩ := Tm.ok_mk h
    simp only [Tm.least, Bool.and_eq_true, decide_eq_true_eq] at hl
    exact ⟨h1, hl.1, Tm.lows_of as h3 hl.2⟩
theorem Tm.lows_of {m : Int} : ∀ (ts : List Tm), Tm.oks ts = true → Tm.leasts ts m = true → Tm.lows ts m
  | [], _, _ => trivial
  | t :: ts, h, hl => by
    obtain ⟨h1, h2⟩ := Tm.oks_cons h
    simp only [Tm.leasts, Bool.and_eq_true] at hl
    exact ⟨Tm.low_of t h1 hl.1, Tm.lows_of ts h2 hl.2⟩
end
mutual
theorem Fm.low_of {m : Int} : ∀ (f : Fm), f.ok = true → f.least m = true → f.low m
  | .mk k t ts as, h, hl => by
    obtain ⟨_, _, h1, h2⟩ := Fm.ok_mk h
    simp only [Fm.least, Bool.and_eq_true] at hl
    exact ⟨Tm.lows_of ts h1 hl.1, Fm.lows_of as h2 hl.2⟩
theorem Fm.lows_of {m : Int} : ∀ (fs : List Fm), Fm.oks fs = true → Fm.leasts fs m = true → Fm.lows fs m
  | [], _, _ => trivial
  | f :: fs, h, hl => by
    obtain ⟨h1, h2⟩ := Fm.oks_cons h
    simp only [Fm.leasts, Bool.and_eq_true] at hl
    exact ⟨Fm.low_of f h1 hl.1, Fm.lows_of fs h2 hl.2⟩
end
mutual
theorem Tm.low_mono {m n : Int} (h : m ≤ n) : ∀ t : Tm, t.low m → t.low n
  | .mk k i t as, hl => ⟨hl.1, by have := hl.2.1; omega, Tm.lows_mono h as hl.2.2⟩
theorem Tm.lows_mono {m n : Int} (h : m ≤ n) : ∀ ts : List Tm, Tm.lows ts m → Tm.lows ts n
  | [], _ => trivial
  | t :: ts, hl => ⟨Tm.low_mono h t hl.1, Tm.lows_mono h ts hl.2⟩
end
mutual
theorem Fm.low_mono {m n : Int} (h : m ≤ n) : ∀ t : Fm, t.low m → t.low n
  | .mk k t ts as, hl => ⟨Tm.lows_mono h ts hl.1, Fm.lows_mono h as hl.2⟩
theorem Fm.lows_mono {m n : Int} (h : m ≤ n) : ∀ ts : List Fm, Fm.lows ts m → Fm.lows ts n
  | [], _ => trivial
  | t :: ts, hl => ⟨Fm.low_mono h t hl.1, Fm.lows_mono h ts hl.2⟩
end
mutual
theorem Fm.reb_id : ∀ (f : Fm) (b : Int), Fm.reb (fun t _ => t) f b = f
  | .mk k t ts as, b => by simp only [Fm.reb, List.map_id', Fm.rebs_id as]
theorem Fm.rebs_id : ∀ (fs : List Fm) (b : Int), Fm.rebs (fun t _ => t) fs b = fs
  | [], b => rfl
  | f :: fs, b => by simp only [Fm.rebs, Fm.reb_id f, Fm.rebs_id fs]
end
theorem Tm.ok_var {i : Int} {t : Ty} {as : List Tm} (h : (Tm.mk 1 i t as).ok = true) : as = [] ∧ t = .mk 0 [] := by
  obtain ⟨h1, _, _, h2, _⟩ := Tm.ok_mk h
  rw [show Tm.want 1 = 0 from rfl] at h1
  refine ⟨List.eq_nil_of_length_eq_zero (by omega), ?_⟩
  obtain ⟨k, l⟩ := t
  simp only [Tm.tyOk, Ty.zero] at h2
  rw [decide_eq_false (by omega), cond_false, decide_eq_true_eq] at h2
  rw [h2.1, List.eq_nil_of_length_eq_zero h2.2]
mutual
theorem Tm.reb_up (fr d : Int) : ∀ (t : Tm) (b : Int), t.ok = true → Tm.reb (fun i b => Tm.var (if fr ≤ i - b then i + d else i)) t b = t.up (fr + b) d
  | .mk k i t as, b, h => by
    simp only [Tm.reb, Tm.up]
    by_cases hk : k = 1
    · subst hk
      obtain ⟨rfl, rfl⟩ := Tm.ok_var h
      rw [if_pos rfl, Tm.var]
      simp only [Tm.ups]
      by_cases hi : fr ≤ i - b
      · rw [if_pos hi, if_pos (by simp; omega)]
      · rw [if_neg hi, if_neg (by simp; omega)]
    · rw [if_neg hk, if_neg (fun h => hk h.1), Tm.rebs_up fr d as _ (Tm.ok_mk h).2.2.2.2]
      congr 2; omega
theorem Tm.rebs_up (fr d : Int) : ∀ (ts : List Tm) (b : Int), Tm.oks ts = true → Tm.rebs (fun i b => Tm.var (if fr ≤ i - b then i + d else i)) ts b = Tm.ups ts (fr + b) d
  | [], _, _ => rfl
  | t :: ts, b, h => by
    obtain ⟨h1, h2⟩ := Tm.oks_cons h
    simp only [Tm.rebs, Tm.ups]
    rw [Tm.reb_up fr d t b h1, Tm.rebs_up fr d ts b h2]
end
theorem Tm.lift_up {t : Tm} (h : t.ok = true) (fr d : Int) : t.lift fr d = t.up fr d := by
  unfold Tm.lift
  rw [Tm.reb_up fr d t 0 h]; simp
theorem Tm.lift_ups (fr d : Int) : ∀ (ts : List Tm), Tm.oks ts = true → ts.map (fun t => t.lift fr d) = Tm.ups ts fr d
  | [], _ => rfl
  | t :: ts, h => by
    obtain ⟨h1, h2⟩ := Tm.oks_cons h
    simp only [List.map_cons, Tm.ups, Tm.lift_up h1, Tm.lift_ups fr d ts h2]
mutual
theorem Fm.reb_up (fr d : Int) : ∀ (f : Fm) (b : Int), f.ok = true → Fm.reb (fun t b => t.lift (fr + b) d) f b = f.up (fr + b) d
  | .mk k t ts as, b, h => by
    obtain ⟨_, _, h1, h2⟩ := Fm.ok_mk h
    simp only [Fm.reb, Fm.up]
    rw [Tm.lift_ups _ _ ts h1, Fm.rebs_up fr d as _ h2]
    congr 2; omega
theorem Fm.rebs_up (fr d : Int) : ∀ (fs : List Fm) (b : Int), Fm.oks fs = true → Fm.rebs (fun t b => t.lift (fr + b) d) fs b = Fm.ups fs (fr + b) d
  | [], _, _ => rfl
  | f :: fs, b, h => by
    obtain ⟨h1, h2⟩ := Fm.oks_cons h
    simp only [Fm.rebs, Fm.ups]
    rw [Fm.reb_up fr d f b h1, Fm.rebs_up fr d fs b h2]
end
theorem Fm.lift_up {f : Fm} (h : f.ok = true) (fr d : Int) : f.lift fr d = f.up fr d := by
  unfold Fm.lift
  rw [Fm.reb_up fr d f 0 h]; simp
mutual
theorem Tm.up_ok {fr d : Int} (hd : 0 ≤ d) : ∀ (t : Tm) , t.ok = true → ∀ fr, (t.up fr d).ok = true
  | .mk k i t as, h, fr => by
    obtain ⟨h1, h2, h3, h4, h5⟩ := Tm.ok_mk h
    simp only [Tm.up, Tm.ok, Tm.ups_len]
    rw [h4, Tm.ups_ok hd as h5, decide_eq_true (by split <;> omega)]; rfl
theorem Tm.ups_ok {d : Int} (hd : 0 ≤ d) : ∀ (ts : List Tm), Tm.oks ts = true → ∀ fr, Tm.oks (Tm.ups ts fr d) = true
  | [], _, _ => rfl
  | t :: ts, h, fr => by
    obtain ⟨h1, h2⟩ := Tm.oks_cons h
    simp only [Tm.ups, Tm.oks]
    rw [Tm.up_ok (fr := fr) hd t h1, Tm.ups_ok hd ts h2]; rfl
end
mutual
theorem Fm.up_ok {d : Int} (hd : 0 ≤ d) : ∀ (t : Fm) , t.ok = true → ∀ fr, (t.up fr d).ok = true
  | .mk k t ts as, h, fr => by
    obtain ⟨h1, h2, h3, h4⟩ := Fm.ok_mk h
    simp only [Fm.up, Fm.ok, Tm.ups_len, Fm.ups_len]
    rw [h2, Tm.ups_ok hd ts h3, Fm.ups_ok hd as h4, decide_eq_true h1]; rfl
theorem Fm.ups_ok {d : Int} (hd : 0 ≤ d) : ∀ (ts : List Fm), Fm.oks ts = true → ∀ fr, Fm.oks (Fm.ups ts fr d) = true
  | [], _, _ => rfl
  | t :: ts, h, fr => by
    obtain ⟨h1, h2⟩ := Fm.oks_cons h
    simp only [Fm.ups, Fm.oks]
    rw [Fm.up_ok hd t h1, Fm.ups_ok hd ts h2]; rfl
end
mutual
theorem Tm.up_low {d m : Int} (hd : 0 ≤ d) : ∀ (t : Tm) , t.low m → ∀ fr, (t.up fr d).low (m + d)
  | .mk k i t as, h, fr => by
    refine ⟨?_, ?_, Tm.ups_low hd as h.2.2 _⟩ <;> (have := h.1; have := h.2.1; split <;> omega)
theorem Tm.ups_low {d m : Int} (hd : 0 ≤ d) : ∀ (ts : List Tm), Tm.lows ts m → ∀ fr, Tm.lows (Tm.ups ts fr d) (m + d)
  | [], _, _ => trivial
  | t :: ts, h, fr => ⟨Tm.up_low hd t h.1 fr, Tm.ups_low hd ts h.2 fr⟩
end
mutual
theorem Fm.up_low {d m : Int} (hd : 0 ≤ d) : ∀ (t : Fm) , t.low m → ∀ fr, (t.up fr d).low (m + d)
  | .mk k t ts as, h, fr => ⟨Tm.ups_low hd ts h.1 _, Fm.ups_low hd as h.2 _⟩
theorem Fm.ups_low {d m : Int} (hd : 0 ≤ d) : ∀ (ts : List Fm), Fm.lows ts m → ∀ fr, Fm.lows (Fm.ups ts fr d) (m + d)
  | [], _, _ => trivial
  | t :: ts, h, fr => ⟨Fm.up_low hd t h.1 fr, Fm.ups_low hd ts h.2 fr⟩
end
mutual
theorem Tm.up_size {d : Int} : ∀ (t : Tm) fr, (t.up fr d).size = t.size
  | .mk k i t as, fr => by simp only [Tm.up, Tm.size, Tm.ups_size as]
theorem Tm.ups_size {d : Int} : ∀ (ts : List Tm) fr, Tm.sizes (Tm.ups ts fr d) = Tm.sizes ts
  | [], _ => rfl
  | t :: ts, fr => by simp only [Tm.ups, Tm.sizes, Tm.up_size t, Tm.ups_size ts]
end
mutual
theorem Fm.up_size {d : Int} : ∀ (t : Fm) fr, (t.up fr d).size = t.size
  | .mk k t ts as, fr => by simp only [Fm.up, Fm.size, Tm.ups_size, Fm.ups_size as]
theorem Fm.ups_size {d : Int} : ∀ (ts : List Fm) fr, Fm.sizes (Fm.ups ts fr d) = Fm.sizes ts
  | [], _ => rfl
  | t :: ts, fr => by simp only [Fm.ups, Fm.sizes, Fm.up_size t, Fm.ups_size ts]
end
mutual
theorem Tm.up_num {d : Int} : ∀ (t : Tm) fr, (t.up fr d).num = t.num
  | .mk k i t as, fr => by simp only [Tm.up, Tm.num, Tm.ups_num as]
theorem Tm.ups_num {d : Int} : ∀ (ts : List Tm) fr, Tm.nums (Tm.ups ts fr d) = Tm.nums ts
  | [], _ => rfl
  | t :: ts, fr => by simp only [Tm.ups, Tm.nums, Tm.up_num t, Tm.ups_num ts]
end
mutual
theorem Fm.up_num {d : Int} : ∀ (t : Fm) fr, (t.up fr d).num = t.num
  | .mk k t ts as, fr => by simp only [Fm.up, Fm.num, Tm.ups_num, Fm.ups_num as]
theorem Fm.ups_num {d : Int} : ∀ (ts : List Fm) fr, Fm.nums (Fm.ups ts fr d) = Fm.nums ts
  | [], _ => rfl
  | t :: ts, fr => by simp only [Fm.ups, Fm.nums, Fm.up_num t, Fm.ups_num ts]
end
mutual
theorem Fm.tsz_b {an : Int} (h : 0 ≤ an ∧ an ≤ 4096) : ∀ (f : Fm), 0 ≤ f.tsz an ∧ f.tsz an ≤ f.num * 8200
  | .mk k t ts as => by
    have := Fm.tszs_b h as
    simp only [Fm.tsz, Fm.num]
    split
    · omega
    · split <;> omega
theorem Fm.tszs_b {an : Int} (h : 0 ≤ an ∧ an ≤ 4096) : ∀ (fs : List Fm), 0 ≤ Fm.tszs fs an ∧ Fm.tszs fs an ≤ Fm.nums fs * 8200
  | [] => by simp [Fm.tszs, Fm.nums]
  | f :: fs => by
    have := Fm.tsz_b h f
    have := Fm.tszs_b h fs
    simp only [Fm.tszs, Fm.nums]
    omega
end
theorem Fm.num_mem : ∀ {as : List Fm} {a}, a ∈ as → a.num ≤ Fm.nums as
  | b :: as, a, h => by
    rcases List.mem_cons.1 h with rfl | h
    · simp only [Fm.nums]; omega
    · have := Fm.num_mem h; simp only [Fm.nums]; omega
theorem Tm.num_mem : ∀ {as : List Tm} {a}, a ∈ as → a.num ≤ Tm.nums as
  | b :: as, a, h => by
    rcases List.mem_cons.1 h with rfl | h
    · simp only [Tm.nums]; omega
    · have := Tm.num_mem h; simp only [Tm.nums]; omega
theorem Fm.oks_mem : ∀ {as : List Fm} {a}, Fm.oks as = true → a ∈ as → a.ok = true
  | b :: as, a, h, hm => by
    obtain ⟨h1, h2⟩ := Fm.oks_cons h
    rcases List.mem_cons.1 hm with rfl | hm
    · exact h1
    · exact Fm.oks_mem h2 hm
theorem Tm.oks_mem : ∀ {as : List Tm} {a}, Tm.oks as = true → a ∈ as → a.ok = true
  | b :: as, a, h, hm => by
    obtain ⟨h1, h2⟩ := Tm.oks_cons h
    rcases List.mem_cons.1 hm with rfl | hm
    · exact h1
    · exact Tm.oks_mem h2 hm
theorem Fm.nus_mem : ∀ {as : List Fm} {a}, Fm.nus as = true → a ∈ as → a.nu = true
  | b :: as, a, h, hm => by
    simp only [Fm.nus, Bool.and_eq_true] at h
    rcases List.mem_cons.1 hm with rfl | hm
    · exact h.1
    · exact Fm.nus_mem h.2 hm
theorem Fm.err_zero {f : Fm} (h : f.ok = true) (hn : f.num ≤ 4096) : f.err = 0 := by
  unfold Fm.err
  rw [if_pos h, if_neg (by omega)]
def Fm.anss (a : Fm) (n : Nat) : List Fm := (List.range n).map a.ups1
theorem Fm.anss_len (a : Fm) (n : Nat) : (a.anss n).length = n := by simp [Fm.anss]
theorem Fm.anss_succ (a : Fm) (n : Nat) : Fm.encs (a.anss (n + 1)) = Fm.encs (a.anss n) ++ [(a.ups1 n).enc] := by
  simp [Fm.anss, List.range_succ, Fm.encs_eq]
theorem Fm.anss_get {a : Fm} {n i : Nat} (h : i < n) : (Fm.encs (a.anss n)).getD i [] = (a.ups1 i).enc := by
  simp [Fm.anss, Fm.encs_eq, h]
theorem Fm.ups1_ok {a : Fm} (h : a.ok = true) : ∀ n, (a.ups1 n).ok = true
  | 0 => h
  | n + 1 => Fm.up_ok (by omega) _ (Fm.ups1_ok h n) _
theorem Fm.ups1_low {a : Fm} {m : Int} (h : a.low m) : ∀ n : Nat, (a.ups1 n).low (m + n)
  | 0 => by simpa [Fm.ups1] using h
  | n + 1 => by
    have := Fm.up_low (d := 1) (by omega) _ (Fm.ups1_low h n) 0
    rw [show m + ((n + 1 : Nat) : Int) = m + n + 1 by omega]
    exact this
theorem Fm.ups1_size {a : Fm} : ∀ n : Nat, (a.ups1 n).size = a.size
  | 0 => rfl
  | n + 1 => by rw [Fm.ups1, Fm.up1, Fm.up_size, Fm.ups1_size n]
theorem Fm.size_mk {k : Int} {t : Ty} {ts : List Tm} {as : List Fm} : (Fm.mk k t ts as).size = t.size + Tm.sizes ts + Fm.sizes as + 1 := by simp only [Fm.size]
mutual
theorem Fm.nd_le : ∀ f : Fm, 1 ≤ f.nd ∧ f.nd ≤ f.size
  | .mk k t ts [] => by simp only [Fm.nd, Fm.size]; omega
  | .mk k t ts [b] => by
    have := Fm.nd_le b
    simp only [Fm.nd, Fm.size, Fm.sizes]; split <;> omega
  | .mk k t ts [b, c] => by
    have := Fm.nd_le b
    have := Fm.nd_le c
    simp only [Fm.nd, Fm.size, Fm.sizes]; omega
  | .mk k t ts (b :: c :: d :: l) => by simp only [Fm.nd, Fm.size]; omega
end
theorem Fm.shape {k : Int} {t : Ty} {ts : List Tm} {as : List Fm} (h : (Fm.mk k t ts as).ok = true) :
    (k = 1 ∧ t = .mk 0 [] ∧ (∃ x y, ts = [x, y]) ∧ as = []) ∨ ((k = 2 ∨ k = 3) ∧ t = .mk 0 [] ∧ ts = [] ∧ ∃ b c, as = [b, c]) ∨ ((k = 4 ∨ k = 5 ∨ k = 6 ∨ k = 7) ∧ t.err = 0 ∧ ts = [] ∧ ∃ b, as = [b]) := by
  obtain ⟨h1, h2, _, _⟩ := Fm.ok_mk h
  have hz : ¬ Fm.quant k → t = .mk 0 [] := fun hq => by
    obtain ⟨tk, ta⟩ := t
    simp only [Fm.tyOk, Ty.zero] at h2
    rw [decide_eq_false hq, cond_false, decide_eq_true_eq] at h2
    rw [h2.1, List.eq_nil_of_length_eq_zero h2.2]
  rcases h1 with ⟨rfl, h3, h4⟩ | ⟨h3, h4, h5⟩ | ⟨h3, h4, h5⟩
  · left
    refine ⟨rfl, hz (by unfold Fm.quant; omega), ?_, List.eq_nil_of_length_eq_zero h4⟩
    match ts, h3 with
    | [x, y], _ => exact ⟨x, y, rfl⟩
  · right; left
    refine ⟨h3, hz (by unfold Fm.quant; omega), List.eq_nil_of_length_eq_zero h4, ?_⟩
    match as, h5 with
    | [x, y], _ => exact ⟨x, y, rfl⟩
  · right; right
    refine ⟨h3, ?_, List.eq_nil_of_length_eq_zero h4, ?_⟩
    · simp only [Fm.tyOk] at h2
      rw [decide_eq_true h3, cond_true, decide_eq_true_eq] at h2
      exact h2
    · match as, h5 with
      | [x], _ => exact ⟨x, rfl⟩
theorem Fm.nu_mk {k : Int} {t : Ty} {ts : List Tm} {as : List Fm} (h : (Fm.mk k t ts as).nu = true) : k ≠ 6 ∧ k ≠ 7 ∧ Fm.nus as = true := by
  simp only [Fm.nu, Bool.and_eq_true, decide_eq_true_eq] at h
  exact ⟨h.1.1, h.1.2, h.2⟩
theorem Fm.imp_size (a b : Fm) : (Fm.imp a b).size = a.size + b.size + 2 := by simp [Fm.imp, Fm.two, Fm.size, Fm.sizes, Tm.sizes, Ty.size, Ty.sizes]; omega
theorem Fm.two_size (k : Int) (a b : Fm) : (Fm.two k a b).size = a.size + b.size + 2 := by simp [Fm.two, Fm.size, Fm.sizes, Tm.sizes, Ty.size, Ty.sizes]; omega
theorem Fm.q_size (k : Int) (t : Ty) (a : Fm) : (Fm.q k t a).size = t.size + a.size + 1 := by simp [Fm.q, Fm.size, Fm.sizes, Tm.sizes]
theorem Fm.Tr_size {S : Nat} : ∀ (f a : Fm), a.size = S → (f.Tr a).size ≤ f.size * (2 * S + 8)
  | .mk k t ts [], a, h => by
    simp only [Fm.Tr, Fm.imp_size, h]
    generalize hx : (Fm.mk k t ts []).size = x
    have h1 : 1 ≤ x := by rw [← hx]; simp only [Fm.size]; omega
    obtain ⟨y, rfl⟩ : ∃ y, x = y + 1 := ⟨x - 1, by omega⟩
    rw [Nat.add_mul]
    have := Nat.le_mul_of_pos_right y (show 0 < 2 * S + 8 by omega)
    omega
  | .mk k t ts [b], a, h => by
    have h1 := Fm.Tr_size b a.up1 (by rw [Fm.up1, Fm.up_size, h])
    have h2 : a.up1.size = S := by rw [Fm.up1, Fm.up_size, h]
    have e : (Fm.mk k t ts [b]).size = t.size + Tm.sizes ts + b.size + 1 := by simp only [Fm.size, Fm.sizes]; omega
    simp only [Fm.Tr]
    have h3 : (t.size + Tm.sizes ts + b.size + 1) * (2 * S + 8) = (t.size + Tm.sizes ts) * (2 * S + 8) + b.size * (2 * S + 8) + (2 * S + 8) := by rw [Nat.add_mul, Nat.add_mul]; omega
    have h4 := Nat.le_mul_of_pos_right (t.size + Tm.sizes ts) (show 0 < 2 * S + 8 by omega)
    rw [e, h3]
    split
    · rw [Fm.q_size]; omega
    · rw [Fm.imp_size, Fm.q_size, Fm.imp_size, h2, h]; omega
  | .mk k t ts [b, c], a, h => by
    have h1 := Fm.Tr_size b a h
    have h2 := Fm.Tr_size c a h
    have e : (Fm.mk k t ts [b, c]).size = (t.size + Tm.sizes ts) + b.size + c.size + 1 := by simp only [Fm.size, Fm.sizes]; omega
    simp only [Fm.Tr, Fm.two_size]
    rw [e, Nat.add_mul, Nat.add_mul, Nat.add_mul]
    omega
  | .mk k t ts (b :: c :: d :: l), a, h => by
    simp only [Fm.Tr, Fm.imp_size, h]
    generalize hx : (Fm.mk k t ts (b :: c :: d :: l)).size = x
    have h1 : 1 ≤ x := by rw [← hx]; simp only [Fm.size]; omega
    obtain ⟨y, rfl⟩ : ∃ y, x = y + 1 := ⟨x - 1, by omega⟩
    rw [Nat.add_mul]
    have := Nat.le_mul_of_pos_right y (show 0 < 2 * S + 8 by omega)
    omega
theorem Fm.Tr_small {f a : Fm} (hf : f.size < 2 ^ 14) (ha : a.size < 2 ^ 14) : (f.Tr a).size < 2 ^ 31 := by
  have h := Fm.Tr_size f a rfl
  have h2 : f.size * (2 * a.size + 8) ≤ 2 ^ 14 * (2 * 2 ^ 14 + 8) := Nat.mul_le_mul (by omega) (by omega)
  omega
def Fm.lookE (a f : Fm) : Int := if a.err ≠ 0 then a.err else if f.err ≠ 0 then f.err else if f.nu = false then 10 else if a.least 536870912 = false then 1 else if 4096 < f.tsz a.num then 4 else 0
theorem Fm.lookE_zero {a f : Fm} (h : a.lookE f = 0) : a.err = 0 ∧ f.err = 0 ∧ f.nu = true ∧ a.least 536870912 = true ∧ f.tsz a.num ≤ 4096 := by
  unfold Fm.lookE at h
  split at h
  · omega
  · split at h
    · omega
    · split at h
      · omega
      · split at h
        · omega
        · split at h
          · omega
          · rename_i h1 h2 h3 h4 h5
            simp at h3 h4
            exact ⟨by omega, by omega, h3, h4, by omega⟩
mutual
theorem Fm.tct_eq {an : Int} (h : 0 ≤ an) : ∀ f : Fm, f.tct an = min (f.tsz an) 4097 ∧ 0 ≤ f.tsz an
  | .mk k t ts as => by
    have := Fm.tcts_eq h as
    simp only [Fm.tct, Fm.tsz]
    split
    · exact ⟨rfl, by omega⟩
    · split <;> omega
theorem Fm.tcts_eq {an : Int} (h : 0 ≤ an) : ∀ fs : List Fm, 0 ≤ Fm.tcts fs an ∧ Fm.tcts fs an ≤ Fm.tszs fs an ∧ (Fm.tcts fs an = Fm.tszs fs an ∨ 4097 ≤ Fm.tcts fs an)
  | [] => by simp [Fm.tcts, Fm.tszs]
  | f :: fs => by
    have := Fm.tct_eq h f
    have := Fm.tcts_eq h fs
    simp only [Fm.tcts, Fm.tszs]
    omega
end
theorem Fm.tct_b {an : Int} (h : 0 ≤ an) (f : Fm) : 0 ≤ f.tct an ∧ f.tct an ≤ 4097 := by have := Fm.tct_eq h f; omega
theorem Fm.tcts_b {an : Int} (h : 0 ≤ an) : ∀ fs : List Fm, 0 ≤ Fm.tcts fs an ∧ Fm.tcts fs an ≤ fs.length * 4097
  | [] => by simp [Fm.tcts]
  | f :: fs => by
    have := Fm.tct_b h f
    have := Fm.tcts_b h fs
    simp only [Fm.tcts, List.length_cons]; omega
def Fm.zero : Fm := .mk 0 (.mk 0 []) [] []
end Eng

namespace Eng
open Go
def Ty.nat : Ty := .mk 1 []
def Ty.list : Ty := .mk 2 []
def Ty.unit : Ty := .mk 5 []
def Ty.pair (a b : Ty) : Ty := .mk 3 [a, b]
def Ty.fn (a b : Ty) : Ty := .mk 4 [a, b]
mutual
theorem Ty.eq_of_same : ∀ {a b : Ty}, a.same b = true → a = b
  | .mk k as, .mk k' bs, h => by
    simp only [Ty.same, Bool.and_eq_true, decide_eq_true_eq] at h
    rw [h.1, Ty.eqs_of_same h.2]
theorem Ty.eqs_of_same : ∀ {as bs : List Ty}, Ty.sames as bs = true → as = bs
  | [], [], _ => rfl
  | a :: as, b :: bs, h => by
    simp only [Ty.sames, Bool.and_eq_true] at h
    rw [Ty.eq_of_same h.1, Ty.eqs_of_same h.2]
  | [], _ :: _, h => by simp [Ty.sames] at h
  | _ :: _, [], h => by simp [Ty.sames] at h
end
mutual
theorem Ty.same_refl : ∀ a : Ty, a.same a = true
  | .mk k as => by simp only [Ty.same, Ty.sames_refl as, decide_true, Bool.and_self]
theorem Ty.sames_refl : ∀ as : List Ty, Ty.sames as as = true
  | [] => rfl
  | a :: as => by simp only [Ty.sames, Ty.same_refl a, Ty.sames_refl as, Bool.and_self]
end
theorem Ty.same_iff {a b : Ty} : a.same b = true ↔ a = b := ⟨Ty.eq_of_same, fun h => h ▸ Ty.same_refl a⟩
theorem Ty.same_ne {a b : Ty} (h : a ≠ b) : a.same b = false := by
  cases hb : a.same b with
  | false => rfl
  | true => exact absurd (Ty.eq_of_same hb) h
def Ty.sized (t : Ty) : Except Int Ty := if t.err = 0 then .ok t else .error 4
def Tm.node (k : Int) (t : Ty) (l : List Ty) : Except Int Ty :=
  if k = 3 then match l with
    | [.mk fk [x, y], a] => if fk = 4 ∧ x.same a = true then .ok y else .error 7
    | _ => .error 7
  else if k = 4 then .ok .nat
  else if k = 5 then match l with
    | [a] => if a.same .nat = true then .ok .nat else .error 7
    | _ => .error 7
  else if k = 6 then match l with
    | [a, b, c] => if a.same t = true ∧ b.same (.fn .nat (.fn t t)) = true ∧ c.same .nat = true then .ok t else .error 7
    | _ => .error 7
  else if k = 7 then .ok .list
  else if k = 8 then match l with
    | [a, b] => if a.same .nat = true ∧ b.same .list = true then .ok .list else .error 7
    | _ => .error 7
  else if k = 9 then match l with
    | [a, b, c] => if a.same t = true ∧ b.same (.fn .nat (.fn .list (.fn t t))) = true ∧ c.same .list = true then .ok t else .error 7
    | _ => .error 7
  else if k = 10 then match l with
    | [a, b] => Ty.sized (.pair a b)
    | _ => .error 7
  else if k = 11 then match l with
    | [.mk fk [x, _]] => if fk = 3 then .ok x else .error 7
    | _ => .error 7
  else if k = 12 then match l with
    | [.mk fk [_, y]] => if fk = 3 then .ok y else .error 7
    | _ => .error 7
  else .ok .unit
mutual
def Tm.inf : Tm → List Ty → Except Int Ty
  | .mk k i t as, r =>
    if k = 1 then match r[i.toNat]? with
      | some u => .ok u
      | none => .error 6
    else if k = 2 then match Tm.infs as (t :: r) with
      | .ok [u] => Ty.sized (.fn t u)
      | .ok _ => .error 7
      | .error e => .error e
    else match Tm.infs as r with
      | .ok l => Tm.node k t l
      | .error e => .error e
def Tm.infs : List Tm → List Ty → Except Int (List Ty)
  | [], _ => .ok []
  | a :: as, r => match a.inf r with
    | .error e => .error e
    | .ok u => match Tm.infs as r with
      | .error e => .error e
      | .ok l => .ok (u :: l)
end
theorem Tm.infs_1 {a : Tm} {r : List Ty} {x : Ty} (ha : a.inf r = .ok x) : Tm.infs [a] r = .ok [x] := by simp only [Tm.infs, ha]
theorem Tm.infs_2 {a b : Tm} {r : List Ty} {x y : Ty} (ha : a.inf r = .ok x) (hb : b.inf r = .ok y) : Tm.infs [a, b] r = .ok [x, y] := by simp only [Tm.infs, ha, hb]
theorem Tm.infs_3 {a b c : Tm} {r : List Ty} {x y z : Ty} (ha : a.inf r = .ok x) (hb : b.inf r = .ok y) (hc : c.inf r = .ok z) : Tm.infs [a, b, c] r = .ok [x, y, z] := by simp only [Tm.infs, ha, hb, hc]
structure Ty.Sm (n : Nat) (t : Ty) : Prop where
  ok : t.ok = true
  sz : t.size ≤ n
theorem Ty.Sm.err {n : Nat} {t : Ty} (h : t.Sm n) (hn : n ≤ 64) : t.err = 0 := by
  unfold Ty.err
  rw [if_pos h.ok, if_neg (by have := h.sz; omega)]
theorem Ty.Sm.mono {n m : Nat} {t : Ty} (h : t.Sm n) (hn : n ≤ m) : t.Sm m := ⟨h.ok, by have := h.sz; omega⟩
theorem Ty.Sm.nat {n : Nat} (h : 1 ≤ n) : Ty.nat.Sm n := ⟨by decide, h⟩
theorem Ty.Sm.list {n : Nat} (h : 1 ≤ n) : Ty.list.Sm n := ⟨by decide, h⟩
theorem Ty.Sm.unit {n : Nat} (h : 1 ≤ n) : Ty.unit.Sm n := ⟨by decide, h⟩
theorem Ty.Sm.pair {n m : Nat} {a b : Ty} (ha : a.Sm n) (hb : b.Sm m) : (Ty.pair a b).Sm (n + m + 1) := ⟨by
  have := ha.ok; have := hb.ok; simp [Ty.pair, Ty.ok, Ty.oks, Ty.kindOk, *], by have := ha.sz; have := hb.sz; simp only [Ty.pair, Ty.size, Ty.sizes]; omega⟩
theorem Ty.Sm.fn {n m : Nat} {a b : Ty} (ha : a.Sm n) (hb : b.Sm m) : (Ty.fn a b).Sm (n + m + 1) := ⟨by
  have := ha.ok; have := hb.ok; simp [Ty.fn, Ty.ok, Ty.oks, Ty.kindOk, *], by have := ha.sz; have := hb.sz; simp only [Ty.fn, Ty.size, Ty.sizes]; omega⟩
structure Tm.Gd (r : List Ty) (t : Ty) (n : Nat) (u : Tm) : Prop where
  ok : u.ok = true
  ty : u.inf r = .ok t
  sz : u.size ≤ n
def Tm.n0 (k : Int) (as : List Tm) : Tm := .mk k 0 (.mk 0 []) as
def Tm.n1 (k : Int) (t : Ty) (as : List Tm) : Tm := .mk k 0 t as
section
variable {r : List Ty} {t s : Ty} {n m p : Nat} {a b c : Tm}
theorem Tm.Gd.mono (h : Tm.Gd r t n a) (hn : n ≤ m) : Tm.Gd r t m a := ⟨h.ok, h.ty, by have := h.sz; omega⟩
theorem Tm.Gd.var {i : Int} (h0 : 0 ≤ i) (h : r[i.toNat]? = some t) : Tm.Gd r t 2 (Tm.var i) :=
  ⟨by simp [Tm.var, Tm.ok, Tm.oks, Tm.want, Tm.tyOk, Ty.zero, h0], by simp [Tm.var, Tm.inf, h], by simp [Tm.var, Tm.size, Ty.size, Ty.sizes, Tm.sizes]⟩
theorem Tm.Gd.lam (hs : s.err = 0) (hf : (Ty.fn s t).err = 0) (h : Tm.Gd (s :: r) t n a) : Tm.Gd r (.fn s t) (n + s.size + 1) (Tm.n1 2 s [a]) :=
  ⟨by simp [Tm.n1, Tm.ok, Tm.oks, Tm.want, Tm.tyOk, hs, h.ok], by simp [Tm.n1, Tm.inf, Tm.infs_1 h.ty, Ty.sized, hf], by have := h.sz; simp only [Tm.n1, Tm.size, Tm.sizes]; omega⟩
theorem Tm.Gd.app (h : Tm.Gd r (.fn s t) n a) (h2 : Tm.Gd r s m b) : Tm.Gd r t (n + m + 2) (Tm.n0 3 [a, b]) :=
  ⟨by simp [Tm.n0, Tm.ok, Tm.oks, Tm.want, Tm.tyOk, Ty.zero, h.ok, h2.ok], by simp [Tm.n0, Tm.inf, Tm.infs_2 h.ty h2.ty, Tm.node, Ty.fn, Ty.same_refl], by have := h.sz; have := h2.sz; simp only [Tm.n0, Tm.size, Tm.sizes, Ty.size, Ty.sizes]; omega⟩
theorem Tm.Gd.zero : Tm.Gd r .nat 2 (Tm.n0 4 []) := ⟨by decide, by simp [Tm.n0, Tm.inf, Tm.infs, Tm.node], by decide⟩
theorem Tm.Gd.succ (h : Tm.Gd r .nat n a) : Tm.Gd r .nat (n + 2) (Tm.n0 5 [a]) :=
  ⟨by simp [Tm.n0, Tm.ok, Tm.oks, Tm.want, Tm.tyOk, Ty.zero, h.ok], by simp [Tm.n0, Tm.inf, Tm.infs_1 h.ty, Tm.node, Ty.same_refl], by have := h.sz; simp only [Tm.n0, Tm.size, Tm.sizes, Ty.size, Ty.sizes]; omega⟩
theorem Tm.Gd.recn (ht : t.err = 0) (h : Tm.Gd r t n a) (h2 : Tm.Gd r (.fn .nat (.fn t t)) m b) (h3 : Tm.Gd r .nat p c) : Tm.Gd r t (n + m + p + t.size + 1) (Tm.n1 6 t [a, b, c]) :=
  ⟨by simp [Tm.n1, Tm.ok, Tm.oks, Tm.want, Tm.tyOk, ht, h.ok, h2.ok, h3.ok], by simp [Tm.n1, Tm.inf, Tm.infs_3 h.ty h2.ty h3.ty, Tm.node, Ty.same_refl], by have := h.sz; have := h2.sz; have := h3.sz; simp only [Tm.n1, Tm.size, Tm.sizes]; omega⟩
theorem Tm.Gd.nil : Tm.Gd r .list 2 (Tm.n0 7 []) := ⟨by decide, by simp [Tm.n0, Tm.inf, Tm.infs, Tm.node], by decide⟩
theorem Tm.Gd.cons (h : Tm.Gd r .nat n a) (h2 : Tm.Gd r .list m b) : Tm.Gd r .list (n + m + 2) (Tm.n0 8 [a, b]) :=
  ⟨by simp [Tm.n0, Tm.ok, Tm.oks, Tm.want, Tm.tyOk, Ty.zero, h.ok, h2.ok], by simp [Tm.n0, Tm.inf, Tm.infs_2 h.ty h2.ty, Tm.node, Ty.same_refl], by have := h.sz; have := h2.sz; simp only [Tm.n0, Tm.size, Tm.sizes, Ty.size, Ty.sizes]; omega⟩
theorem Tm.Gd.fold (ht : t.err = 0) (h : Tm.Gd r t n a) (h2 : Tm.Gd r (.fn .nat (.fn .list (.fn t t))) m b) (h3 : Tm.Gd r .list p c) : Tm.Gd r t (n + m + p + t.size + 1) (Tm.n1 9 t [a, b, c]) :=
  ⟨by simp [Tm.n1, Tm.ok, Tm.oks, Tm.want, Tm.tyOk, ht, h.ok, h2.ok, h3.ok], by simp [Tm.n1, Tm.inf, Tm.infs_3 h.ty h2.ty h3.ty, Tm.node, Ty.same_refl], by have := h.sz; have := h2.sz; have := h3.sz; simp only [Tm.n1, Tm.size, Tm.sizes]; omega⟩
theorem Tm.Gd.pair (hp : (Ty.pair s t).err = 0) (h : Tm.Gd r s n a) (h2 : Tm.Gd r t m b) : Tm.Gd r (.pair s t) (n + m + 2) (Tm.n0 10 [a, b]) :=
  ⟨by simp [Tm.n0, Tm.ok, Tm.oks, Tm.want, Tm.tyOk, Ty.zero, h.ok, h2.ok], by simp [Tm.n0, Tm.inf, Tm.infs_2 h.ty h2.ty, Tm.node, Ty.sized, hp], by have := h.sz; have := h2.sz; simp only [Tm.n0, Tm.size, Tm.sizes, Ty.size, Ty.sizes]; omega⟩
theorem Tm.Gd.fst (h : Tm.Gd r (.pair s t) n a) : Tm.Gd r s (n + 2) (Tm.n0 11 [a]) :=
  ⟨by simp [Tm.n0, Tm.ok, Tm.oks, Tm.want, Tm.tyOk, Ty.zero, h.ok], by simp [Tm.n0, Tm.inf, Tm.infs_1 h.ty, Tm.node, Ty.pair], by have := h.sz; simp only [Tm.n0, Tm.size, Tm.sizes, Ty.size, Ty.sizes]; omega⟩
theorem Tm.Gd.snd (h : Tm.Gd r (.pair s t) n a) : Tm.Gd r t (n + 2) (Tm.n0 12 [a]) :=
  ⟨by simp [Tm.n0, Tm.ok, Tm.oks, Tm.want, Tm.tyOk, Ty.zero, h.ok], by simp [Tm.n0, Tm.inf, Tm.infs_1 h.ty, Tm.node, Ty.pair], by have := h.sz; simp only [Tm.n0, Tm.size, Tm.sizes, Ty.size, Ty.sizes]; omega⟩
theorem Tm.Gd.unit : Tm.Gd r .unit 2 (Tm.n0 13 []) := ⟨by decide, by simp [Tm.n0, Tm.inf, Tm.infs, Tm.node], by decide⟩
end
def Tm.numl : Nat → Tm
  | 0 => Tm.n0 4 []
  | n + 1 => Tm.n0 5 [Tm.numl n]
def Tm.lamN (a : Tm) : Tm := Tm.n1 2 .nat [a]
def Tm.recN (a b c : Tm) : Tm := Tm.n1 6 .nat [a, b, c]
def Tm.pred : Tm := .lamN (.recN (.n0 4 []) (.lamN (.lamN (.var 1))) (.var 0))
def Tm.plus : Tm := .lamN (.lamN (.recN (.var 1) (.lamN (.lamN (.n0 5 [.var 0]))) (.var 0)))
def Tm.sub : Tm := .lamN (.lamN (.recN (.var 1) (.lamN (.lamN (.n0 3 [.pred, .var 0]))) (.var 0)))
theorem Tm.Gd.numl {r : List Ty} : ∀ n : Nat, Tm.Gd r .nat (2 * n + 2) (Tm.numl n)
  | 0 => Tm.Gd.zero
  | n + 1 => (Tm.Gd.succ (Tm.Gd.numl n)).mono (by omega)
theorem Tm.Gd.pred {r : List Ty} : Tm.Gd r (.fn .nat .nat) 40 Tm.pred := by
  refine Tm.Gd.mono (.lam (by decide) (by decide) (.recn (by decide) .zero (.lam (by decide) (by decide) (.lam (by decide) (by decide) (.var (by decide) (by rfl)))) (.var (by decide) (by rfl)))) (by decide)
theorem Tm.Gd.plus {r : List Ty} : Tm.Gd r (.fn .nat (.fn .nat .nat)) 40 Tm.plus := by
  refine Tm.Gd.mono (.lam (by decide) (by decide) (.lam (by decide) (by decide) (.recn (by decide) (.var (by decide) (by rfl)) (.lam (by decide) (by decide) (.lam (by decide) (by decide) (.succ (.var (by decide) (by rfl))))) (.var (by decide) (by rfl))))) (by decide)
theorem Tm.Gd.sub {r : List Ty} : Tm.Gd r (.fn .nat (.fn .nat .nat)) 100 Tm.sub := by
  refine Tm.Gd.mono (.lam (by decide) (by decide) (.lam (by decide) (by decide) (.recn (by decide) (.var (by decide) (by rfl)) (.lam (by decide) (by decide) (.lam (by decide) (by decide) (.app .pred (.var (by decide) (by rfl))))) (.var (by decide) (by rfl))))) (by decide)
theorem Tm.n0_size (k : Int) (as : List Tm) : (Tm.n0 k as).size = Tm.sizes as + 2 := by simp only [Tm.n0, Tm.size, Ty.size, Ty.sizes]; omega
theorem Tm.n1_size (k : Int) (t : Ty) (as : List Tm) : (Tm.n1 k t as).size = t.size + Tm.sizes as + 1 := by simp only [Tm.n1, Tm.size]
theorem Tm.var_size (i : Int) : (Tm.var i).size = 2 := rfl
theorem Tm.numl_size : ∀ n : Nat, (Tm.numl n).size = 2 * n + 2
  | 0 => rfl
  | n + 1 => by rw [Tm.numl, Tm.n0_size]; simp only [Tm.sizes, Tm.numl_size n]; omega
theorem Tm.plus_size : Tm.plus.size ≤ 40 := by decide
theorem Tm.sub_size : Tm.sub.size ≤ 100 := by decide
theorem Tm.Gd.pk {r : List Ty} {t : Ty} {n : Nat} {u : Tm} {P : Prop} (hp : P) (h : Tm.Gd r t n u) : (P ∧ u.size ≤ n) ∧ Tm.Gd r t n u := ⟨⟨hp, h.sz⟩, h⟩
theorem Ty.Sm.pk {n : Nat} {t : Ty} {P : Prop} (hp : P) (h : t.Sm n) : (P ∧ t.size ≤ n) ∧ t.Sm n := ⟨⟨hp, h.sz⟩, h⟩
def CtxOk (b : Nat) (r : List Ty) : Prop := r.length ≤ b ∧ ∀ s ∈ r, s.Sm 3
theorem CtxOk.cons {b : Nat} {r : List Ty} {s : Ty} (h : CtxOk b r) (hs : s.Sm 3) : CtxOk (b + 1) (s :: r) := ⟨by have := h.1; simp only [List.length_cons]; omega, fun u hu => by
  rcases List.mem_cons.1 hu with rfl | hu
  · exact hs
  · exact h.2 u hu⟩
theorem CtxOk.mono {b c : Nat} {r : List Ty} (h : CtxOk b r) (hb : b ≤ c) : CtxOk c r := ⟨by have := h.1; omega, h.2⟩
theorem Ty.size1 : ∀ {t : Ty}, t.Sm 1 → t = .nat ∨ t = .list ∨ t = .unit
  | .mk k as, h => by
    have h1 := h.sz
    have h2 := h.ok
    have : as = [] := by
      cases as with
      | nil => rfl
      | cons a as => have := Ty.size_pos a; simp only [Ty.size, Ty.sizes] at h1; omega
    subst this
    simp only [Ty.ok, Ty.oks, Bool.and_true, decide_eq_true_eq, Ty.kindOk, List.length_nil] at h2
    unfold Ty.nat Ty.list Ty.unit
    rcases (show k = 1 ∨ k = 2 ∨ k = 5 by omega) with rfl | rfl | rfl <;> simp
theorem Ty.size3 {t : Ty} (h : t.Sm 3) : t = .nat ∨ t = .list ∨ t = .unit ∨ (∃ a b : Ty, a.Sm 1 ∧ b.Sm 1 ∧ t = .pair a b) ∨ ∃ a b : Ty, a.Sm 1 ∧ b.Sm 1 ∧ t = .fn a b := by
  obtain ⟨k, as⟩ := t
  have h1 := h.sz
  have h2 := h.ok
  simp only [Ty.ok, Bool.and_eq_true, decide_eq_true_eq] at h2
  rcases h2.1 with ⟨hk, hl⟩ | ⟨hk, hl⟩
  · obtain rfl := List.eq_nil_of_length_eq_zero hl
    unfold Ty.nat Ty.list Ty.unit
    rcases hk with rfl | rfl | rfl <;> simp
  · match as, hl with
    | [a, b], _ =>
      simp only [Ty.oks, Bool.and_true, Bool.and_eq_true] at h2
      simp only [Ty.size, Ty.sizes] at h1
      have ha := Ty.size_pos a
      have hb := Ty.size_pos b
      have sa : a.Sm 1 := ⟨h2.2.1, by omega⟩
      have sb : b.Sm 1 := ⟨h2.2.2, by omega⟩
      rcases hk with rfl | rfl
      · exact .inr (.inr (.inr (.inl ⟨a, b, sa, sb, rfl⟩)))
      · exact .inr (.inr (.inr (.inr ⟨a, b, sa, sb, rfl⟩)))
theorem Ty.nat_size : Ty.nat.size = 1 := rfl
theorem Ty.list_size : Ty.list.size = 1 := rfl
theorem Ty.enc_shape (f : Ty) (h : f.Sm 3) : (∃ x y : Ty, x.Sm 1 ∧ y.Sm 1 ∧ f = .fn x y ∧ f.enc = [.int .i64 4, .sl 2 [x.enc, y.enc]]) ∨ ∃ k rows, f.enc = [.int .i64 k, .sl 2 rows] ∧ k ≠ 4 := by
  rcases Ty.size3 h with rfl | rfl | rfl | ⟨x, y, hx, hy, rfl⟩ | ⟨x, y, hx, hy, rfl⟩
  · exact .inr ⟨1, _, rfl, by decide⟩
  · exact .inr ⟨2, _, rfl, by decide⟩
  · exact .inr ⟨5, _, rfl, by decide⟩
  · exact .inr ⟨3, _, rfl, by decide⟩
  · exact .inl ⟨x, y, hx, hy, rfl, by simp [Ty.fn, Ty.enc, Ty.encs]⟩
theorem Tm.Gd.pair' {r : List Ty} {s t : Ty} {n m : Nat} {a b : Tm} (h : Tm.Gd r s n a) (h2 : Tm.Gd r t m b) (hp : (Ty.pair s t).err = 0) : Tm.Gd r (.pair s t) (n + m + 2) (Tm.n0 10 [a, b]) := Tm.Gd.pair hp h h2
def Tm.natE : List Tm → List Ty → Int
  | [], _ => 0
  | t :: ts, r => match t.inf r with
    | .error e => e
    | .ok s => if s.kind ≠ 1 then 7 else Tm.natE ts r
mutual
def Fm.tyE : Fm → List Ty → Int
  | .mk k t ts as, r => if Tm.natE ts r ≠ 0 then Tm.natE ts r else Fm.tyEs as (if Fm.quant k then t :: r else r)
def Fm.tyEs : List Fm → List Ty → Int
  | [], _ => 0
  | f :: fs, r => if f.tyE r ≠ 0 then f.tyE r else Fm.tyEs fs r
end
structure Fm.Gd (r : List Ty) (n : Nat) (f : Fm) : Prop where
  ok : f.ok = true
  ty : f.tyE r = 0
  sz : f.size ≤ n
section
variable {r : List Ty} {t : Ty} {n m : Nat} {a b : Fm} {x y : Tm}
theorem Fm.Gd.mono (h : Fm.Gd r n a) (hn : n ≤ m) : Fm.Gd r m a := ⟨h.ok, h.ty, by have := h.sz; omega⟩
theorem Fm.Gd.eq (h : Tm.Gd r .nat n x) (h2 : Tm.Gd r .nat m y) : Fm.Gd r (n + m + 2) (Fm.eq x y) :=
  ⟨by simp [Fm.eq, Fm.ok, Fm.oks, Tm.oks, Fm.kindOk, Fm.tyOk, Ty.zero, Fm.quant, h.ok, h2.ok], by simp [Fm.eq, Fm.tyE, Fm.tyEs, Tm.natE, h.ty, h2.ty, Ty.nat, Ty.kind], by have := h.sz; have := h2.sz; simp only [Fm.eq, Fm.size, Fm.sizes, Tm.sizes, Ty.size, Ty.sizes]; omega⟩
theorem Fm.Gd.two {k : Int} (hk : k = 2 ∨ k = 3) (h : Fm.Gd r n a) (h2 : Fm.Gd r m b) : Fm.Gd r (n + m + 2) (Fm.two k a b) := by
  have hq : ¬ Fm.quant k := by unfold Fm.quant; omega
  refine ⟨?_, ?_, by have := h.sz; have := h2.sz; rw [Fm.two_size]; omega⟩
  · simp [Fm.two, Fm.ok, Fm.oks, Tm.oks, Fm.tyOk, Ty.zero, hq, h.ok, h2.ok, Fm.kindOk]; omega
  · simp [Fm.two, Fm.tyE, Fm.tyEs, Tm.natE, hq, h.ty, h2.ty]
theorem Fm.Gd.q {k : Int} (hk : Fm.quant k) (ht : t.err = 0) (h : Fm.Gd (t :: r) n a) : Fm.Gd r (n + t.size + 1) (Fm.q k t a) := by
  refine ⟨?_, ?_, by have := h.sz; rw [Fm.q_size]; omega⟩
  · simp [Fm.q, Fm.ok, Fm.oks, Tm.oks, Fm.tyOk, ht, hk, h.ok, Fm.kindOk]
  · simp [Fm.q, Fm.tyE, Fm.tyEs, Tm.natE, hk, h.ty]
end
theorem Fm.Gd.pk {r : List Ty} {n : Nat} {u : Fm} {P Q : Prop} (hp : P) (h : Fm.Gd r n u) (hq : Q) : (P ∧ u.size ≤ n) ∧ Fm.Gd r n u ∧ Q := ⟨⟨hp, h.sz⟩, h, hq⟩
theorem Fm.nu_eq {x y : Tm} : (Fm.eq x y).nu = true := by simp [Fm.eq, Fm.nu, Fm.nus]
theorem Fm.nu_two {k : Int} {a b : Fm} (hk : k = 2 ∨ k = 3) (ha : a.nu = true) (hb : b.nu = true) : (Fm.two k a b).nu = true := by simp [Fm.two, Fm.nu, Fm.nus, ha, hb]; omega
theorem Fm.nu_q {k : Int} {t : Ty} {a : Fm} (hk : k = 4 ∨ k = 5) (ha : a.nu = true) : (Fm.q k t a).nu = true := by simp [Fm.q, Fm.nu, Fm.nus, ha]; omega
end Eng

namespace Eng
open Go
mutual
theorem Ty.cnt_size : ∀ (t : Ty) (most : Int), t.cnt most ≤ most → t.cnt most = t.size
  | .mk k as, most, h => by
    simp only [Ty.cnt] at h ⊢
    rw [Ty.cnts_size as 1 most h]
    simp only [Ty.size]; omega
theorem Ty.cnts_size : ∀ (ts : List Ty) (n most : Int), Ty.cnts ts n most ≤ most → Ty.cnts ts n most = n + Ty.sizes ts
  | [], n, most, h => by simp only [Ty.cnts, Ty.sizes]; omega
  | t :: ts, n, most, h => by
    simp only [Ty.cnts] at h ⊢
    split at h
    · rename_i hn
      rw [if_pos hn]
      have h1 := Ty.cnts_b ts (n + t.cnt (most - n)) most
      have h2 := Ty.cnt_size t (most - n) (by omega)
      rw [Ty.cnts_size ts _ most h, h2]
      simp only [Ty.sizes]; omega
    · omega
end
mutual
theorem Tm.cnt_size : ∀ (t : Tm) (most : Int), t.cnt most ≤ most → t.cnt most = t.size
  | .mk k i t as, most, h => by
    simp only [Tm.cnt] at h ⊢
    have h1 := Tm.cnts_b as (1 + t.cnt (most - 1)) most
    have h2 := Ty.cnt_size t (most - 1) (by omega)
    rw [Tm.cnts_size as _ most h, h2]
    simp only [Tm.size]; omega
theorem Tm.cnts_size : ∀ (ts : List Tm) (n most : Int), Tm.cnts ts n most ≤ most → Tm.cnts ts n most = n + Tm.sizes ts
  | [], n, most, h => by simp only [Tm.cnts, Tm.sizes]; omega
  | t :: ts, n, most, h => by
    simp only [Tm.cnts] at h ⊢
    split at h
    · rename_i hn
      rw [if_pos hn]
      have h1 := Tm.cnts_b ts (n + t.cnt (most - n)) most
      have h2 := Tm.cnt_size t (most - n) (by omega)
      rw [Tm.cnts_size ts _ most h, h2]
      simp only [Tm.sizes]; omega
    · omega
end
mutual
theorem Fm.cnt_size : ∀ (t : Fm) (most : Int), t.cnt most ≤ most → t.cnt most = t.size
  | .mk k t ts as, most, h => by
    simp only [Fm.cnt] at h ⊢
    have h1 := Fm.cnts_b as (Tm.cnts ts (1 + t.cnt (most - 1)) most) most
    have h0 := Tm.cnts_b ts (1 + t.cnt (most - 1)) most
    have h2 := Ty.cnt_size t (most - 1) (by omega)
    have h3 := Tm.cnts_size ts (1 + t.cnt (most - 1)) most (by omega)
    rw [Fm.cnts_size as _ most h, h3, h2]
    simp only [Fm.size]; omega
theorem Fm.cnts_size : ∀ (ts : List Fm) (n most : Int), Fm.cnts ts n most ≤ most → Fm.cnts ts n most = n + Fm.sizes ts
  | [], n, most, h => by simp only [Fm.cnts, Fm.sizes]; omega
  | t :: ts, n, most, h => by
    simp only [Fm.cnts] at h ⊢
    split at h
    · rename_i hn
      rw [if_pos hn]
      have h1 := Fm.cnts_b ts (n + t.cnt (most - n)) most
      have h2 := Fm.cnt_size t (most - n) (by omega)
      rw [Fm.cnts_size ts _ most h, h2]
      simp only [Fm.sizes]; omega
    · omega
end
mutual
theorem Tm.same_refl : ∀ t : Tm, t.same t = true
  | .mk k i t as => by simp only [Tm.same, Ty.same_refl, Tm.sames_refl as, and_self, decide_true, Bool.and_self]
theorem Tm.sames_refl : ∀ ts : List Tm, Tm.sames ts ts = true
  | [] => rfl
  | t :: ts => by simp only [Tm.sames, Tm.same_refl t, Tm.sames_refl ts, Bool.and_self]
end
mutual
theorem Fm.same_refl : ∀ t : Fm, t.same t = true
  | .mk k t ts as => by simp only [Fm.same, Ty.same_refl, Tm.sames_refl, Fm.sames_refl as, decide_true, Bool.and_self]
theorem Fm.sames_refl : ∀ ts : List Fm, Fm.sames ts ts = true
  | [] => rfl
  | t :: ts => by simp only [Fm.sames, Fm.same_refl t, Fm.sames_refl ts, Bool.and_self]
end
theorem get3 {α : Type} {e : α → List PV} {a b c : α} {P : α → Prop} (ha : P a) (hb : P b) (hc : P c) {j : Int} (h : 0 ≤ j ∧ j < 3) : ∃ x, P x ∧ [e a, e b, e c].getD j.toNat [] = e x := by
  rcases (show j = 0 ∨ j = 1 ∨ j = 2 by omega) with rfl | rfl | rfl
  · exact ⟨a, ha, rfl⟩
  · exact ⟨b, hb, rfl⟩
  · exact ⟨c, hc, rfl⟩
end Eng

/- The abstract machine: values, heap, operations. A finer, deterministic reading of a program's run, in which no address, no capacity and no drawn order is seen. -/
import Derived.RangeFuncLeaves
import Derived.RangeFuncCalls
import Derived.OrdersIn
import Derived.Below
namespace Go.Ai

/-- What is known of a slice's capacity: a number, or that it goes to the end of the block that bears it (esz: cells of an element). -/
inductive Cap where
  | exact (c : Nat)
  | rest (esz : Nat)
  deriving DecidableEq

inductive AV where
  | bool (b : Bool)
  | int (k : IntKind) (n : Int)
  | str (s : ByteArray)
  | ptr (id off : Nat)
  | nilptr
  | slice (id off len : Nat) (cap : Cap)
  | nilslice
  | empty (id off z : Nat)
  | map (id : Nat)
  | nilmap
  | func (f : FuncId) (first cap : List AV)
  | yieldf (l : Nat)
  | nilfunc
  | iface (t : TypeId) (v : AV)
  | niliface
  | agg (cs : List AV)
  | tuple (vs : List AV)
  /-- A slice of so many elements, with these cells, in memory that stays as it is; a pointer into such memory. -/
  | lst (n : Nat) (cs : List AV)
  | ipt (cs : List AV) (off : Nat)
  | other

instance : Inhabited AV := ⟨.tuple []⟩

/-- Where a block of the abstract heap lies: the block, the place of its first cell, the cells of the whole block. -/
structure Pt where
  blk : Nat
  base : Nat
  tot : Nat

/-- Where the abstract heap's blocks lie; which blocks stay as they are, and what is in them; which of them did from the start. -/
structure Mp where
  f : Nat → Option Pt
  im : Nat → Option (Array Value)
  im0 : Nat → Option (Array Value)
def Mp.pure (M : Mp) : Mp := ⟨fun _ => none, M.im, M.im0⟩
instance : CoeFun Mp fun _ => Nat → Option Pt := ⟨Mp.f⟩

def capOk (p : Pt) (off : Nat) : Cap → Nat → Prop
  | .exact c', c => c = c'
  | .rest esz, c => p.base + off + c * esz = p.tot

mutual
def RV (M : Mp) : AV → Value → Prop
  | .bool b, v => v = .bool b
  | .int k n, v => v = .int k n
  | .str s, v => v = .string s
  | .ptr id off, v => ∃ p, M id = some p ∧ v = .pointer (some ⟨p.blk, p.base + off, none⟩)
  | .nilptr, v => v = .pointer none
  | .slice id off len cap, v => ∃ p c, M id = some p ∧ v = .slice (some ⟨p.blk, p.base + off, none⟩) len c ∧ len ≤ c ∧ capOk p off cap c
  | .nilslice, v => v = .slice none 0 0
  | .empty id off z, v => ∃ p a c, M id = some p ∧ v = .slice (some a) 0 c ∧ (c = 0 ∨ (a = ⟨p.blk, p.base + off, none⟩ ∧ p.base + off + c * z = p.tot))
  | .map id, v => ∃ p, M id = some p ∧ v = .map (some p.blk)
  | .nilmap, v => v = .map none
  | .func f xs ys, v => ∃ xs' ys', v = .func (.func f) xs' ys' ∧ RVs M xs xs'.toList ∧ RVs M ys ys'.toList
  | .yieldf l, v => ∃ p, M l = some p ∧ v = .func (.yield p.blk) #[] #[]
  | .nilfunc, v => v = .nilFunc
  | .iface t x, v => ∃ x', v = .iface t x' ∧ RV M x x'
  | .niliface, v => v = .nilIface
  | .agg cs, v => ∃ cs', v = .agg cs' ∧ RVs M cs cs'.toList
  | .tuple cs, v => ∃ cs', v = .tuple cs' ∧ RVs M cs cs'.toList
  | .lst n cs, v => ∃ a c, v = .slice a n c ∧ n ≤ c ∧ (n = 0 ∨ ∃ b o arr, a = some ⟨b, o, none⟩ ∧ M.im b = some arr ∧ o + cs.length ≤ arr.size ∧ RVs M.pure cs ((arr.toList.drop o).take cs.length))
  | .ipt cs off, v => ∃ b o arr, v = .pointer (some ⟨b, o + off, none⟩) ∧ M.im b = some arr ∧ o + cs.length ≤ arr.size ∧ RVs M.pure cs ((arr.toList.drop o).take cs.length)
  | .other, _ => True
def RVs (M : Mp) : List AV → List Value → Prop
  | [], vs => vs = []
  | a :: as, vs => ∃ v rest, vs = v :: rest ∧ RV M a v ∧ RVs M as rest
end

/-! ### The heap: a tree over numbers -/
inductive AO where
  | cells (cs : List AV) (ro : Bool)
  /-- Bytes in a block of this element type. -/
  | byt (e : TypeId) (cs : List AV)
  /-- A variable of this type, whole. -/
  | var (e : TypeId) (cs : List AV)
  | gone
  | map (es : List (AV × AV × Nat)) (clock : Nat)
  | iter (s : ByteArray) (pos : Nat)
  | loop (st : LoopState) (pend : Option Code) (tm : List AV) (params : List Tmp) (assign body : Code)
  | dfr

inductive Tr where
  | e
  | n (l : Tr) (v : Option AO) (r : Tr)

def Tr.get : Tr → Nat → Option AO
  | .e, _ => none
  | .n l v r, k => match k with
    | 0 => v
    | k + 1 => bif k % 2 == 0 then l.get (k / 2) else r.get (k / 2)

def Tr.put : Nat → Tr → Nat → Option AO → Tr
  | 0, t, _, _ => t
  | f + 1, t, k, o =>
    match t, k with
    | .e, 0 => .n .e o .e
    | .n l _ r, 0 => .n l o r
    | .e, k + 1 => bif k % 2 == 0 then .n (Tr.put f .e (k / 2) o) none .e else .n .e none (Tr.put f .e (k / 2) o)
    | .n l v r, k + 1 => bif k % 2 == 0 then .n (Tr.put f l (k / 2) o) v r else .n l v (Tr.put f r (k / 2) o)

theorem Tr.get_put : ∀ (f : Nat) (t : Tr) (k : Nat) (o : Option AO) (j : Nat), k < f → (Tr.put f t k o).get j = if j = k then o else t.get j := by
  intro f
  induction f with
  | zero => intro t k o j h; omega
  | succ f ih =>
    intro t k o j h
    cases t with
    | e =>
      cases k with
      | zero => cases j with
        | zero => simp [Tr.put, Tr.get]
        | succ j => simp only [Tr.put, Tr.get]; cases j % 2 == 0 <;> simp
      | succ k =>
        simp only [Tr.put]
        by_cases hk : k % 2 = 0
        · rw [show (k % 2 == 0) = true by simp [hk]]
          simp only [cond_true]
          cases j with
          | zero => simp [Tr.get]
          | succ j =>
            simp only [Tr.get]
            by_cases hj : j % 2 = 0
            · rw [show (j % 2 == 0) = true by simp [hj]]
              simp only [cond_true]
              rw [ih _ _ _ _ (by omega)]
              by_cases hjk : j / 2 = k / 2
              · rw [if_pos hjk, if_pos (by omega)]
              · rw [if_neg hjk, if_neg (by omega)]; simp [Tr.get]
            · rw [show (j % 2 == 0) = false by simp; omega]
              simp only [cond_false]
              rw [if_neg (by omega)]
        · rw [show (k % 2 == 0) = false by simp; omega]
          simp only [cond_false]
          cases j with
          | zero => simp [Tr.get]
          | succ j =>
            simp only [Tr.get]
            by_cases hj : j % 2 = 0
            · rw [show (j % 2 == 0) = true by simp [hj]]
              simp only [cond_true]
              rw [if_neg (by omega)]
            · rw [show (j % 2 == 0) = false by simp; omega]
              simp only [cond_false]
              rw [ih _ _ _ _ (by omega)]
              by_cases hjk : j / 2 = k / 2
              · rw [if_pos hjk, if_pos (by omega)]
              · rw [if_neg hjk, if_neg (by omega)]; simp [Tr.get]
    | n l v r =>
      cases k with
      | zero => cases j with
        | zero => simp [Tr.put, Tr.get]
        | succ j => simp only [Tr.put, Tr.get]; simp
      | succ k =>
        simp only [Tr.put]
        by_cases hk : k % 2 = 0
        · rw [show (k % 2 == 0) = true by simp [hk]]
          simp only [cond_true]
          cases j with
          | zero => simp [Tr.get]
          | succ j =>
            simp only [Tr.get]
            by_cases hj : j % 2 = 0
            · rw [show (j % 2 == 0) = true by simp [hj]]
              simp only [cond_true]
              rw [ih _ _ _ _ (by omega)]
              by_cases hjk : j / 2 = k / 2
              · rw [if_pos hjk, if_pos (by omega)]
              · rw [if_neg hjk, if_neg (by omega)]
            · rw [show (j % 2 == 0) = false by simp; omega]
              simp only [cond_false]
              rw [if_neg (by omega)]
        · rw [show (k % 2 == 0) = false by simp; omega]
          simp only [cond_false]
          cases j with
          | zero => simp [Tr.get]
          | succ j =>
            simp only [Tr.get]
            by_cases hj : j % 2 = 0
            · rw [show (j % 2 == 0) = true by simp [hj]]
              simp only [cond_true]
              rw [if_neg (by omega)]
            · rw [show (j % 2 == 0) = false by simp; omega]
              simp only [cond_false]
              rw [ih _ _ _ _ (by omega)]
              by_cases hjk : j / 2 = k / 2
              · rw [if_pos hjk, if_pos (by omega)]
              · rw [if_neg hjk, if_neg (by omega)]

/-- The heap: its blocks; the next number; below which number writes are told; which have been written. -/
structure AH where
  t : Tr
  n : Nat
  pb : Nat
  ws : List Nat
  /-- What calls to come will answer: the value, the heap's tree, its next number, what is told as written. -/
  tp : List (AV × Tr × Nat × List Nat)

def AH.get (h : AH) (id : Nat) : Option AO := h.t.get id
def AH.push (h : AH) (o : AO) : AH := { t := Tr.put (h.n + 1) h.t h.n (some o), n := h.n + 1, pb := h.pb, ws := h.ws, tp := h.tp }
def AH.set (h : AH) (id : Nat) (o : AO) : AH := { t := Tr.put (id + 1) h.t id (some o), n := h.n, pb := h.pb, ws := bif decide (id < h.pb) then id :: h.ws else h.ws, tp := h.tp }

theorem AH.get_push (h : AH) (o : AO) (j : Nat) : (h.push o).get j = if j = h.n then some o else h.get j := Tr.get_put _ _ _ _ _ (Nat.lt_succ_self _)
theorem AH.get_set (h : AH) (id : Nat) (o : AO) (j : Nat) : (h.set id o).get j = if j = id then some o else h.get j := Tr.get_put _ _ _ _ _ (Nat.lt_succ_self _)
theorem AH.push_n (h : AH) (o : AO) : (h.push o).n = h.n + 1 := rfl
theorem AH.set_n (h : AH) (id : Nat) (o : AO) : (h.set id o).n = h.n := rfl

/-- The cells of a value that may lie in memory. -/
def AV.box : AV → Option (List AV)
  | .agg cs => some cs
  | .tuple _ => none
  | .other => none
  | v => some [v]
def AV.one : AV → Bool
  | .agg _ => false
  | .tuple _ => false
  | .other => false
  | _ => true
def undefA : AV := .tuple []

/-- A constant's reading. -/
def ofVal : Nat → Value → Option AV
  | _, .bool b => some (.bool b)
  | _, .int k n => some (.int k n)
  | _, .string s => some (.str s)
  | _, .pointer none => some .nilptr
  | _, .slice none 0 0 => some .nilslice
  | _, .map none => some .nilmap
  | _, .func (.func f) xs ys => if xs.isEmpty && ys.isEmpty then some (.func f [] []) else none
  | _, .nilFunc => some .nilfunc
  | _, .nilIface => some .niliface
  | d + 1, .iface t v => (ofVal d v).map (.iface t)
  | d + 1, .agg cs => (cs.toList.mapM (ofVal d)).map .agg
  | _, _ => none

end Go.Ai

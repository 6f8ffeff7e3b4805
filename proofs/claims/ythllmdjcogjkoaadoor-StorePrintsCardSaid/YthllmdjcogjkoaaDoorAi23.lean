/- What a function answers, told without a heap: data that stays, and blocks of its own. -/
import Derived.Test.YthllmdjcogjkoaaDoorAi22
namespace Go.Ai
set_option linter.unusedSimpArgs false
set_option linter.unusedVariables false

/-! ### Values without numbers of blocks; numbers moved -/
mutual
def idf : AV → Bool
  | .ptr _ _ => false
  | .slice _ _ _ _ => false
  | .empty _ _ _ => false
  | .map _ => false
  | .yieldf _ => false
  | .other => false
  | .func _ xs ys => idfs xs && idfs ys
  | .iface _ x => idf x
  | .agg cs => idfs cs
  | .tuple cs => idfs cs
  | _ => true
def idfs : List AV → Bool
  | [] => true
  | a :: as => idf a && idfs as
end
mutual
/-- .. and none in memory that stays. -/
def noi : AV → Bool
  | .lst _ _ => false
  | .ipt _ _ => false
  | .func _ xs ys => nois xs && nois ys
  | .iface _ x => noi x
  | .agg cs => nois cs
  | .tuple cs => nois cs
  | _ => true
def nois : List AV → Bool
  | [] => true
  | a :: as => noi a && nois as
end
mutual
def shift (k : Nat) : AV → AV
  | .ptr id off => .ptr (id + k) off
  | .slice id off n c => .slice (id + k) off n c
  | .empty id off z => .empty (id + k) off z
  | .map id => .map (id + k)
  | .yieldf l => .yieldf (l + k)
  | .func f xs ys => .func f (shifts k xs) (shifts k ys)
  | .iface t x => .iface t (shift k x)
  | .agg cs => .agg (shifts k cs)
  | .tuple cs => .tuple (shifts k cs)
  | v => v
def shifts (k : Nat) : List AV → List AV
  | [] => []
  | a :: as => shift k a :: shifts k as
end
theorem idfs_map {α : Type} {g : α → AV} (hg : ∀ x, idf (g x) = true) : ∀ l : List α, idfs (l.map g) = true
  | [] => rfl
  | x :: l => by simp only [List.map_cons, idfs, hg x, idfs_map hg l, Bool.and_self]
theorem nois_map {α : Type} {g : α → AV} (hg : ∀ x, noi (g x) = true) : ∀ l : List α, nois (l.map g) = true
  | [] => rfl
  | x :: l => by simp only [List.map_cons, nois, hg x, nois_map hg l, Bool.and_self]

mutual
theorem RV.idf {M : Mp} : ∀ {a : AV} {v : Value}, idf a = true → RV M a v → RV M.pure a v
  | .bool _, _, _, e => e
  | .int _ _, _, _, e => e
  | .str _, _, _, e => e
  | .ptr _ _, _, h, _ => by cases h
  | .nilptr, _, _, e => e
  | .slice _ _ _ _, _, h, _ => by cases h
  | .nilslice, _, _, e => e
  | .empty _ _ _, _, h, _ => by cases h
  | .map _, _, h, _ => by cases h
  | .nilmap, _, _, e => e
  | .func _ xs ys, _, h, ⟨xs', ys', e, hx, hy⟩ => by
    simp only [Go.Ai.idf, Bool.and_eq_true] at h
    exact ⟨xs', ys', e, RVs.idf h.1 hx, RVs.idf h.2 hy⟩
  | .yieldf _, _, h, _ => by cases h
  | .nilfunc, _, _, e => e
  | .iface _ x, _, h, ⟨x', e, hx⟩ => ⟨x', e, RV.idf (by simpa only [Go.Ai.idf] using h) hx⟩
  | .niliface, _, _, e => e
  | .agg cs, _, h, ⟨cs', e, hx⟩ => ⟨cs', e, RVs.idf (by simpa only [Go.Ai.idf] using h) hx⟩
  | .tuple cs, _, h, ⟨cs', e, hx⟩ => ⟨cs', e, RVs.idf (by simpa only [Go.Ai.idf] using h) hx⟩
  | .lst _ _, _, _, e => e
  | .ipt _ _, _, _, e => e
  | .other, _, h, _ => by cases h
theorem RVs.idf {M : Mp} : ∀ {as : List AV} {vs : List Value}, idfs as = true → RVs M as vs → RVs M.pure as vs
  | [], _, _, e => e
  | a :: as, _, h, ⟨v, rest, e, ha, hs⟩ => by
    simp only [idfs, Bool.and_eq_true] at h
    exact ⟨v, rest, e, RV.idf h.1 ha, RVs.idf h.2 hs⟩
end
mutual
theorem RV.ext {M N : Mp} (h : ∀ id p, M id = some p → N id = some p) (hi : ∀ b c, M.im b = some c → N.im b = some c) : ∀ {a : AV} {v : Value}, RV M a v → RV N a v
  | .bool _, _, e => e
  | .int _ _, _, e => e
  | .str _, _, e => e
  | .ptr _ _, _, ⟨p, hp, e⟩ => ⟨p, h _ _ hp, e⟩
  | .nilptr, _, e => e
  | .slice _ _ _ _, _, ⟨p, c, hp, e⟩ => ⟨p, c, h _ _ hp, e⟩
  | .nilslice, _, e => e
  | .empty _ _ _, _, ⟨p, a, c, hp, e⟩ => ⟨p, a, c, h _ _ hp, e⟩
  | .map _, _, ⟨p, hp, e⟩ => ⟨p, h _ _ hp, e⟩
  | .nilmap, _, e => e
  | .func _ xs ys, _, ⟨xs', ys', e, hx, hy⟩ => ⟨xs', ys', e, RVs.ext h hi hx, RVs.ext h hi hy⟩
  | .yieldf _, _, ⟨p, hp, e⟩ => ⟨p, h _ _ hp, e⟩
  | .nilfunc, _, e => e
  | .iface _ x, _, ⟨x', e, hx⟩ => ⟨x', e, RV.ext h hi hx⟩
  | .niliface, _, e => e
  | .agg cs, _, ⟨cs', e, hx⟩ => ⟨cs', e, RVs.ext h hi hx⟩
  | .tuple cs, _, ⟨cs', e, hx⟩ => ⟨cs', e, RVs.ext h hi hx⟩
  | .lst _ cs, _, ⟨a, c, e, hc, hx⟩ => ⟨a, c, e, hc, hx.imp id fun ⟨b, o, arr, e, hm, hl, hs⟩ => ⟨b, o, arr, e, hi _ _ hm, hl, RVs.ext (M := M.pure) (N := N.pure) (fun _ _ h => by cases h) hi hs⟩⟩
  | .ipt cs _, _, ⟨b, o, arr, e, hm, hl, hs⟩ => ⟨b, o, arr, e, hi _ _ hm, hl, RVs.ext (M := M.pure) (N := N.pure) (fun _ _ h => by cases h) hi hs⟩
  | .other, _, _ => trivial
theorem RVs.ext {M N : Mp} (h : ∀ id p, M id = some p → N id = some p) (hi : ∀ b c, M.im b = some c → N.im b = some c) : ∀ {as : List AV} {vs : List Value}, RVs M as vs → RVs N as vs
  | [], _, e => e
  | a :: as, _, ⟨v, rest, e, ha, hs⟩ => ⟨v, rest, e, RV.ext h hi ha, RVs.ext h hi hs⟩
end
theorem RVs.pmono {M N : Mp} (hi : ∀ b c, M.im b = some c → N.im b = some c) {cs : List AV} {vs : List Value} (h : RVs M.pure cs vs) : RVs N.pure cs vs :=
  RVs.ext (M := M.pure) (N := N.pure) (fun _ _ h => by cases h) hi h
mutual
theorem RV.shift {M N : Mp} {k : Nat} (h : ∀ id p, M id = some p → N (id + k) = some p) (hi : ∀ b c, M.im b = some c → N.im b = some c) : ∀ {a : AV} {v : Value}, RV M a v → RV N (shift k a) v
  | .bool _, _, e => e
  | .int _ _, _, e => e
  | .str _, _, e => e
  | .ptr _ _, _, ⟨p, hp, e⟩ => ⟨p, h _ _ hp, e⟩
  | .nilptr, _, e => e
  | .slice _ _ _ _, _, ⟨p, c, hp, e⟩ => ⟨p, c, h _ _ hp, e⟩
  | .nilslice, _, e => e
  | .empty _ _ _, _, ⟨p, a, c, hp, e⟩ => ⟨p, a, c, h _ _ hp, e⟩
  | .map _, _, ⟨p, hp, e⟩ => ⟨p, h _ _ hp, e⟩
  | .nilmap, _, e => e
  | .func _ xs ys, _, ⟨xs', ys', e, hx, hy⟩ => ⟨xs', ys', e, RVs.shift h hi hx, RVs.shift h hi hy⟩
  | .yieldf _, _, ⟨p, hp, e⟩ => ⟨p, h _ _ hp, e⟩
  | .nilfunc, _, e => e
  | .iface _ x, _, ⟨x', e, hx⟩ => ⟨x', e, RV.shift h hi hx⟩
  | .niliface, _, e => e
  | .agg cs, _, ⟨cs', e, hx⟩ => ⟨cs', e, RVs.shift h hi hx⟩
  | .tuple cs, _, ⟨cs', e, hx⟩ => ⟨cs', e, RVs.shift h hi hx⟩
  | .lst _ cs, _, ⟨a, c, e, hc, hx⟩ => ⟨a, c, e, hc, hx.imp id fun ⟨b, o, arr, e, hm, hl, hs⟩ => ⟨b, o, arr, e, hi _ _ hm, hl, RVs.pmono hi hs⟩⟩
  | .ipt cs _, _, ⟨b, o, arr, e, hm, hl, hs⟩ => ⟨b, o, arr, e, hi _ _ hm, hl, RVs.pmono hi hs⟩
  | .other, _, _ => trivial
theorem RVs.shift {M N : Mp} {k : Nat} (h : ∀ id p, M id = some p → N (id + k) = some p) (hi : ∀ b c, M.im b = some c → N.im b = some c) : ∀ {as : List AV} {vs : List Value}, RVs M as vs → RVs N (shifts k as) vs
  | [], _, e => e
  | a :: as, _, ⟨v, rest, e, ha, hs⟩ => ⟨v, rest, e, RV.shift h hi ha, RVs.shift h hi hs⟩
end
mutual
theorem RV.noi {M N : Mp} (h : ∀ id p, M id = some p → N id = some p) : ∀ {a : AV} {v : Value}, noi a = true → RV M a v → RV N a v
  | .bool _, _, _, e => e
  | .int _ _, _, _, e => e
  | .str _, _, _, e => e
  | .ptr _ _, _, _, ⟨p, hp, e⟩ => ⟨p, h _ _ hp, e⟩
  | .nilptr, _, _, e => e
  | .slice _ _ _ _, _, _, ⟨p, c, hp, e⟩ => ⟨p, c, h _ _ hp, e⟩
  | .nilslice, _, _, e => e
  | .empty _ _ _, _, _, ⟨p, a, c, hp, e⟩ => ⟨p, a, c, h _ _ hp, e⟩
  | .map _, _, _, ⟨p, hp, e⟩ => ⟨p, h _ _ hp, e⟩
  | .nilmap, _, _, e => e
  | .func _ xs ys, _, k, ⟨xs', ys', e, hx, hy⟩ => by
    simp only [Go.Ai.noi, Bool.and_eq_true] at k
    exact ⟨xs', ys', e, RVs.noi h k.1 hx, RVs.noi h k.2 hy⟩
  | .yieldf _, _, _, ⟨p, hp, e⟩ => ⟨p, h _ _ hp, e⟩
  | .nilfunc, _, _, e => e
  | .iface _ x, _, k, ⟨x', e, hx⟩ => ⟨x', e, RV.noi h (by simpa only [Go.Ai.noi] using k) hx⟩
  | .niliface, _, _, e => e
  | .agg cs, _, k, ⟨cs', e, hx⟩ => ⟨cs', e, RVs.noi h (by simpa only [Go.Ai.noi] using k) hx⟩
  | .tuple cs, _, k, ⟨cs', e, hx⟩ => ⟨cs', e, RVs.noi h (by simpa only [Go.Ai.noi] using k) hx⟩
  | .lst _ cs, _, k, _ => by cases k
  | .ipt cs _, _, k, _ => by cases k
  | .other, _, _, _ => trivial
theorem RVs.noi {M N : Mp} (h : ∀ id p, M id = some p → N id = some p) : ∀ {as : List AV} {vs : List Value}, nois as = true → RVs M as vs → RVs N as vs
  | [], _, _, e => e
  | a :: as, _, k, ⟨v, rest, e, ha, hs⟩ => by
    simp only [nois, Bool.and_eq_true] at k
    exact ⟨v, rest, e, RV.noi h k.1 ha, RVs.noi h k.2 hs⟩
end

/-! ### A value of a heap, told as data that stays (but for the blocks that are kept) -/
mutual
/-- κ: the kept blocks' numbers; deep: nothing is kept there; any: blocks that are only read are told too. -/
def FV (h : AH) (κ : Nat → Option Nat) (any : Bool) : Bool → AV → AV → Prop
  | _, .lst n cs, a => a = .lst n cs ∨ (n = 0 ∧ cs = [] ∧ (a = .nilslice ∨ ∃ id off z, a = .empty id off z)) ∨
      ∃ id off cap all ro, κ id = none ∧ a = .slice id off n cap ∧ h.get id = some (.cells all ro) ∧ (ro = true → any = true) ∧ off + cs.length ≤ all.length ∧ FVs h κ any true cs ((all.drop off).take cs.length)
  | _, .ipt cs off, a => a = .ipt cs off ∨ ∃ id o all ro, κ id = none ∧ a = .ptr id (o + off) ∧ h.get id = some (.cells all ro) ∧ (ro = true → any = true) ∧ o + cs.length ≤ all.length ∧ FVs h κ any true cs ((all.drop o).take cs.length)
  | d, .ptr id' off, a => d = false ∧ ∃ id, κ id = some id' ∧ a = .ptr id off
  | d, .slice id' off n c, a => d = false ∧ ∃ id, κ id = some id' ∧ a = .slice id off n c
  | d, .func f xs ys, a => ∃ xs' ys', a = .func f xs' ys' ∧ FVs h κ any d xs xs' ∧ FVs h κ any d ys ys'
  | d, .iface t x, a => ∃ x', a = .iface t x' ∧ FV h κ any d x x'
  | d, .agg cs, a => ∃ cs', a = .agg cs' ∧ FVs h κ any d cs cs'
  | d, .tuple cs, a => ∃ cs', a = .tuple cs' ∧ FVs h κ any d cs cs'
  | _, .bool b, a => a = .bool b
  | _, .int k n, a => a = .int k n
  | _, .str s, a => a = .str s
  | _, .nilptr, a => a = .nilptr
  | _, .nilslice, a => a = .nilslice
  | _, .nilmap, a => a = .nilmap
  | _, .nilfunc, a => a = .nilfunc
  | _, .niliface, a => a = .niliface
  | _, _, _ => False
def FVs (h : AH) (κ : Nat → Option Nat) (any : Bool) : Bool → List AV → List AV → Prop
  | _, [], as => as = []
  | d, x :: xs, as => ∃ a rest, as = a :: rest ∧ FV h κ any d x a ∧ FVs h κ any d xs rest
end

/-- What freezing wants of the maps. -/
structure Frz (h : AH) (κ : Nat → Option Nat) (any : Bool) (w : World) (M N : Mp) : Prop where
  keep : ∀ id id' p, κ id = some id' → M id = some p → N id' = some p
  cells : ∀ id p all ro, M id = some p → h.get id = some (.cells all ro) → κ id = none → (ro = true → any = true) → ∃ arr, N.im p.blk = some arr ∧ p.base + all.length ≤ arr.size ∧ RVs M all ((arr.toList.drop p.base).take all.length)
  im : ∀ b c, M.im b = some c → N.im b = some c
def deepM (d : Bool) (N : Mp) : Mp := if d = true then N.pure else N
theorem deepM_le (d : Bool) (N : Mp) : (deepM d N).le N := by
  unfold deepM; split
  · exact N.pure_le
  · exact .refl _
theorem deepM_pure (d : Bool) (N : Mp) : N.pure.le (deepM d N) := by
  unfold deepM; split
  · exact .refl _
  · exact N.pure_le
theorem deepM_im (d : Bool) (N : Mp) : (deepM d N).im = N.im := by unfold deepM; split <;> rfl
theorem deepM_pp (d : Bool) (N : Mp) : (deepM d N).pure = N.pure := by unfold deepM; split <;> rfl
section
variable {h : AH} {κ : Nat → Option Nat} {any : Bool} {w : World} {M N : Mp}
mutual
theorem FV.rv (F : Frz h κ any w M N) : ∀ {x : AV} {d : Bool} {a : AV} {v : Value}, FV h κ any d x a → RV M a v → RV (deepM d N) x v
  | .lst n cs, d, a, v, e, hv => by
    simp only [FV] at e
    rcases e with rfl | ⟨rfl, rfl, e⟩ | ⟨id, off, cap, all, ro, hk, rfl, hg, hro, hl, hs⟩
    · obtain ⟨a, c, e, hc, hx⟩ := hv
      refine ⟨a, c, e, hc, hx.imp (fun h => h) fun ⟨b, o, arr, e, hm, hl, hs⟩ => ⟨b, o, arr, e, by rw [deepM_im]; exact F.im _ _ hm, hl, ?_⟩⟩
      rw [deepM_pp]
      exact RVs.pmono F.im hs
    · rcases e with rfl | ⟨id, off, z, rfl⟩
      · cases hv; exact ⟨none, 0, rfl, Nat.le_refl _, .inl rfl⟩
      · obtain ⟨p, a, c, hp, rfl, _⟩ := hv; exact ⟨_, c, rfl, Nat.zero_le _, .inl rfl⟩
    · obtain ⟨p, c, hp, rfl, hc, _⟩ := hv
      obtain ⟨arr, h1, h2, h3⟩ := F.cells id p all ro hp hg hk hro
      refine ⟨_, c, rfl, hc, .inr ⟨p.blk, p.base + off, arr, rfl, by rw [deepM_im]; exact h1, by omega, ?_⟩⟩
      rw [deepM_pp]
      have := (h3.drop off).take cs.length
      simp only [List.drop_take, List.take_take, List.drop_drop] at this
      rw [Nat.min_eq_left (by omega)] at this
      exact FVs.rv F (d := true) hs this
  | .ipt cs off, d, a, v, e, hv => by
    simp only [FV] at e
    rcases e with rfl | ⟨id, o, all, ro, hk, rfl, hg, hro, hl, hs⟩
    · obtain ⟨b, o, arr, e, hm, hl, hs⟩ := hv
      refine ⟨b, o, arr, e, by rw [deepM_im]; exact F.im _ _ hm, hl, ?_⟩
      rw [deepM_pp]
      exact RVs.pmono F.im hs
    · obtain ⟨p, hp, rfl⟩ := hv
      obtain ⟨arr, h1, h2, h3⟩ := F.cells id p all ro hp hg hk hro
      refine ⟨p.blk, p.base + o, arr, by rw [Nat.add_assoc], by rw [deepM_im]; exact h1, by omega, ?_⟩
      rw [deepM_pp]
      have := (h3.drop o).take cs.length
      simp only [List.drop_take, List.take_take, List.drop_drop] at this
      rw [Nat.min_eq_left (by omega)] at this
      exact FVs.rv F (d := true) hs this
  | .ptr id' off, d, a, v, e, hv => by
    simp only [FV] at e
    obtain ⟨rfl, id, hk, rfl⟩ := e
    obtain ⟨p, hp, rfl⟩ := hv
    exact ⟨p, F.keep _ _ _ hk hp, rfl⟩
  | .slice id' off n c, d, a, v, e, hv => by
    simp only [FV] at e
    obtain ⟨rfl, id, hk, rfl⟩ := e
    obtain ⟨p, c', hp, h1⟩ := hv
    exact ⟨p, c', F.keep _ _ _ hk hp, h1⟩
  | .func f xs ys, d, a, v, e, hv => by
    simp only [FV] at e
    obtain ⟨xs', ys', rfl, hx, hy⟩ := e
    obtain ⟨xs2, ys2, rfl, h1, h2⟩ := hv
    exact ⟨xs2, ys2, rfl, FVs.rv F hx h1, FVs.rv F hy h2⟩
  | .iface t x, d, a, v, e, hv => by
    simp only [FV] at e
    obtain ⟨x', rfl, hx⟩ := e
    obtain ⟨x2, rfl, h1⟩ := hv
    exact ⟨x2, rfl, FV.rv F hx h1⟩
  | .agg cs, d, a, v, e, hv => by
    simp only [FV] at e
    obtain ⟨x', rfl, hx⟩ := e
    obtain ⟨x2, rfl, h1⟩ := hv
    exact ⟨x2, rfl, FVs.rv F hx h1⟩
  | .tuple cs, d, a, v, e, hv => by
    simp only [FV] at e
    obtain ⟨x', rfl, hx⟩ := e
    obtain ⟨x2, rfl, h1⟩ := hv
    exact ⟨x2, rfl, FVs.rv F hx h1⟩
  | .bool b, d, a, v, e, hv => by simp only [FV] at e; subst e; exact hv
  | .int k n, d, a, v, e, hv => by simp only [FV] at e; subst e; exact hv
  | .str s, d, a, v, e, hv => by simp only [FV] at e; subst e; exact hv
  | .nilptr, d, a, v, e, hv => by simp only [FV] at e; subst e; exact hv
  | .nilslice, d, a, v, e, hv => by simp only [FV] at e; subst e; exact hv
  | .nilmap, d, a, v, e, hv => by simp only [FV] at e; subst e; exact hv
  | .nilfunc, d, a, v, e, hv => by simp only [FV] at e; subst e; exact hv
  | .niliface, d, a, v, e, hv => by simp only [FV] at e; subst e; exact hv
  | .empty _ _ _, d, a, v, e, hv => by simp only [FV] at e
  | .map _, d, a, v, e, hv => by simp only [FV] at e
  | .yieldf _, d, a, v, e, hv => by simp only [FV] at e
  | .other, d, a, v, e, hv => by simp only [FV] at e
theorem FVs.rv (F : Frz h κ any w M N) : ∀ {xs : List AV} {d : Bool} {as : List AV} {vs : List Value}, FVs h κ any d xs as → RVs M as vs → RVs (deepM d N) xs vs
  | [], d, as, vs, e, hv => by simp only [FVs] at e; subst e; exact hv
  | x :: xs, d, as, vs, e, hv => by
    simp only [FVs] at e
    obtain ⟨a, rest, rfl, h1, h2⟩ := e
    obtain ⟨v, r, rfl, h3, h4⟩ := hv
    exact ⟨v, r, rfl, FV.rv F h1 h3, FVs.rv F h2 h4⟩
end
theorem FVs.length : ∀ {xs : List AV} {d : Bool} {as : List AV}, FVs h κ any d xs as → as.length = xs.length
  | [], d, as, e => by simp only [FVs] at e; subst e; rfl
  | x :: xs, d, as, e => by
    simp only [FVs] at e
    obtain ⟨a, rest, rfl, h1, h2⟩ := e
    simp [FVs.length h2]
end
end Go.Ai

/- append onto a []byte of the call's own: a block of bytes, another row of bytes, a text. -/
import Derived.Test.YtahiodegnilodaaGreatDoorBx
import Derived.Lib.AppendStr
namespace Go.Proofs.Pw
open Go.RowKit
variable {P : Program} {ops : Array Oper} {rest : List Oper} {o : Oper} {a : Act} {Q : Exit → Act → World → Prop}

theorem byteCells_app (l l' : List UInt8) : Lib.byteCells (l ++ l') = Lib.byteCells l ++ Lib.byteCells l' := by simp [Lib.byteCells]
theorem byteCells_len (l : List UInt8) : (Lib.byteCells l).length = l.length := by simp [Lib.byteCells]
theorem byteCells_one (l : List UInt8) : ∀ u ∈ Lib.byteCells l, u.oneCell' = true := by
  intro u hu
  simp only [Lib.byteCells, List.mem_map] at hu
  obtain ⟨x, _, rfl⟩ := hu
  rfl
/-- The row as a slice of its bytes' number. -/
theorem row_bytes {w : World} {base : Nat} {e : TypeId} {v : Value} {n : Nat} {l l' : List UInt8} (h : w.ownsRow base e 1 v n (Lib.byteCells l ++ Lib.byteCells l')) (hn : n = l.length + l'.length) :
    ∃ A c, v = .slice A (l ++ l').length c ∧ w.ownsRow base e 1 (.slice A (l ++ l').length c) (l ++ l').length (Lib.byteCells (l ++ l')) := by
  have e1 : n = (l ++ l').length := by rw [hn, List.length_append]
  rw [e1, ← byteCells_app] at h
  obtain ⟨A, c, rfl⟩ := row_form h
  exact ⟨A, c, rfl, h⟩
theorem bapp_blk {W : World} (base : Nat) (s x : Operand) (t e : TypeId) (ht : P.underlying t = some (.slice e)) (hinfo : (P.info? e).map (fun i => (i.zero, i.size, i.bytes)) = some (some (.int .u8 0), 1, 1))
    (A : Option Addr) (c : Nat) (l : List UInt8) (HO : W.ownsRow base e 1 (.slice A l.length c) l.length (Lib.byteCells l)) (hbase : base ≤ W.heap.size)
    (ys : List Value) (l' : List UInt8) (hys : ys = Lib.byteCells l') (m : Nat) (hm : m = l'.length) (hl : l.length + l'.length ≤ 140737488355328)
    (hgd : o.guard = none) (ho : o.op = .call { callee := .builtin .append, args := #[s, x], argTypes := #[t, t] })
    (N : Nat) (hN : W.heap.size = N) (ns : Nat) (hs : a.eval s = .slice A ns c) (hns : ns = l.length) (hx : a.eval x = .slice (some ⟨N, 0, none⟩) m m)
    (h : ∀ A1 c1 w1, w1.ownsRow base e 1 (.slice A1 (l ++ l').length c1) (l ++ l').length (Lib.byteCells (l ++ l')) → W.grownBy w1 (Value.slice A l.length c).ownBlock → wpList P ops Q rest (a.put o.dst (.slice A1 (l ++ l').length c1)) w1) :
    wpList P ops Q (o :: rest) a (W.alloc (.cells ys.toArray e)) := by
  subst hns
  obtain ⟨i0, hi, hzz⟩ := Option.map_eq_some_iff.1 hinfo
  simp only [Prod.mk.injEq] at hzz
  obtain ⟨hz0, hz1, hz2⟩ := hzz
  subst hN hys hm
  refine wpList_append_own_at (W.alloc (.cells (Lib.byteCells l').toArray e)) hgd s x t ho base e i0 (.int .u8 0) 1 1 ht hi hz0 hz1 hz2 rfl (by decide) _ _ _ hs (HO.alloc _) ⟨W.heap.size, 0, none⟩ l'.length l'.length (Lib.byteCells l') hx (by rw [byteCells_len]; omega)
    (World.news_of_block (cs := (Lib.byteCells l').toArray) (t := e) (fr := (0, 0)) (heap_alloc_new W _)) (byteCells_one l') (by simp only [maxLen]; omega) (by omega) (by simp; omega) ?_
  intro v1 w1 hown hg _ _
  obtain ⟨A1, c1, rfl, h2⟩ := row_bytes hown rfl
  exact h A1 c1 w1 h2 (World.grownBy.trans (World.grownBy_alloc W _ _) hg)
theorem bapp_src {W : World} (base : Nat) (s x : Operand) (t e : TypeId) (ht : P.underlying t = some (.slice e)) (hinfo : (P.info? e).map (fun i => (i.zero, i.size, i.bytes)) = some (some (.int .u8 0), 1, 1))
    (A : Option Addr) (c : Nat) (l : List UInt8) (HO : W.ownsRow base e 1 (.slice A l.length c) l.length (Lib.byteCells l)) (hbase : base ≤ W.heap.size)
    (base' : Nat) (A' : Option Addr) (c' m : Nat) (l' : List UInt8) (hm : m = l'.length) (hm0 : 0 < m) (HS : W.ownsRow base' e 1 (.slice A' m c') m (Lib.byteCells l')) (hl : l.length + l'.length ≤ 140737488355328)
    (hgd : o.guard = none) (ho : o.op = .call { callee := .builtin .append, args := #[s, x], argTypes := #[t, t] })
    (ns : Nat) (hs : a.eval s = .slice A ns c) (hns : ns = l.length) (hx : a.eval x = .slice A' m c')
    (h : ∀ A1 c1 w1, w1.ownsRow base e 1 (.slice A1 (l ++ l').length c1) (l ++ l').length (Lib.byteCells (l ++ l')) → W.grownBy w1 (Value.slice A l.length c).ownBlock → wpList P ops Q rest (a.put o.dst (.slice A1 (l ++ l').length c1)) w1) :
    wpList P ops Q (o :: rest) a W := by
  subst hns
  obtain ⟨i0, hi, hzz⟩ := Option.map_eq_some_iff.1 hinfo
  simp only [Prod.mk.injEq] at hzz
  obtain ⟨hz0, hz1, hz2⟩ := hzz
  subst hm
  obtain ⟨g, rfl⟩ : ∃ g, A' = some ⟨g, 0, none⟩ := by
    rcases HS.2 with ⟨_, h0⟩ | ⟨g, cap, cur, hv, _⟩
    · omega
    · injection hv with hA _ _; exact ⟨g, hA⟩
  refine wpList_append_own_at W hgd s x t ho base e i0 (.int .u8 0) 1 1 ht hi hz0 hz1 hz2 rfl (by decide) _ _ _ hs HO ⟨g, 0, none⟩ l'.length c' (Lib.byteCells l') hx (by rw [byteCells_len]; omega)
    (fun j u hj => HS.cells (g := g) rfl j u hj) (byteCells_one l') (by simp only [maxLen]; omega) (by omega) hbase ?_
  intro v1 w1 hown hg _ _
  obtain ⟨A1, c1, rfl, h2⟩ := row_bytes hown rfl
  exact h A1 c1 w1 h2 hg
theorem bapp_str {W : World} (base : Nat) (s x : Operand) (t u e : TypeId) (ht : P.underlying t = some (.slice e)) (hu : P.underlying u = some .string) (hinfo : (P.info? e).map (fun i => (i.zero, i.size, i.bytes)) = some (some (.int .u8 0), 1, 1))
    (A : Option Addr) (c : Nat) (l : List UInt8) (HO : W.ownsRow base e 1 (.slice A l.length c) l.length (Lib.byteCells l)) (hbase : base ≤ W.heap.size)
    (y : ByteArray) (hl : l.length + y.size ≤ 140737488355328)
    (hgd : o.guard = none) (ho : o.op = .call { callee := .builtin .append, args := #[s, x], argTypes := #[t, u] })
    (ns : Nat) (hs : a.eval s = .slice A ns c) (hns : ns = l.length) (hx : a.eval x = .string y)
    (h : ∀ A1 c1 w1, w1.ownsRow base e 1 (.slice A1 (l ++ y.data.toList).length c1) (l ++ y.data.toList).length (Lib.byteCells (l ++ y.data.toList)) → W.grownBy w1 (Value.slice A l.length c).ownBlock → wpList P ops Q rest (a.put o.dst (.slice A1 (l ++ y.data.toList).length c1)) w1) :
    wpList P ops Q (o :: rest) a W := by
  subst hns
  obtain ⟨i0, hi, hzz⟩ := Option.map_eq_some_iff.1 hinfo
  simp only [Prod.mk.injEq] at hzz
  obtain ⟨hz0, hz1, hz2⟩ := hzz
  have hy : y.size = y.data.toList.length := by rw [Array.length_toList]; rfl
  refine Lib.wpList_append_own_string W hgd s x t u ho base e i0 ht hu hi hz0 hz1 hz2 _ _ _ hs HO y hx (by simp only [maxLen]; omega) hl hbase ?_
  intro v1 w1 hown hg _
  rw [show Lib.strCells y = Lib.byteCells y.data.toList from rfl] at hown
  obtain ⟨A1, c1, rfl, h2⟩ := row_bytes hown (by rw [hy])
  exact h A1 c1 w1 h2 hg
/-- append(v, x), one element of k cells, as one step of a region taken by hand. -/
theorem append_wp {W : World} {K : Act → World → Prop} (base : Nat) (s x : Operand) (t e : TypeId) (z : Value) (k bytes : Nat) (ht : P.underlying t = some (.slice e))
    (hinfo : (P.info? e).map (fun i => (i.zero, i.size, i.bytes)) = some (some z, k, bytes)) (hz : z.cells.size = k) (hk : 0 < k) (hb0 : 0 < bytes)
    (v : Value) (n : Nat) (xs ys : List Value) (HO : W.ownsRow base e k v n xs) (hbase : base ≤ W.heap.size) (hl : (n + 1) * bytes ≤ 140737488355328) (hys : ys.length = k) (h1 : ∀ u ∈ ys, u.oneCell' = true)
    (hgd : o.guard = none) (ho : o.op = .call { callee := .builtin .append, args := #[s, x], argTypes := #[t, t] })
    (N : Nat) (hN : W.heap.size = N) (hs : a.eval s = v) (hx : a.eval x = .slice (some ⟨N, 0, none⟩) 1 1)
    (h : ∀ g c w1, w1.ownsRow base e k (.slice (some ⟨g, 0, none⟩) (n + 1) c) (n + 1) (xs ++ ys) → W.grownBy w1 v.ownBlock → K (a.put o.dst (.slice (some ⟨g, 0, none⟩) (n + 1) c)) w1) :
    Oper.wp P o a (W.alloc (.cells ys.toArray e)) K Q := by
  have hw : Region.wanted o (yielded (#[] : Array Oper) a.tmps) = true := by unfold Region.wanted; rw [hgd]
  have := append_step (P := P) (ops := #[]) (Q := Q) (E := True) base s x t e z k bytes ht hinfo hz hk hb0 v n xs ys HO hbase hl hys h1 hgd ho N hN hs hx h
  rwa [if_pos hw] at this
/-- append(v, ys...), ys another row of the call's own, as one step of a region taken by hand. -/
theorem append_src_wp {W : World} {K : Act → World → Prop} (base : Nat) (s x : Operand) (t e : TypeId) (z : Value) (k bytes : Nat) (ht : P.underlying t = some (.slice e))
    (hinfo : (P.info? e).map (fun i => (i.zero, i.size, i.bytes)) = some (some z, k, bytes)) (hz : z.cells.size = k) (hk : 0 < k) (hb0 : 0 < bytes)
    (v : Value) (n : Nat) (xs : List Value) (HO : W.ownsRow base e k v n xs) (hbase : base ≤ W.heap.size)
    (base' : Nat) (A' : Option Addr) (c' m : Nat) (ys : List Value) (HS : W.ownsRow base' e k (.slice A' m c') m ys) (hm : 0 < m) (hl : (n + m) * bytes ≤ 140737488355328) (hys : ys.length = m * k) (h1 : ∀ u ∈ ys, u.oneCell' = true)
    (ho : o.op = .call { callee := .builtin .append, args := #[s, x], argTypes := #[t, t] })
    (hs : a.eval s = v) (hx : a.eval x = .slice A' m c')
    (h : ∀ A1 c1 w1, w1.ownsRow base e k (.slice A1 (n + m) c1) (n + m) (xs ++ ys) → W.grownBy w1 v.ownBlock → K (a.put o.dst (.slice A1 (n + m) c1)) w1) :
    Oper.wp P o a W K Q := by
  obtain ⟨i0, hi, hzz⟩ := Option.map_eq_some_iff.1 hinfo
  simp only [Prod.mk.injEq] at hzz
  obtain ⟨hz0, hz1, hz2⟩ := hzz
  obtain ⟨g, rfl⟩ : ∃ g, A' = some ⟨g, 0, none⟩ := by
    rcases HS.2 with ⟨_, h0⟩ | ⟨g, cap, cur, hv, _⟩
    · omega
    · exact ⟨g, (Value.slice.inj hv).1⟩
  have hlen : n + m ≤ 140737488355328 := Nat.le_trans (Nat.le_mul_of_pos_right _ hb0) hl
  obtain ⟨v', w', hr, h2, h3, h4, h5⟩ := run_append_own_at (P := P) W base t o.type e i0 z k bytes ht hi hz0 hz1 hz2 hz hk v n xs HO ⟨g, 0, none⟩ m c' ys hys (fun j u hj => HS.cells (g := g) rfl j u hj) h1 (by simp only [maxLen]; omega) hl hbase
  obtain ⟨A1, c1, rfl⟩ := row_form h2
  unfold Oper.wp execOp
  simp only [ho, resolve, invoke, builtin, Sem.run_bind, Sem.run_pure, Result.andThen_ok, List.map_toArray, List.map_cons, List.map_nil, hs, hx, hr]
  exact h _ _ _ h2 h3
end Go.Proofs.Pw

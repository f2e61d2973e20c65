/- Heaps apart: the rules for the words of the compile. No conditions. -/
import Derived.Test.YtjjnbcdcppnllaaSp6
import Derived.Test.YtjjnbcdcppnllaaSp5
import Derived.Maps.AppendAt
import Derived.Laws.MakeOwn
import Derived.Lib.AppendZerosOnto
set_option linter.unusedVariables false
set_option linter.unusedSimpArgs false
set_option maxRecDepth 100000
namespace Go.Sp
open Go.RowKit

/-! ### loads, stores, new blocks -/
section
variable {w₀ w : World} {A B C F : HP} {P : Program}
theorem ldI_ok {k : IntKind} {a : Addr} {n : Int} {K : Int → Prop} (h : w.cell? a = some (.int k n)) (hk : K n) : ldI k a w K := ⟨n, h, hk⟩
theorem ldB_ok {a : Addr} {n : Bool} {K : Bool → Prop} (h : w.cell? a = some (.bool n)) (hk : K n) : ldB a w K := ⟨n, h, hk⟩
theorem ldP_ok {a : Addr} {n : Option Addr} {K : Option Addr → Prop} (h : w.cell? a = some (.pointer n)) (hk : K n) : ldP a w K := ⟨n, h, hk⟩
theorem ldS_ok {a : Addr} {p : Option Addr} {l c : Nat} {K : Option Addr → Nat → Nat → Prop} (h : w.cell? a = some (.slice p l c)) (hk : K p l c) : ldS a w K := ⟨p, l, c, h, hk⟩
theorem ldT_ok {a : Addr} {n : ByteArray} {K : ByteArray → Prop} (h : w.cell? a = some (.string n)) (hk : K n) : ldT a w K := ⟨n, h, hk⟩
theorem ldM_ok {a : Addr} {n : Option Nat} {K : Option Nat → Prop} (h : w.cell? a = some (.map n)) (hk : K n) : ldM a w K := ⟨n, h, hk⟩
theorem ldF_ok {a : Addr} {f : Fn} {b c : Array Value} {K : Fn → Array Value → Array Value → Prop} (h : w.cell? a = some (.func f b c)) (hk : K f b c) : ldF a w K := ⟨f, b, c, h, hk⟩
theorem asF_ok {f : Fn} {b c : Array Value} {K : Fn → Array Value → Array Value → Prop} (hk : K f b c) : asF (.func f b c) K := ⟨f, b, c, rfl, hk⟩
theorem ldV_ok {a : Addr} {n : Value} {K : Value → Prop} (h : w.cell? a = some n) (hk : K n) : ldV a w K := ⟨n, h, hk⟩
theorem ldA_ok {a : Addr} {n : Nat} {vs : Array Value} {K : Array Value → Prop} (hs : vs.size = n) (h : ∀ i, i < n → w.cell? (a.add i) = vs[i]?) (hk : K vs) : ldA a n w K := ⟨vs, hs, h, hk⟩
theorem add_mk (b o n : Nat) : (⟨b, o, none⟩ : Addr).add n = ⟨b, o + n, none⟩ := by unfold Addr.add; split <;> simp_all
theorem add_zero (a : Addr) : a.add 0 = a := by simp [Addr.add]
theorem add_add (a : Addr) (m n : Nat) : (a.add m).add n = a.add (m + n) := by
  obtain ⟨b, o, s⟩ := a
  simp only [Addr.add]
  by_cases hm : m = 0 <;> by_cases hn : n = 0 <;> simp [hm, hn, Nat.add_assoc]

theorem st_ok {b i : Nat} {cs : Array Value} {t : TypeId} {v : Value} {K : World → Prop} (h : Sat w₀ (blk b cs t * F) w) (hi : i < cs.size)
    (hk : ∀ w', Sat w₀ (blk b (cs.setIfInBounds i v) t * F) w' → K w') : st ⟨b, i, none⟩ v w K :=
  ⟨⟨_, h.left.cell (Array.getElem?_eq_getElem hi)⟩, by simp [World.frozen?, h.ob], hk _ (h.setCell v hi)⟩
theorem new_ok {cs : Array Value} {t : TypeId} {K : Nat → World → Prop} (h : Sat w₀ F w) (hk : ∀ b w', Sat w₀ (blk b cs t * F) w' → K b w') : new cs t w K := hk _ _ (h.alloc _)

theorem nn_ok {a : Addr} {K : Addr → Prop} (h : K a) : nn (some a) K := h
theorem asI_ok {k : IntKind} {n : Int} {K : Int → Prop} (h : K n) : asI k (.int k n) K := ⟨n, rfl, h⟩
theorem asB_ok {b : Bool} {K : Bool → Prop} (h : K b) : asB (.bool b) K := ⟨b, rfl, h⟩
theorem asP_ok {p : Option Addr} {K : Option Addr → Prop} (h : K p) : asP (.pointer p) K := ⟨p, rfl, h⟩
theorem asS_ok {p : Option Addr} {l c : Nat} {K : Option Addr → Nat → Nat → Prop} (h : K p l c) : asS (.slice p l c) K := ⟨p, l, c, rfl, h⟩
theorem asA_ok {g : Array Value} {K : Array Value → Prop} (h : K g) : asA (.agg g) K := ⟨g, rfl, h⟩
theorem fldI_ok {k : IntKind} {vs : Array Value} {o : Nat} {n : Int} {K : Int → Prop} (h : vs[o]? = some (.int k n)) (hk : K n) : fldI k vs o K := ⟨n, h, hk⟩
theorem fldB_ok {vs : Array Value} {o : Nat} {n : Bool} {K : Bool → Prop} (h : vs[o]? = some (.bool n)) (hk : K n) : fldB vs o K := ⟨n, h, hk⟩
theorem fldS_ok {vs : Array Value} {o : Nat} {p : Option Addr} {l c : Nat} {K : Option Addr → Nat → Nat → Prop} (h : vs[o]? = some (.slice p l c)) (hk : K p l c) : fldS vs o K := ⟨p, l, c, h, hk⟩

/-! ### slices that are read -/
/-- What a slice holds: so many cells. -/
def Rd (w : World) (sz : Nat) (p : Option Addr) (l : Nat) (xs : List Value) : Prop :=
  xs.length = l * sz ∧ (0 < l → ∃ a, p = some a) ∧ ∀ a, p = some a → ∀ j u, xs[j]? = some u → w.cell? (a.add j) = some u
theorem Rd.nil (w : World) (sz : Nat) (p : Option Addr) : Rd w sz p 0 [] := ⟨by simp, fun h => absurd h (by omega), fun _ _ j u h => by simp at h⟩
theorem Rd.old {w₁ : World} {sz : Nat} {p : Option Addr} {l : Nat} {xs : List Value} (h : Rd w₁ sz p l xs) (hs : Sat w₀ (old w₁) w) : Rd w sz p l xs :=
  ⟨h.1, h.2.1, fun a e j u hj => hs.old_cell (h.2.2 a e j u hj)⟩
theorem Sat.rd {t : TypeId} {sz : Nat} {p : Option Addr} {l c : Nat} {xs : List Value} (h : Sat w₀ (own t sz p l c xs) w) : Rd w sz p l xs := by
  refine ⟨h.own_len, ?_, fun a e j u hj => h.own_cell e hj⟩
  intro hl
  obtain ⟨k, hk, _, a⟩ := h.heap
  rcases a with ⟨_, rfl, _⟩ | ⟨g, cur, rfl, _⟩
  · omega
  · exact ⟨_, rfl⟩
theorem Sat.rd_ob {b : Nat} {cs : Array Value} {t : TypeId} {fr : Nat × Nat} {sz l : Nat} (h : Sat w₀ (Sp.ob b (.cells cs t fr)) w) (hl : cs.size = l * sz) : Rd w sz (some ⟨b, 0, none⟩) l cs.toList := by
  refine ⟨by simpa using hl, fun _ => ⟨_, rfl⟩, fun a e j u hj => ?_⟩
  cases e
  rw [add_mk]
  have : cs[0 + j]? = some u := by simpa using hj
  simp only [World.cell?, h.ob', Option.isSome_none, Bool.false_eq_true, if_false]
  exact this
theorem Rd.get {sz : Nat} {p : Option Addr} {l : Nat} {xs : List Value} (h : Rd w sz p l xs) {a : Addr} (hp : p = some a) {j : Nat} {u : Value} (hj : xs[j]? = some u) : w.cell? (a.add j) = some u := h.2.2 a hp j u hj

/-- An element's address, of a slice that is read. -/
theorem idx_ok {sz : Nat} {p : Option Addr} {l : Nat} {xs : List Value} {i : Int} {K : Addr → Prop} (h : Rd w sz p l xs) (h0 : 0 ≤ i) (h1 : i < (l : Int)) (hk : ∀ a, p = some a → K (a.add (i.toNat * sz))) : idx p l i sz K := by
  obtain ⟨a, rfl⟩ := h.2.1 (by omega)
  exact ⟨⟨h0, h1⟩, hk a rfl⟩

/-! ### append, make -/
/-- What is asked of a slice's type. -/
structure SliceTy (P : Program) (t e : TypeId) (z : Value) (sz bytes : Nat) : Prop where
  under : P.underlying t = some (.slice e)
  info : (P.info? e).map (fun i => (i.zero, i.size, i.bytes)) = some (some z, sz, bytes)
  cells : z.cells.size = sz
  pos : 0 < sz
theorem SliceTy.parts {t e : TypeId} {z : Value} {sz bytes : Nat} (T : SliceTy P t e z sz bytes) : ∃ i, P.info? e = some i ∧ i.zero = some z ∧ i.size = sz ∧ i.bytes = bytes := by
  obtain ⟨i, hi, hzz⟩ := Option.map_eq_some_iff.1 T.info
  simp only [Prod.mk.injEq] at hzz
  exact ⟨i, hi, hzz.1, hzz.2.1, hzz.2.2⟩

theorem ownsRow_form {e : TypeId} {sz n : Nat} {v : Value} {xs : List Value} (h : w.ownsRow 0 e sz v n xs) : ∃ p c, v = .slice p n c := by
  rcases h.2 with ⟨rfl, rfl⟩ | ⟨g, cap, cur, rfl, _⟩
  · exact ⟨none, 0, rfl⟩
  · exact ⟨_, cap, rfl⟩

/-- append(v, x...): v is the holder's own; x is read (and may lie wherever). -/
theorem app_ok {t e ty : TypeId} {z : Value} {sz bytes : Nat} (T : SliceTy P t e z sz bytes) {p q : Option Addr} {l c m c2 : Nat} {xs news : List Value} {K : Option Addr → Nat → Nat → World → Prop}
    (h : Sat w₀ (own e sz p l c xs * F) w) (hx : Rd w sz q m news) (h1 : ∀ u ∈ news, u.oneCell' = true) (h63 : l + m ≤ maxLen) (hb : (l + m) * bytes ≤ 140737488355328)
    (hk : ∀ p' c' w', Sat w₀ (own e sz p' (l + m) c' (xs ++ news) * F) w' → K p' (l + m) c' w') :
    runsS P (Builtin.append_ #[t, t] ty #[.slice p l c, .slice q m c2]) w K := by
  obtain ⟨i, hi, hz, hsz, hby⟩ := T.parts
  cases q with
  | some a =>
    obtain ⟨v', w', hr, hown, hg, _, hat⟩ := run_append_own_at (P := P) w 0 t ty e i z sz bytes T.under hi hz hsz hby T.cells T.pos (.slice p l c) l xs h.left.own_row a m c2 news hx.1 (hx.2.2 a rfl) h1 h63 hb (Nat.zero_le _)
    obtain ⟨p', c', rfl⟩ := ownsRow_form hown
    exact ⟨p', _, c', w', hr, hk _ _ _ (h.own_grown hown hg (hat.imp id fun e => ⟨_, e, Nat.le_refl _⟩))⟩
  | none =>
    have hm : m = 0 := Nat.eq_zero_of_not_pos fun hp => by obtain ⟨a, e⟩ := hx.2.1 hp; cases e
    subst hm
    have hn : news = [] := List.eq_nil_of_length_eq_zero (by simpa using hx.1)
    subst hn
    have hcap : l ≤ c := by
      have hr := h.left.own_row
      rcases hr.2 with ⟨e, hl⟩ | ⟨g, cap, cur, e, _, _, hc, _⟩
      · cases e; simp
      · cases e; exact hc
    refine ⟨p, l, c, w, ?_, ?_⟩
    · cases p with
      | none => simp [Builtin.append_, run_underlying T.under, sizeOf, typeInfo, hi, Builtin.lenOf, hcap, Builtin.firstCells]
      | some b => simp [Builtin.append_, run_underlying T.under, sizeOf, typeInfo, hi, Builtin.lenOf, hcap, Builtin.firstCells, storeCells]
    · have := hk p c w (by simpa using h)
      simpa using this

/-- append(v, x) of one value of one cell: behind the new block that holds it. -/
theorem app1_ok {t e ty : TypeId} {z : Value} {bytes : Nat} (T : SliceTy P t e z 1 bytes) {p : Option Addr} {l c : Nat} {xs : List Value} {v : Value} {k : Nat} {t' : TypeId} {K : Option Addr → Nat → Nat → World → Prop}
    (h : Sat w₀ (blk k #[v] t' * (own e 1 p l c xs * F)) w) (h1 : v.oneCell' = true) (h63 : l + 1 ≤ maxLen) (hb : (l + 1) * bytes ≤ 140737488355328)
    (hk : ∀ p' c' w', Sat w₀ (own e 1 p' (l + 1) c' (xs ++ [v]) * F) w' → K p' (l + 1) c' w') :
    runsS P (Builtin.append_ #[t, t] ty #[.slice p l c, .slice (some ⟨k, 0, none⟩) 1 1]) w K :=
  app_ok T (F := F) (h.right) (h.left.rd_ob (l := 1) (by simp)) (by simpa using h1) h63 hb hk

theorem zeros_toList (z : Array Value) (n : Nat) : (Builtin.zeroCells z n).toList = (List.range (n * z.size)).map fun i => z[i % z.size]! := by
  simp [Builtin.zeroCells]
/-- Whole zeros. -/
def zerosOf (z : Value) (n : Nat) : List Value := (Builtin.zeroCells z.cells n).toList

/-- append(v, make([]T, n)...): v is the holder's own. -/
theorem appZ_ok {t tn e ty : TypeId} {z : Value} {sz bytes : Nat} (T : SliceTy P t e z sz bytes) (htn : P.underlying tn = some (.int .i64)) (hz1 : ∀ u ∈ z.cells.toList, u.oneCell' = true)
    {p : Option Addr} {l c m : Nat} {xs : List Value} {K : Option Addr → Nat → Nat → World → Prop}
    (h : Sat w₀ (own e sz p l c xs * F) w) (h63 : l + m ≤ 9223372036854775807) (hb : (l + m) * bytes ≤ 140737488355328)
    (hk : ∀ p' c' w', Sat w₀ (own e sz p' (l + m) c' (xs ++ zerosOf z m) * F) w' → K p' (l + m) c' w') :
    runsS P (Builtin.append_ #[t, tn] ty #[.slice p l c, .int .i64 (m : Int)]) w K := by
  obtain ⟨i, hi, hz, hsz, hby⟩ := T.parts
  subst hsz
  subst hby
  have hrow := h.left.own_row
  have hxl := h.left.own_len
  have hzl : (zerosOf z m).length = m * i.size := by simp [zerosOf, Builtin.zeroCells, T.cells]
  have hlen : (xs ++ zerosOf z m).length = (l + m) * i.size := by rw [List.length_append, hxl, hzl, Nat.add_mul]
  have hmb : m * i.bytes ≤ 140737488355328 := Nat.le_trans (Nat.mul_le_mul_right _ (Nat.le_add_left _ _)) hb
  have h48 : ¬ (281474976710656 < (m : Int) * (i.bytes : Int)) := by rw [← Int.natCast_mul]; omega
  have hw : IntKind.i64.wrap (m : Int) = m := by rw [IntKind.wrap_i64]; omega
  have hneg : ¬ ((m : Int) < 0) := by omega
  rcases Nat.eq_zero_or_pos m with hm | hm
  · subst hm
    have hcap : l ≤ c := by
      rcases hrow.2 with ⟨e, hl⟩ | ⟨g, cap, cur, e, _, _, hc, _⟩
      · cases e; simp
      · cases e; exact hc
    refine ⟨p, l, c, w, ?_, ?_⟩
    · cases p with
      | none => simp [Builtin.append_, run_underlying T.under, run_underlying htn, sizeOf, typeInfo, hi, asInt, asIntOf, hcap, IntKind.wrap_i64]
      | some b => simp [Builtin.append_, run_underlying T.under, run_underlying htn, sizeOf, typeInfo, hi, asInt, asIntOf, hcap, storeCells, IntKind.wrap_i64]
    · have := hk p c w (by simpa [zerosOf, Builtin.zeroCells] using h)
      simpa using this
  · have grow : ∀ (old : Option Addr) (cap : Nat), cap < l + m → cap = c → old = p → (Builtin.firstCells i.size l (.slice old l cap)).run P w.drew = .ok xs.toArray w.drew →
        runsS P (Builtin.append_ #[t, tn] ty #[.slice p l c, .int .i64 (m : Int)]) w K := by
      rintro old cap hlt rfl rfl hold
      have hr := Lib.run_append_grow_zeros (P := P) w t tn ty e i z .i64 .i64 T.under htn hi hz old l cap xs hold m hm T.pos hlt (by omega) (by omega) (growslice_fits (by omega) hb)
      refine ⟨_, _, _, _, hr, hk _ _ _ ?_⟩
      have hge := grownCap_ge w (l + m) cap e
      have hcm : grownCap w (l + m) cap e ≤ maxLen := grownCap_le_maxLen w (l + m) cap e (by simp only [maxLen]; omega)
      refine h.own_grown (p' := some ⟨w.heap.size, 0, none⟩) ⟨hlen, .inr ⟨w.heap.size, _, _, rfl, Nat.zero_le _, heap_alloc_new w.drew _, hge, hcm, ?_, ?_⟩⟩ ⟨rfl, rfl, rfl, by simp, fun k hk _ => Below.heap_alloc w.drew _ k hk⟩ (.inr ⟨_, rfl, Nat.le_refl _⟩)
      · simp only [Array.size_append, List.size_toArray, size_zeroCells, T.cells, hxl, ← Nat.add_mul]
        congr 1
        omega
      · simp only [Array.toList_append, List.append_assoc]
        rw [← List.append_assoc, ← hlen]
        exact List.take_left
    rcases hrow.2 with ⟨ep, hl⟩ | ⟨g, cap, cur, ep, _, hg, hc, hcm, hcs, htake⟩
    · cases ep
      have hx : xs = [] := List.eq_nil_of_length_eq_zero (by simpa using hxl)
      subst hx
      exact grow none 0 (by omega) rfl rfl (by simp [Builtin.firstCells])
    · cases ep
      by_cases hroom : l + m ≤ c
      · have hfit : l * i.size + (zerosOf z m).length ≤ cur.size := by rw [hzl, hcs, ← Nat.add_mul]; exact Nat.mul_le_mul_right _ hroom
        have hst := run_storeCells_at P g (l * i.size) e (zerosOf z m) 0 cur w hg (by simpa using hfit) (by
          intro u hu
          simp only [zerosOf, zeros_toList, List.mem_map, List.mem_range] at hu
          obtain ⟨j, hj, rfl⟩ := hu
          apply hz1
          have hpos : 0 < z.cells.size := by rw [T.cells]; exact T.pos
          rw [getElem!_pos z.cells _ (Nat.mod_lt _ hpos)]
          simp)
        simp only [Nat.add_zero] at hst
        have hns : ¬ (m * i.size = 0) := Nat.mul_ne_zero (by omega) (by have := T.pos; omega)
        have hr : (Builtin.append_ #[t, tn] ty #[.slice (some ⟨g, 0, none⟩) l c, .int .i64 (m : Int)]).run P w = .ok (.slice (some ⟨g, 0, none⟩) (l + m) c) (w.setRow g (cur.toList.take (l * i.size) ++ zerosOf z m ++ cur.toList.drop (l * i.size + (zerosOf z m).length)).toArray) := by
          simp only [zerosOf] at hst ⊢
          simp [Builtin.append_, run_underlying T.under, run_underlying htn, sizeOf, typeInfo, hi, zeroValue, hz, asInt, asIntOf, hw, hroom, hneg, h48, hns, Addr.add_lit, hst]
        refine ⟨_, _, _, _, hr, hk _ _ _ ?_⟩
        refine h.own_grown (p' := some ⟨g, 0, none⟩) ⟨hlen, .inr ⟨g, c, _, rfl, Nat.zero_le _, setRow_heap w g cur _ e _ hg, hroom, hcm, ?_, ?_⟩⟩ ⟨rfl, rfl, rfl, by simp, fun k _ hk => setRow_other w g k _ (fun e => hk (by simp [Value.ownBlock, e]))⟩ (.inl rfl)
        · simp only [List.size_toArray, List.length_append, List.length_take, List.length_drop, Array.length_toList]
          omega
        · rw [htake, ← hlen]
          exact List.take_left
      · refine grow _ c (by omega) rfl rfl ?_
        exact run_firstCells_some (P := P) w.drew i.size l ⟨g, 0, none⟩ l c xs hxl (fun j u hj => h.left.drew.own_cell rfl hj)

theorem make_ok {t e : TypeId} {z : Value} {sz bytes : Nat} (T : SliceTy P t e z sz bytes) {l c : Nat} {K : Option Addr → Nat → Nat → World → Prop} (h : Sat w₀ F w) (hlc : l ≤ c) (hb : bytes * c ≤ 281474976710656) (h63 : c ≤ 9223372036854775807)
    (hk : ∀ p w', Sat w₀ (own e sz p l c ((zerosOf z c).take (l * sz)) * F) w' → K p l c w') : runsS P (Instr.makeSlice t (.int .i64 (l : Int)) (.int .i64 (c : Int))) w K := by
  obtain ⟨i, hi, hz, hsz, hby⟩ := T.parts
  subst hsz
  subst hby
  have hr := run_make (P := P) w t e i z T.under hi hz .i64 .i64 (l : Int) (c : Int) (by omega) (by omega) (by rw [← Int.natCast_mul]; omega) (by omega)
  simp only [Int.toNat_natCast] at hr
  refine ⟨_, _, _, _, hr, hk _ _ ?_⟩
  refine (h.alloc _).imp fun k a => ?_
  refine ⟨?_, .inr ⟨w.heap.size, _, rfl, a, hlc, by simp only [maxLen]; omega, by simp [madeCells], ?_⟩⟩
  · simp only [zerosOf, List.length_take, zeros_toList, List.length_map, List.length_range, T.cells]
    have := Nat.mul_le_mul_right i.size hlc
    omega
  · congr 1
    simp [zerosOf, zeros_toList, madeCells, T.cells]

/-! ### jumps, and the blocks of loops that are over -/
theorem jmp_exit {id : Nat} {r X : Prop} {l : List (Nat × Prop)} (h : X) : jmp (.exit id) r ((id, X) :: l) := by
  unfold jmp jmp.go
  simp only [if_true]
  exact h
theorem jmp_exit2 {id j : Nat} {r X Y : Prop} {l : List (Nat × Prop)} (hj : id ≠ j) (h : X) : jmp (.exit id) r ((j, Y) :: (id, X) :: l) := by
  unfold jmp jmp.go jmp.go
  simp only [if_true, if_neg hj]
  exact h
theorem jmp_ret {r : Prop} {l : List (Nat × Prop)} (h : r) : jmp .ret r l := h
theorem shutD_ok {D : Nat} {K : World → Prop} (h : Sat w₀ (markH D * F) w) (hk : ∀ w', Sat w₀ F w' → K w') : shutD D w K := ⟨h.ob, hk _ (h.putObj _).right⟩

/-! ### calls -/
/-- A contract: whatever else there is stays. -/
def Spec (P : Program) (f : FuncId) (args : Array Value) (Pre : HP) (Post : Value → HP) : Prop :=
  ∀ (w₀ w : World) (F : HP), Sat w₀ (Pre * F) w → call P f args w fun v w' => Sat w₀ (Post v * F) w'
theorem call_ok {f : FuncId} {args : Array Value} {Pre : HP} {Post : Value → HP} {K : Value → World → Prop} (hs : Spec P f args Pre Post) (h : Sat w₀ (Pre * F) w) (hk : ∀ v w', Sat w₀ (Post v * F) w' → K v w') : call P f args w K :=
  Calls.mono (hs w₀ w F h) fun e w' ⟨v, he, hp⟩ => ⟨v, he, hk _ _ hp⟩
theorem call_mono {f : FuncId} {args : Array Value} {K K' : Value → World → Prop} (h : call P f args w K) (hk : ∀ v w', K v w' → K' v w') : call P f args w K' :=
  Calls.mono h fun e w' ⟨v, he, hp⟩ => ⟨v, he, hk _ _ hp⟩
/-- A function of its arguments alone. -/
def PureCall (P : Program) (f : FuncId) (args : Array Value) (v : Value) : Prop := ∀ (w : World), call P f args w fun u w' => u = v ∧ w' = w
theorem call_pure {f : FuncId} {args : Array Value} {v : Value} {K : Value → World → Prop} (h : PureCall P f args v) (hk : K v w) : call P f args w K :=
  call_mono (h w) fun u w' ⟨e, e'⟩ => by rw [e, e']; exact hk

/-! ### numbers -/
theorem wrap_in {k : IntKind} {e : Int} (h0 : k.min ≤ e) (h1 : e ≤ k.max) : k.wrap e = e := by
  cases k <;> simp [IntKind.min, IntKind.max, IntKind.wrap, IntKind.signed, IntKind.bits] at * <;> omega
theorem arith_i64 {e : Int} {K : Int → Prop} (h0 : -9223372036854775808 ≤ e) (h1 : e ≤ 9223372036854775807) (hk : K e) : arith .i64 e K := by
  unfold arith
  rw [wrap_in (by simpa [IntKind.min, IntKind.signed, IntKind.bits] using h0) (by simpa [IntKind.max, IntKind.signed, IntKind.bits] using h1)]
  exact hk
theorem arith_u64 {e : Int} {K : Int → Prop} (h0 : 0 ≤ e) (h1 : e ≤ 18446744073709551615) (hk : K e) : arith .u64 e K := by
  unfold arith
  rw [wrap_in (by simpa [IntKind.min, IntKind.signed, IntKind.bits] using h0) (by simpa [IntKind.max, IntKind.signed, IntKind.bits] using h1)]
  exact hk
theorem arith_u32 {e : Int} {K : Int → Prop} (h0 : 0 ≤ e) (h1 : e ≤ 4294967295) (hk : K e) : arith .u32 e K := by
  unfold arith
  rw [wrap_in (by simpa [IntKind.min, IntKind.signed, IntKind.bits] using h0) (by simpa [IntKind.max, IntKind.signed, IntKind.bits] using h1)]
  exact hk
theorem arith_u8 {e : Int} {K : Int → Prop} (hk : K (e % 256)) : arith .u8 e K := by
  unfold arith
  have : IntKind.u8.wrap e = e % 256 := by simp [IntKind.wrap, IntKind.signed, IntKind.bits]
  rw [this]
  exact hk
theorem rem_ok {x y : Int} {K : Int → Prop} (h0 : 0 ≤ x) (h1 : 0 < y) (hk : K (x % y)) : rem x y K := ⟨by omega, by rwa [Int.tmod_eq_emod_of_nonneg h0]⟩
theorem quo_ok {k : IntKind} {x y : Int} {K : Int → Prop} (h0 : 0 ≤ x) (h1 : 0 < y) (h2 : x ≤ k.max) (hk : K (x / y)) : quo k x y K := by
  refine ⟨by omega, ?_⟩
  have h3 : 0 ≤ x / y := Int.ediv_nonneg h0 (by omega)
  have h4 : x / y ≤ x := Int.ediv_le_self _ h0
  have h5 : k.min ≤ 0 := by cases k <;> simp [IntKind.min, IntKind.signed, IntKind.bits]
  rw [Int.tdiv_eq_ediv_of_nonneg h0, wrap_in (by omega) (by omega)]
  exact hk
theorem shr_ok {k : IntKind} {x y : Int} {K : Int → Prop} (h0 : 0 ≤ y) (h1 : y ≤ k.bits) (hk : K (x / 2 ^ y.toNat)) : shr k x y K := by
  refine ⟨by omega, ?_⟩
  have e : min y.toNat k.bits = y.toNat := by omega
  rw [e, Int.fdiv_eq_ediv_of_nonneg _ (by exact_mod_cast Nat.zero_le _)]
  exact hk
theorem br_true {X Y : Prop} {b : Bool} (h : b = true) (hx : X) : br b X Y := by subst h; exact hx
theorem br_false {X Y : Prop} {b : Bool} (h : b = false) (hy : Y) : br b X Y := by subst h; exact hy
theorem br_split {X Y : Prop} {b : Bool} (hx : b = true → X) (hy : b = false → Y) : br b X Y := by cases b; exact hy rfl; exact hx rfl
theorem br_dec {X Y p : Prop} [Decidable p] (hx : p → X) (hy : ¬ p → Y) : br (decide p) X Y := by
  by_cases h : p
  · simp only [h, decide_true]; exact hx h
  · simp only [h, decide_false]; exact hy h
theorem slc_ok {p : Option Addr} {c sz : Nat} {lo hi : Int} {K : Option Addr → Nat → Nat → Prop} (h0 : 0 ≤ lo) (h1 : lo ≤ hi) (h2 : hi ≤ (c : Int))
    (hk : K (if c = lo.toNat then p else p.map (·.add (lo.toNat * sz))) (hi.toNat - lo.toNat) (c - lo.toNat)) : slc p c sz lo hi K := ⟨⟨h0, h1, h2⟩, hk⟩
end
end Go.Sp

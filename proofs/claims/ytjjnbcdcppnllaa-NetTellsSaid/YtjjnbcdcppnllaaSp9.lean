/- Tables: slices of many cells that are their holder's own; cutting them. No conditions. -/
import Derived.Test.YtjjnbcdcppnllaaSp8
set_option linter.unusedVariables false
set_option linter.unusedSimpArgs false
set_option maxRecDepth 100000
namespace Go.Sp
open Go.RowKit

section
variable {w₀ w : World} {F : HP} {t : TypeId} {sz : Nat} {p : Option Addr} {l c : Nat} {xs : List Value} {α : Type} {f : α → List Value} {ys : List α}
theorem own_cut {l' : Nat} (h : Sat w₀ (own t sz p l c xs * F) w) (hl : l' ≤ l) : Sat w₀ (own t sz p l' c (xs.take (l' * sz)) * F) w := by
  have hxs := h.left.own_len
  have hm := Nat.mul_le_mul_right sz hl
  refine h.imp fun k a => ?_
  obtain ⟨_, a⟩ := a
  refine ⟨by rw [List.length_take]; omega, ?_⟩
  rcases a with ⟨rfl, rfl, rfl⟩ | ⟨g, cur, rfl, hg, h1, h2, h3, h4⟩
  · exact .inl ⟨rfl, by omega, rfl⟩
  · exact .inr ⟨g, cur, rfl, hg, by omega, h2, h3, by rw [← h4, List.take_take]; congr 1; omega⟩
theorem own_form (h : Sat w₀ (own t sz p l c xs) w) : (p = none ∧ l = 0) ∨ ∃ g, p = some ⟨g, 0, none⟩ := by
  rcases h.own_row.2 with ⟨e, hl⟩ | ⟨g, cap, cur, e, _⟩
  · cases e; exact .inl ⟨rfl, hl⟩
  · cases e; exact .inr ⟨g, rfl⟩
theorem slc_own {hi : Int} {K : Option Addr → Nat → Nat → Prop} (h : Sat w₀ (own t sz p l c xs * F) w) (h1 : 0 ≤ hi) (h2 : hi ≤ l) (hk : K p hi.toNat c) : slc p c sz 0 hi K := by
  have hc := h.left.own_cap
  refine slc_ok (by omega) h1 (by omega) ?_
  have e : (if c = Int.toNat 0 then p else p.map (·.add (Int.toNat 0 * sz))) = p := by
    split
    · rfl
    · cases p with
      | none => rfl
      | some a => simp [add_zero]
  rw [e]
  simpa using hk

/-- A slice of things, each of so many cells. -/
def tab (t : TypeId) (sz : Nat) (f : α → List Value) (p : Option Addr) (l c : Nat) (ys : List α) : HP := own t sz p l c (ys.flatMap f)
theorem flatLen (hf : ∀ y, (f y).length = sz) (ys : List α) : (ys.flatMap f).length = ys.length * sz := by
  induction ys with
  | nil => simp
  | cons y ys ih => rw [List.flatMap_cons, List.length_append, hf, ih, List.length_cons, Nat.add_mul]; omega
theorem flatGet (hf : ∀ y, (f y).length = sz) : ∀ {ys : List α} {i : Nat} {y : α} {j : Nat}, ys[i]? = some y → j < sz → (ys.flatMap f)[i * sz + j]? = (f y)[j]?
  | [], i, y, j, h, _ => by simp at h
  | z :: ys, 0, y, j, h, hj => by
    simp only [List.getElem?_cons_zero, Option.some.injEq] at h
    subst h
    rw [List.flatMap_cons, Nat.zero_mul, Nat.zero_add, List.getElem?_append_left (by rw [hf]; exact hj)]
  | z :: ys, i + 1, y, j, h, hj => by
    rw [List.flatMap_cons, List.getElem?_append_right (by rw [hf, Nat.add_mul]; omega), hf, show (i + 1) * sz + j - sz = i * sz + j by rw [Nat.add_mul]; omega]
    exact flatGet hf (by simpa using h) hj
theorem flatSet (hf : ∀ y, (f y).length = sz) {y' : α} {j : Nat} {v : Value} : ∀ {ys : List α} {i : Nat} {y : α}, ys[i]? = some y → j < sz → f y' = (f y).set j v → (ys.flatMap f).set (i * sz + j) v = (ys.set i y').flatMap f
  | [], i, y, h, _, _ => by simp at h
  | z :: ys, 0, y, h, hj, he => by
    simp only [List.getElem?_cons_zero, Option.some.injEq] at h
    subst h
    rw [List.set_cons_zero, List.flatMap_cons, List.flatMap_cons, Nat.zero_mul, Nat.zero_add, List.set_append_left _ _ (by rw [hf]; exact hj), he]
  | z :: ys, i + 1, y, h, hj, he => by
    rw [List.set_cons_succ, List.flatMap_cons, List.flatMap_cons, List.set_append_right _ _ (by rw [hf, Nat.add_mul]; omega), hf, show (i + 1) * sz + j - sz = i * sz + j by rw [Nat.add_mul]; omega]
    rw [flatSet hf (by simpa using h) hj he]
theorem flatTake (hf : ∀ y, (f y).length = sz) : ∀ (ys : List α) (n : Nat), (ys.flatMap f).take (n * sz) = (ys.take n).flatMap f
  | [], n => by simp
  | y :: ys, 0 => by simp
  | y :: ys, n + 1 => by
    rw [List.flatMap_cons, List.take_succ_cons, List.flatMap_cons, List.take_append, hf, List.take_of_length_le (by rw [hf, Nat.add_mul]; omega), show (n + 1) * sz - sz = n * sz by rw [Nat.add_mul]; omega, flatTake hf]
theorem tab_len (hf : ∀ y, (f y).length = sz) (hs : 0 < sz) (h : Sat w₀ (tab t sz f p l c ys) w) : ys.length = l := by
  have h1 : Sat w₀ (own t sz p l c (ys.flatMap f)) w := h
  have h2 := h1.own_len
  rw [flatLen hf] at h2
  exact Nat.eq_of_mul_eq_mul_right hs h2
theorem tab_idx (hf : ∀ y, (f y).length = sz) {i : Int} {y : α} {K : Addr → Prop} (h : Sat w₀ (tab t sz f p l c ys) w) (hs : 0 < sz) (h0 : 0 ≤ i) (hy : ys[i.toNat]? = some y)
    (hk : ∀ g, p = some ⟨g, 0, none⟩ → K ⟨g, i.toNat * sz, none⟩) : idx p l i sz K := by
  have hl := tab_len hf hs h
  have hlt := (List.getElem?_eq_some_iff.1 hy).1
  have h1 : Sat w₀ (own t sz p l c (ys.flatMap f)) w := h
  rcases own_form h1 with ⟨_, e⟩ | ⟨g, rfl⟩
  · omega
  · refine idx_ok h1.rd h0 (by omega) fun a e => ?_
    cases e
    have := hk g rfl
    rw [add_mk, Nat.zero_add]
    exact this
theorem tab_cell (hf : ∀ y, (f y).length = sz) {g i j : Nat} {y : α} {v : Value} (h : Sat w₀ (tab t sz f p l c ys) w) (hp : p = some ⟨g, 0, none⟩) (hy : ys[i]? = some y) (hj : j < sz) (hv : (f y)[j]? = some v) :
    w.cell? ((⟨g, i * sz, none⟩ : Addr).add j) = some v := by
  have h1 : Sat w₀ (own t sz p l c (ys.flatMap f)) w := h
  have h2 := h1.own_cell hp ((flatGet hf hy hj).trans hv)
  rw [add_mk, Nat.zero_add] at h2
  rw [add_mk]
  exact h2
theorem tab_st (hf : ∀ y, (f y).length = sz) {g i j : Nat} {y y' : α} {v : Value} {K : World → Prop} (h : Sat w₀ (tab t sz f p l c ys * F) w) (hp : p = some ⟨g, 0, none⟩) (hy : ys[i]? = some y) (hj : j < sz) (he : f y' = (f y).set j v)
    (hk : ∀ w', Sat w₀ (tab t sz f p l c (ys.set i y') * F) w' → K w') : st ((⟨g, i * sz, none⟩ : Addr).add j) v w K := by
  subst hp
  have hlt := (List.getElem?_eq_some_iff.1 hy).1
  have e : (⟨g, i * sz, none⟩ : Addr).add j = ⟨g, i * sz + j, none⟩ := by rw [add_mk]
  rw [e]
  have hm : i * sz + sz ≤ ys.length * sz := by rw [← Nat.succ_mul]; exact Nat.mul_le_mul_right _ hlt
  refine st_own (h : Sat w₀ (own t sz _ l c (ys.flatMap f) * F) w) (by rw [flatLen hf]; omega) fun w' h' => hk w' ?_
  rw [flatSet hf hy hj he] at h'
  exact h'
theorem tab_app {P : Program} {st ty t' : TypeId} {z : Value} {bytes k : Nat} (T : SliceTy P st t z sz bytes) (hf : ∀ y, (f y).length = sz) (hs : 0 < sz) (h1 : ∀ y, ∀ u ∈ f y, u.oneCell' = true) {x : α} {cs : Array Value} {K : Option Addr → Nat → Nat → World → Prop}
    (h : Sat w₀ (blk k cs t' * (tab t sz f p l c ys * F)) w) (hcs : cs = (f x).toArray) (h63 : l + 1 ≤ maxLen) (hb : (l + 1) * bytes ≤ 140737488355328)
    (hk : ∀ p' c' w', Sat w₀ (tab t sz f p' (l + 1) c' (ys ++ [x]) * F) w' → K p' (l + 1) c' w') :
    runsS P (Builtin.append_ #[st, st] ty #[.slice p l c, .slice (some ⟨k, 0, none⟩) 1 1]) w K := by
  subst hcs
  refine app_ok (m := 1) T (h.right : Sat w₀ (own t sz p l c (ys.flatMap f) * F) w) (h.left.rd_ob (l := 1) (sz := sz) (by simp [hf])) (by simpa using h1 x) h63 hb fun p' c' w' h' => hk p' c' w' ?_
  rw [tab, List.flatMap_append]
  simpa using h'
theorem tab_cut (hf : ∀ y, (f y).length = sz) {n : Nat} (h : Sat w₀ (tab t sz f p l c ys * F) w) (hl : n ≤ l) : Sat w₀ (tab t sz f p n c (ys.take n) * F) w := by
  have := own_cut (h : Sat w₀ (own t sz p l c (ys.flatMap f) * F) w) hl
  rw [flatTake hf] at this
  exact this
theorem tab_nil (t : TypeId) (sz : Nat) (f : α → List Value) (h : Sat w₀ F w) : Sat w₀ (tab t sz f none 0 0 [] * F) w := h.own_nil t sz
end

/-! ### numbers -/
def fI64 (y : Int) : List Value := [.int .i64 y]
def fU64 (y : Int) : List Value := [.int .u64 y]
def fNat (y : Nat) : List Value := [.int .i64 y]
theorem fI64_len (y : Int) : (fI64 y).length = 1 := rfl
theorem fU64_len (y : Int) : (fU64 y).length = 1 := rfl
theorem fNat_len (y : Nat) : (fNat y).length = 1 := rfl
theorem fI64_one (y : Int) : ∀ u ∈ fI64 y, u.oneCell' = true := by simp [fI64, Value.oneCell']
theorem fU64_one (y : Int) : ∀ u ∈ fU64 y, u.oneCell' = true := by simp [fU64, Value.oneCell']
theorem fNat_one (y : Nat) : ∀ u ∈ fNat y, u.oneCell' = true := by simp [fNat, Value.oneCell']
theorem or_u64 (x y : Nat) (hx : x < 2 ^ 64) (hy : y < 2 ^ 64) : bitw .or .u64 (x : Int) (y : Int) = ((x ||| y : Nat) : Int) := by
  have e : ∀ z : Nat, z < 2 ^ 64 → (BitVec.ofInt 64 (z : Int)).toNat = z := by
    intro z hz
    rw [BitVec.ofInt_natCast, BitVec.toNat_ofNat, Nat.mod_eq_of_lt hz]
  have hor : (x ||| y) < 2 ^ 64 := Nat.or_lt_two_pow hx hy
  show IntKind.u64.wrap ((BitVec.ofInt 64 (x : Int) ||| BitVec.ofInt 64 (y : Int)).toNat : Int) = _
  rw [BitVec.toNat_or, e x hx, e y hy, wrap_in]
  · simp [IntKind.min, IntKind.signed]
  · simp only [IntKind.max, IntKind.signed, IntKind.bits]
    have : ((x ||| y : Nat) : Int) < 2 ^ 64 := by exact_mod_cast hor
    simp only [Bool.false_eq_true, if_false]
    omega
theorem or_high {x b i : Nat} (hx : x < 2 ^ i) (hb : b * 2 ^ i < 2 ^ 64) (hx2 : x < 2 ^ 64) : bitw .or .u64 ((b * 2 ^ i : Nat) : Int) (x : Int) = ((x + b * 2 ^ i : Nat) : Int) := by
  rw [or_u64 _ x hb hx2]
  congr 1
  have := Nat.shiftLeft_add_eq_or_of_lt hx b
  rw [Nat.shiftLeft_eq] at this
  rw [← this, Nat.add_comm]
theorem shl_u64 {x : Int} {n : Nat} {K : Int → Prop} (h0 : 0 ≤ x) (hn : n ≤ 64) (h1 : x * 2 ^ n ≤ 18446744073709551615) (hk : K (x * 2 ^ n)) : shl .u64 x (n : Int) K := by
  refine ⟨by omega, ?_⟩
  have e : min (n : Int).toNat IntKind.u64.bits = n := by simp only [IntKind.bits]; omega
  rw [e, wrap_in]
  · exact hk
  · simp only [IntKind.min, IntKind.signed, Bool.false_eq_true, if_false]
    exact Int.mul_nonneg h0 (Int.pow_nonneg (by omega))
  · simpa [IntKind.max, IntKind.signed, IntKind.bits] using h1
theorem arith_u32_mod {e : Int} {K : Int → Prop} (hk : K (e % 4294967296)) : arith .u32 e K := by
  unfold arith
  have : IntKind.u32.wrap e = e % 4294967296 := by simp [IntKind.wrap, IntKind.signed, IntKind.bits]
  rw [this]
  exact hk
end Go.Sp

/- Values: what was laid is read; what was read has the form that it was read of. No conditions. -/
import Derived.Test.YtmecgkeplkchcaaV8
import Derived.Test.YtmecgkeplkchcaaV4
set_option linter.unusedVariables false
set_option linter.unusedSimpArgs false
set_option linter.unusedSectionVars false
set_option maxRecDepth 100000
namespace Go.Proofs.Ytmecgkeplkchcaa
open Go.Sp Go.RowKit

/-! ### bytes and numbers -/
theorem lay_le : ∀ (l : List Int), (∀ b ∈ l, 0 ≤ b ∧ b ≤ 255) → lay (le l) l.length = l
  | [], _ => rfl
  | b :: l, h => by
    have hb := h b (.head _)
    have ih := lay_le l fun c hc => h c (.tail _ hc)
    rw [List.length_cons, lay, le]
    rw [show (b + 256 * le l) % 256 = b by omega, show (b + 256 * le l) / 256 = le l by omega, ih]
theorem all_zero {l : List Int} (h : l.all (· == 0) = true) : l = List.replicate l.length 0 := by
  rw [List.eq_replicate_iff]
  exact ⟨rfl, by simpa using h⟩
theorem form_readR {bs : List Int} {o o' : Nat} {n s : Int} (hr : ∀ b ∈ bs, 0 ≤ b ∧ b ≤ 255) (ho : o ≤ bs.length) (h : readR bs o s = (n, o', 0)) : bs.take o' = bs.take o ++ form o n s ∧ o' ≤ bs.length := by
  unfold readR at h
  split at h
  · simp at h
  · rename_i hf
    have hs := fitsB_pos (by simpa using hf)
    dsimp only at h
    split at h
    · simp at h
    · split at h
      · simp at h
      · rename_i hl hz
        simp only [Prod.mk.injEq] at h
        obtain ⟨rfl, rfl, _⟩ := h
        have hz := all_zero (by simpa using hz)
        rw [form]
        clear hs hf
        generalize (gapI o s).toNat = m at hl hz ⊢
        generalize s.toNat = k at hl hz ⊢
        refine ⟨?_, by omega⟩
        rw [List.take_add, List.take_add]
        have l1 : ((bs.drop o).take m).length = m := by rw [List.length_take, List.length_drop]; omega
        have l2 : ((bs.drop (o + m)).take k).length = k := by rw [List.length_take, List.length_drop]; omega
        have e2 := lay_le ((bs.drop (o + m)).take k) fun b hb => hr b (List.mem_of_mem_drop (List.mem_of_mem_take hb))
        rw [l2] at e2
        rw [e2]
        rw [l1] at hz
        rw [hz, List.append_assoc]
theorem form_textR {bs : List Int} {o o' : Nat} {t : List Int} {most : Int} (hr : ∀ b ∈ bs, 0 ≤ b ∧ b ≤ 255) (ho : o ≤ bs.length) (h : textR bs o most = (t, o', 0)) :
    bs.take o' = bs.take o ++ form o t.length 4 ++ t ∧ o' ≤ bs.length ∧ (t.length : Int) ≤ most ∧ ∀ b ∈ t, 0 ≤ b ∧ b ≤ 255 := by
  unfold textR at h
  obtain ⟨⟨n, k, e⟩, E⟩ : ∃ r, readR bs o 4 = r := ⟨_, rfl⟩
  have hn := readR_num (bs := bs) (at_ := o) (size := 4) hr
  simp only [E] at h hn
  split at h
  · rename_i he
    simp only [Prod.mk.injEq] at h
    exact absurd h.2.2 he
  · rename_i he
    have he : e = 0 := by simpa using he
    subst he
    split at h
    · simp at h
    · split at h
      · simp at h
      · rename_i h1 h2
        simp only [Prod.mk.injEq] at h
        obtain ⟨rfl, rfl, _⟩ := h
        obtain ⟨e1, hk⟩ := form_readR hr ho E
        have hl : ((bs.drop k).take n.toNat).length = n.toNat := by rw [List.length_take, List.length_drop]; omega
        refine ⟨?_, by omega, by omega, fun b hb => hr b (List.mem_of_mem_drop (List.mem_of_mem_take hb))⟩
        rw [hl, List.take_add, e1, show ((n.toNat : Nat) : Int) = n by omega]
theorem textR_lay {pre rest xs : List Int} {most : Int} (hl : (xs.length : Int) ≤ most) (hm : xs.length ≤ 65535) :
    textR (pre ++ form pre.length xs.length 4 ++ xs ++ rest) pre.length most = (xs, (pre ++ form pre.length xs.length 4 ++ xs).length, 0) := by
  have h1 := readR_form (pre := pre) (rest := xs ++ rest) (n := xs.length) (size := 4) rfl (by omega) (by show (xs.length : Int) < 256 ^ 4; omega)
  rw [← List.append_assoc, ← List.append_assoc] at h1
  unfold textR
  rw [h1]
  dsimp only
  rw [if_neg (by simp), if_neg (by omega), if_neg (by simp only [List.length_append]; omega)]
  rw [Int.toNat_natCast, ← List.drop_drop, List.append_assoc, List.append_assoc, List.drop_left, List.drop_left, List.take_left]
  simp only [List.length_append]
  try (congr 2; omega)
theorem strB_bytesS (s : ByteArray) : strB (bytesS s) = s := by
  have h := strB_data (bytesS s) ByteArray.empty
  have e : ByteArray.empty.data.toList = [] := rfl
  rw [e, List.nil_append] at h
  have : (strB (bytesS s)).data = s.data := by
    apply Array.toList_inj.1
    show (strB (bytesS s)).data.toList = _
    unfold strB
    rw [h, bytesS, List.map_map]
    exact (List.map_congr_left fun b _ => by simp).trans (List.map_id _)
  cases hs : strB (bytesS s) with
  | mk a => cases s with
    | mk b => rw [hs] at this; congr 1
theorem bytesS_strB {t : List Int} (h : ∀ b ∈ t, 0 ≤ b ∧ b ≤ 255) : bytesS (strB t) = t := by
  have h1 := strB_data t ByteArray.empty
  have e : ByteArray.empty.data.toList = [] := rfl
  rw [e, List.nil_append] at h1
  rw [bytesS, strB, h1, List.map_map]
  conv => rhs; rw [← List.map_id t]
  apply List.map_congr_left
  intro b hb
  have := h b hb
  simp
  omega
theorem noS_empty {s : ByteArray} (h : noS s = true) : s = ByteArray.empty := by
  unfold noS at h
  rw [beq_bytes] at h
  have h : s = ⟨#[]⟩ := by simpa using h
  exact h
theorem noS_E : noS ByteArray.empty = true := by
  show (ByteArray.empty.toList == ByteArray.empty.toList) = true
  simp

/-! ### a value's form, part by part -/
theorem ndD_any (x : VT) : ∀ d e : Int, ndD d x = ndD e x := by
  induction x using VT.ind with
  | h x ih =>
    intro d e
    rw [ndD_eq, ndD_eq]
    congr 1
    rw [List.flatMap, List.flatMap]
    congr 1
    exact List.map_congr_left fun y hy => ih y hy _ _
def lays (bs : List Int) (x : VT) : List Int := (ndD 0 x).foldl form1 bs
theorem encV_lays (x : VT) : encV x = lays [] x := rfl
theorem foldl_flat {α β : Type} (g : List Int → β → List Int) (f : α → List β) (l : List α) : ∀ b, (l.flatMap f).foldl g b = l.foldl (fun b y => (f y).foldl g b) b := by
  induction l with
  | nil => intro b; rfl
  | cons a l ih => intro b; rw [List.flatMap_cons, List.foldl_append, ih]; rfl
theorem lays_eq (bs : List Int) (x : VT) : lays bs x = x.l.foldl lays (form1 bs x) := by
  unfold lays
  rw [ndD_eq, List.foldl_cons, foldl_flat]
  congr 1
  funext b y
  rw [ndD_any y]
theorem form1_pre (bs : List Int) (x : VT) : ∃ t, form1 bs x = (bs ++ form bs.length x.kd 1) ++ t := by
  unfold form1
  generalize bs ++ form bs.length x.kd 1 = b
  repeat' split
  · exact ⟨_, rfl⟩
  · exact ⟨_, rfl⟩
  · exact ⟨_, rfl⟩
  · exact ⟨_, by rw [List.append_assoc]⟩
  · exact ⟨_, rfl⟩
  · exact ⟨[], by simp⟩
theorem lays_pre (x : VT) : ∀ bs : List Int, ∃ t, lays bs x = form1 bs x ++ t := by
  induction x using VT.ind with
  | h x ih =>
    intro bs
    rw [lays_eq]
    generalize form1 bs x = b
    have key : ∀ (l : List VT), (∀ y ∈ l, ∀ bs : List Int, ∃ t, lays bs y = form1 bs y ++ t) → ∀ b, ∃ t, l.foldl lays b = b ++ t := by
      intro l
      induction l with
      | nil => intro _ b; exact ⟨[], by simp⟩
      | cons y l ihl =>
        intro h b
        obtain ⟨t1, h1⟩ := h y (.head _) b
        obtain ⟨t2, h2⟩ := form1_pre b y
        obtain ⟨t3, h3⟩ := ihl (fun z hz => h z (.tail _ hz)) (lays b y)
        exact ⟨form b.length y.kd 1 ++ (t2 ++ (t1 ++ t3)), by rw [List.foldl_cons, h3, h1, h2]; simp only [List.append_assoc]⟩
    exact key x.l ih b
theorem foldl_pre (l : List VT) : ∀ b, ∃ t, l.foldl lays b = b ++ t := by
  induction l with
  | nil => intro b; exact ⟨[], by simp⟩
  | cons y l ihl =>
    intro b
    obtain ⟨t1, h1⟩ := lays_pre y b
    obtain ⟨t2, h2⟩ := form1_pre b y
    obtain ⟨t3, h3⟩ := ihl (lays b y)
    exact ⟨form b.length y.kd 1 ++ (t2 ++ (t1 ++ t3)), by rw [List.foldl_cons, h3, h1, h2]; simp only [List.append_assoc]⟩
theorem lays_leaf {bs : List Int} {x : VT} (h : x.l = []) : lays bs x = form1 bs x := by rw [lays_eq, h]; rfl

/-! ### places do not matter -/
theorem er_kd (x : VT) : (er x).kd = x.kd := by rw [er_def]; rfl
theorem er_n (x : VT) : (er x).n = x.n := by rw [er_def]; rfl
theorem er_s (x : VT) : (er x).s = x.s := by rw [er_def]; rfl
theorem er_l (x : VT) : (er x).l = x.l.map er := by rw [er_def]; rfl
theorem chk1_er (d : Int) (x : VT) : chk1 d (er x) = chk1 d x := by
  have f : formB (er x) = formB x := by
    unfold formB
    rw [er_kd, er_n, er_s, er_l, List.length_map]
  unfold chk1
  rw [f, er_s, er_l, List.length_map]
theorem form1_er (bs : List Int) (x : VT) : form1 bs (er x) = form1 bs x := by
  unfold form1
  rw [er_kd, er_n, er_s, er_l, List.length_map]
theorem chkR_er (x : VT) : ∀ d, chkR d (er x) = chkR d x := by
  induction x using VT.ind with
  | h x ih =>
    intro d
    rw [chkR_eq, chkR_eq, chk1_er, er_l, List.map_map]
    congr 2
    exact List.map_congr_left fun y hy => ih y hy _
theorem lays_er (x : VT) : ∀ bs, lays bs (er x) = lays bs x := by
  induction x using VT.ind with
  | h x ih =>
    intro bs
    rw [lays_eq, lays_eq, form1_er, er_l, List.foldl_map]
    generalize form1 bs x = b
    generalize x.l = l at ih
    induction l generalizing b with
    | nil => rfl
    | cons y l ihl =>
      rw [List.foldl_cons, List.foldl_cons, ih y (.head _)]
      exact ihl _ (fun z hz => ih z (.tail _ hz))
theorem er_idem (x : VT) : er (er x) = er x := by
  induction x using VT.ind with
  | h x ih =>
    rw [er_iff, er_l]
    refine ⟨by rw [er_def]; rfl, by rw [er_def]; rfl, by rw [er_def]; rfl, ?_⟩
    rw [List.map_map]
    exact List.map_congr_left fun y hy => ih y hy
theorem chkR_same {x y : VT} (h : er x = er y) (d : Int) : chkR d x = chkR d y := by rw [← chkR_er x, ← chkR_er y, h]
theorem encV_same {x y : VT} (h : er x = er y) : encV x = encV y := by rw [encV_lays, encV_lays, ← lays_er x, ← lays_er y, h]
end Go.Proofs.Ytmecgkeplkchcaa

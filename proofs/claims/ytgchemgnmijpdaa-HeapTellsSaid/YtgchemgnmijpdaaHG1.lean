/- Graphs: what they are; what is held in memory. No conditions. -/
import Derived.Test.YtgchemgnmijpdaaHN1
set_option linter.unusedVariables false
set_option linter.unusedSimpArgs false
set_option maxRecDepth 100000
namespace Go.Proofs.Ytgchemgnmijpdaa
open Go.Sp Go.RowKit

theorem all_nodup {α : Type} {s : AS α} (hs : AOk s) : (allFrom 0 s.sp).Nodup := by
  rw [allFrom_live]
  have h := live_nodup s.sp 0
  rw [List.nodup_iff_pairwise_ne, List.pairwise_map] at h
  rw [List.nodup_iff_pairwise_ne, List.pairwise_map]
  refine h.imp_of_mem fun {p q} hp hq hne e => ?_
  obtain ⟨h1, _⟩ := live_get p hp
  obtain ⟨h2, _⟩ := live_get q hq
  have a1 := (List.getElem?_eq_some_iff.1 h1).1
  have a2 := (List.getElem?_eq_some_iff.1 h2).1
  have hl := hs.len
  have hm := hs.most1
  exact hne (hd_inj (by omega) (by omega) e).1
/-- Whether an object is a whole. -/
def iso (S : HS) (x : Int) : Bool := match pay S x with | some o => o.ou == 0 | none => false
def whs (S : HS) : List Int := (allFrom 0 S.sp).filter (iso S)
def edge (S : HS) (ws : List Int) (x : Int × Int) : Option Int := if x.1 = 1 then (whole S x.2).map fun w => (ws.idxOf w : Int) else none
def inOf (S : HS) (h : Int) : List Int := match pay S h with | some o => o.inn | none => []
def edgs (S : HS) (ws : List Int) (h : Int) : List Int := ((h :: inOf S h).flatMap (lnOf S)).filterMap (edge S ws)
def cnO (S : HS) (h : Int) : Int := match pay S h with | some o => o.cn | none => 0
def plc (ws : List Int) (x : Int) : Option Int := if x ∈ ws then some (ws.idxOf x : Int) else none
theorem plc_nil : plc [] = fun _ => none := by funext x; simp [plc]
theorem plc_snoc {ws : List Int} {h : Int} (hn : h ∉ ws) : upd (plc ws) h (some (ws.length : Int)) = plc (ws ++ [h]) := by
  funext x
  unfold upd plc
  by_cases e : x = h
  · subst e
    rw [if_pos rfl, if_pos (by simp), List.idxOf_append, if_neg hn]
    simp [List.idxOf_cons]
  · rw [if_neg e]
    by_cases hx : x ∈ ws
    · rw [if_pos hx, if_pos (by simp [hx]), List.idxOf_append, if_pos hx]
    · rw [if_neg hx, if_neg (by simp [hx, e])]
section
variable {S : HS} {top : Int}
theorem whs_nodup (hs : AOk S) : (whs S).Nodup := (all_nodup hs).sublist (List.filter_sublist)
theorem whs_live (hs : AOk S) {h : Int} (hm : h ∈ whs S) : ∃ o, pay S h = some o ∧ o.ou = 0 := by
  obtain ⟨_, hi⟩ := List.mem_filter.1 hm
  unfold iso at hi
  split at hi
  · rename_i o hp; exact ⟨o, hp, by simpa using hi⟩
  · cases hi
theorem whs_len (hs : AOk S) : (whs S).length ≤ S.cnt := nodup_cnt hs (whs_nodup hs) fun x hx => by obtain ⟨o, h, _⟩ := whs_live hs hx; exact ⟨o, h⟩
theorem whole_whs (hs : HInv top S) {h w : Int} (hw : whole S h = some w) : w ∈ whs S := by
  obtain ⟨o, hp, h0⟩ := hs.whole hw
  refine List.mem_filter.2 ⟨(pay_all hs.ok).1 ⟨o, hp⟩, ?_⟩
  unfold iso
  rw [hp]
  simpa using h0
theorem iso_whole (hs : HInv top S) {h : Int} {o : OM} (hp : pay S h = some o) : (iso S h = true ↔ (if o.ou ≠ 0 then o.ou else h) = h) := by
  unfold iso
  rw [hp]
  by_cases e : o.ou = 0
  · simp [e]
  · simp only [e, ne_eq, not_false_eq_true, if_true, beq_iff_eq, false_iff]
    intro e2
    obtain ⟨w, h1, h2, _⟩ := hs.out h o hp e
    rw [e2, hp] at h1
    cases h1
    exact e h2
theorem edgs_len (hs : HInv top S) (ws : List Int) {h : Int} : (edgs S ws h).length ≤ 8 * (S.cnt + 1) := by
  have h1 : ∀ l : List Int, (l.flatMap (lnOf S)).length ≤ 8 * l.length := fun l => by
    induction l with
    | nil => simp
    | cons a l ih =>
      have h2 : (lnOf S a).length ≤ 8 := by
        unfold lnOf
        split
        · rename_i o hp; exact (hs.rng a o hp).len
        · simp
      rw [List.flatMap_cons, List.length_append, List.length_cons]
      omega
  have h3 := h1 (h :: inOf S h)
  have h4 : (inOf S h).length ≤ S.cnt := by
    unfold inOf
    split
    · rename_i o hp; exact hs.innlen hp
    · simp
  have h5 : (edgs S ws h).length ≤ ((h :: inOf S h).flatMap (lnOf S)).length := List.length_filterMap_le _ _
  rw [List.length_cons] at h3
  omega
end
/-! ### in memory -/
structure ERow where
  p : Option Addr
  c : Nat
  l : List Int
def fU32 (n : Int) : List Value := [.int .u32 n]
theorem fU32_len (n : Int) : (fU32 n).length = 1 := rfl
theorem fU32_one (n : Int) : ∀ u ∈ fU32 n, u.oneCell' = true := by simp [fU32, Value.oneCell']
def fI (n : Int) : List Value := [.int .i64 n]
theorem fI_len (n : Int) : (fI n).length = 1 := rfl
theorem fI_one (n : Int) : ∀ u ∈ fI n, u.oneCell' = true := by simp [fI, Value.oneCell']
def esF (q : ERow) : List Value := [.slice q.p q.l.length q.c]
theorem esF_len (q : ERow) : (esF q).length = 1 := rfl
theorem esF_one (q : ERow) : ∀ u ∈ esF q, u.oneCell' = true := by simp [esF, Value.oneCell']
theorem u32sTy : SliceTy Try.prog 58 27 (.int .u32 0) 1 4 := ⟨by kernel_rfl, by kernel_rfl, rfl, by decide⟩
theorem slsTy : SliceTy Try.prog 59 43 (.slice none 0 0) 1 24 := ⟨by kernel_rfl, by kernel_rfl, rfl, by decide⟩
theorem placesTy : KeyTy Try.prog 117 T_uint64 3 (fun x : Int => Value.int .u64 x) (fun _ => True) := keyInt (by kernel_rfl) (by kernel_rfl)
theorem izero (w : World) : (zeroValue 3).run Try.prog w = .ok (.int .i64 0) w := by kernel_rfl
def esH (q : ERow) : HP := tab T_int 1 fI q.p q.l.length q.c q.l
def ersH : List ERow → HP
  | [] => emp
  | q :: qs => esH q * ersH qs
theorem ersH_pull {qs : List ERow} {i : Nat} {q : ERow} (h : qs[i]? = some q) : ersH qs = esH q * ersH (qs.eraseIdx i) := by
  induction qs generalizing i with
  | nil => simp at h
  | cons z qs ih =>
    cases i with
    | zero => simp at h; subst h; rfl
    | succ i =>
      rw [List.eraseIdx_cons_succ, ersH, ersH, ih (by simpa using h)]
      ac_rfl
theorem ersH_snoc {qs : List ERow} {q : ERow} : ersH (qs ++ [q]) = esH q * ersH qs := by
  induction qs with
  | nil => rfl
  | cons y qs ih => rw [List.cons_append, ersH, ersH, ih]; ac_rfl
/-- A graph's tables. -/
def GrH (pc : Option Addr) (cc : Nat) (pe : Option Addr) (ce : Nat) (cs : List Int) (rows : List ERow) : HP :=
  tab 27 1 fU32 pc cs.length cc cs * (tab 43 1 esF pe rows.length ce rows * ersH rows)
/-- What telling the graph answers. -/
def GOut (w₀ : World) (X : HP) (S : HS) (v : Value) (w' : World) : Prop :=
  ∃ pc cc pe ce pw cw rows, rows.map (·.l) = (whs S).map (edgs S (whs S)) ∧ v = .tuple #[.agg #[.slice pc (whs S).length cc, .slice pe (whs S).length ce], .slice pw (whs S).length cw] ∧
    Sat w₀ (GrH pc cc pe ce ((whs S).map (cnO S)) rows * (tab T_uint64 1 fU64 pw (whs S).length cw (whs S) * X)) w'
end Go.Proofs.Ytgchemgnmijpdaa

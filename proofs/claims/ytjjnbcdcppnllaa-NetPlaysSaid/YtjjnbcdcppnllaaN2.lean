/- Contracts of layer 23 (net): what it is; New, Len, place, Send. No conditions. -/
import Derived.Test.YtjjnbcdcppnllaaN1
set_option linter.unusedVariables false
set_option linter.unusedSimpArgs false
set_option maxRecDepth 100000
namespace Go.Proofs.Ytjjnbcdcppnllaa
open Go.Sp Go.RowKit

structure NM where
  most : Int
  row : List PK
  sent : Road → Option Int
  came : Mark → Option Unit
structure NOk (M : NM) (n : Int) : Prop where
  m0 : 1 ≤ M.most
  m1 : M.most ≤ 65536
  len : (M.row.length : Int) ≤ M.most
  row : ∀ x ∈ M.row, PIn x ∧ RightP x
  sent : ∀ r k, M.sent r = some k → 0 ≤ k ∧ k ≤ n
/-- Each of the row is the form of its packet, and lies in what is held. -/
structure NRow (ST : HP) (rows : List BRow) (row : List PK) : Prop where
  len : rows.length = row.length
  all : ∀ (i : Nat) (q : BRow) (x : PK), rows[i]? = some q → row[i]? = some x → q.l = (encP x).length ∧ q.l ≤ q.c ∧ Gives ST 1 q.p q.l (by8 (encP x))
def nA (most : Int) (p : Option Addr) (l c k1 k2 : Nat) : Array Value := #[.int .i64 most, .slice p l c, .map (some k1), .map (some k2)]
def vU (n : Int) : Value := .int .u64 n
def vN (_ : Unit) : Value := .agg #[]
def seH (k : Nat) (f : Road → Option Int) : HP := mapH kR vU (fun _ => True) k f
def caH (k : Nat) (f : Mark → Option Unit) : HP := mapH kM vN (fun _ => True) k f
def NetH (b : Nat) (M : NM) : HP := ex fun ST : HP => ex fun rows : List BRow => ex fun p => ex fun c => ex fun k1 => ex fun k2 => prop (NRow ST rows M.row) *
  (blk b (nA M.most p rows.length c k1 k2) T_net_Net * (tab T_sl_uint8 1 bsF p rows.length c rows * (seH k1 M.sent * (caH k2 M.came * ST))))
def nx (M : NM) (r : Road) : Int := (M.sent r).getD 0 + 1
def sqP (x : PK) (n : Int) : PK := { x with sq := n }
def sendM (M : NM) (x : PK) : NM × Int × Int :=
  if ¬ RightP (sqP x (nx M (x.fr, x.to))) then (M, 0, 5) else
  if M.most ≤ M.row.length then (M, 0, 3) else
  ({ M with row := M.row ++ [sqP x (nx M (x.fr, x.to))], sent := upd M.sent (x.fr, x.to) (some (nx M (x.fr, x.to))) }, nx M (x.fr, x.to), 0)
theorem encP_small {x : PK} (hx : PIn x) (hr : RightP x) : (encP x).length ≤ 544 := by
  have h1 := ((fs7 hx hr).mono (show 25 ≤ 30 by decide)).small
  have h2 := (rs_one hx hr).1
  have h3 := encR_len x.rs
  rw [encP, List.length_append]
  omega
section
variable {w₀ w : World} {F : HP} {b : Nat} {M : NM}
theorem NetH.open_ (h : Sat w₀ (NetH b M * F) w) : ∃ ST rows p c k1 k2, NRow ST rows M.row ∧ Sat w₀ (blk b (nA M.most p rows.length c k1 k2) T_net_Net * (tab T_sl_uint8 1 bsF p rows.length c rows * (seH k1 M.sent * (caH k2 M.came * (ST * F))))) w := by
  obtain ⟨ST, h⟩ := Sat.ex h
  obtain ⟨rows, h⟩ := Sat.ex h
  obtain ⟨p, h⟩ := Sat.ex h
  obtain ⟨c, h⟩ := Sat.ex h
  obtain ⟨k1, h⟩ := Sat.ex h
  obtain ⟨k2, h⟩ := Sat.ex h
  have h := h.perm (B := prop (NRow ST rows M.row) * (blk b (nA M.most p rows.length c k1 k2) T_net_Net * (tab T_sl_uint8 1 bsF p rows.length c rows * (seH k1 M.sent * (caH k2 M.came * (ST * F)))))) (by ac_rfl)
  exact ⟨ST, rows, p, c, k1, k2, h.prop, h.right⟩
theorem NetH.shut {ST : HP} {rows : List BRow} {p : Option Addr} {c k1 k2 l : Nat} (hr : NRow ST rows M.row) (h : Sat w₀ (blk b (nA M.most p l c k1 k2) T_net_Net * (tab T_sl_uint8 1 bsF p l c rows * (seH k1 M.sent * (caH k2 M.came * (ST * F))))) w) (hl : l = rows.length) : Sat w₀ (NetH b M * F) w := by
  subst hl
  exact Sat.to_ex ST (Sat.to_ex rows (Sat.to_ex p (Sat.to_ex c (Sat.to_ex k1 (Sat.to_ex k2 ((h.add_prop hr).perm (by ac_rfl)))))))
theorem NRow.more {ST G : HP} {rows : List BRow} {row : List PK} (h : NRow ST rows row) : NRow (G * ST) rows row := ⟨h.len, fun i q x h1 h2 => by
  obtain ⟨a, b, c⟩ := h.all i q x h1 h2
  exact ⟨a, b, Gives.right c⟩⟩
theorem NRow.snoc {ST : HP} {rows : List BRow} {row : List PK} {q : BRow} {x : PK} (h : NRow ST rows row) (h1 : q.l = (encP x).length) (h2 : q.l ≤ q.c) (h3 : Gives ST 1 q.p q.l (by8 (encP x))) : NRow ST (rows ++ [q]) (row ++ [x]) := by
  refine ⟨by simp [h.len], fun i q' x' hq hx => ?_⟩
  by_cases hi : i < rows.length
  · rw [List.getElem?_append_left hi] at hq
    rw [List.getElem?_append_left (by rw [← h.len]; exact hi)] at hx
    exact h.all i q' x' hq hx
  · rw [List.getElem?_append_right (by omega)] at hq
    rw [List.getElem?_append_right (by rw [← h.len]; omega), ← h.len] at hx
    have hlt := (List.getElem?_eq_some_iff.1 hq).1
    have e : i - rows.length = 0 := by simp at hlt; omega
    rw [e] at hq hx
    simp at hq hx
    subst hq hx
    exact ⟨h1, h2, h3⟩
theorem NRow.erase {ST : HP} {rows : List BRow} {row : List PK} {k : Nat} (h : NRow ST rows row) : NRow ST (rows.eraseIdx k) (row.eraseIdx k) := by
  refine ⟨by rw [List.length_eraseIdx, List.length_eraseIdx, h.len], fun i q x hq hx => ?_⟩
  rw [List.getElem?_eraseIdx] at hq hx
  split at hq
  · rename_i hi; rw [if_pos hi] at hx; exact h.all i q x hq hx
  · rename_i hi; rw [if_neg hi] at hx; exact h.all _ q x hq hx
theorem net_New_ok {most : Int} (h : Sat w₀ F w) (h0 : 1 ≤ most) (h1 : most ≤ 65536) : call Try.prog fn_net_New #[.int .i64 most] w fun v w' => ∃ b, v = .tuple #[.pointer (some ⟨b, 0, none⟩), .int .i64 0] ∧ Sat w₀ (NetH b ⟨most, [], fun _ => none, fun _ => none⟩ * F) w' := by
  apply net_New_call
  unfold net_New
  refine br_false (by simp; omega) <| br_false (by simp; omega) <| newM_ok kR vU (fun _ => True) h fun k1 w1 h2 => newM_ok kM vN (fun _ => True) h2 fun k2 w2 h3 => new_ok h3 fun k3 w3 h4 => ⟨k3, rfl, ?_⟩
  refine NetH.shut (ST := emp) (rows := []) (p := none) (c := 0) (k1 := k1) (k2 := k2) (l := 0) ⟨rfl, fun i q x hq => by simp at hq⟩ ?_ rfl
  exact (tab_nil T_sl_uint8 1 bsF h4.with_emp).perm (by
    show tab T_sl_uint8 1 bsF none 0 0 [] * (emp * (blk k3 (nA most none 0 0 k1 k2) T_net_Net * (caH k2 (fun _ => none) * (seH k1 (fun _ => none) * F)))) = _
    ac_rfl)
theorem net_New_no {most : Int} (h : most < 1 ∨ most > 65536) : PureCall Try.prog fn_net_New #[.int .i64 most] (.tuple #[.pointer none, .int .i64 1]) := by
  intro w
  apply net_New_call
  unfold net_New
  exact br_dec (fun _ => ⟨rfl, rfl⟩) fun _ => br_true (by simp; omega) ⟨rfl, rfl⟩
theorem net_Len_ok (h : Sat w₀ (NetH b M * F) w) : call Try.prog fn_net_Net_Len #[.pointer (some ⟨b, 0, none⟩)] w fun v w' => w' = w ∧ v = .int .i64 M.row.length := by
  apply net_Net_Len_call
  unfold net_Net_Len
  obtain ⟨ST, rows, p, c, k1, k2, hr, h1⟩ := NetH.open_ h
  refine br_false rfl <| nn_ok <| ldS_ok (cell_blk h1 (i := 1) rfl) ⟨rfl, by rw [hr.len]⟩
/-- A place's number. -/
def pkI (i : Int) (n : Nat) : Int := if i.tmod n < 0 then i.tmod n + n else i.tmod n
theorem pkI_range {i : Int} {n : Nat} (hn : 0 < n) : 0 ≤ pkI i n ∧ pkI i n < n := by
  have h4 := Int.tmod_lt_of_pos i (show (0 : Int) < n by omega)
  have h5 : -(n : Int) < i.tmod n := by
    by_cases hx : 0 ≤ i
    · have := Int.tmod_nonneg (n : Int) hx
      omega
    · have h6 := Int.tmod_lt_of_pos (-i) (show (0 : Int) < n by omega)
      rw [Int.neg_tmod] at h6
      omega
  unfold pkI
  split <;> omega
theorem net_place_ok {i : Int} (h : Sat w₀ (NetH b M * F) w) (hl : M.row.length ≤ 65536) : call Try.prog fn_net_Net_place #[.pointer (some ⟨b, 0, none⟩), .int .i64 i] w fun v w' => w' = w ∧
    ((M.row = [] ∧ v = .tuple #[.int .i64 0, .int .i64 12]) ∨ (M.row ≠ [] ∧ v = .tuple #[.int .i64 (pkI i M.row.length), .int .i64 0])) := by
  apply net_Net_place_call
  unfold net_Net_place
  refine call_mono (net_Len_ok h) ?_
  rintro _ w1 ⟨rfl, rfl⟩
  refine asI_ok <| br_split (fun h0 => ⟨rfl, .inl ⟨?_, rfl⟩⟩) (fun h0 => ?_)
  · have h0 : (M.row.length : Int) = 0 := by simpa using h0
    exact List.eq_nil_of_length_eq_zero (by omega)
  · have h0 : ¬ (M.row.length : Int) = 0 := by simpa using h0
    have hne : M.row ≠ [] := fun e => h0 (by rw [e]; rfl)
    obtain ⟨ST, rows, p, c, k1, k2, hr, h1⟩ := NetH.open_ h
    have hp := pkI_range (i := i) (n := M.row.length) (by omega)
    have c1 := cell_blk h1 (i := 1) (v := .slice p rows.length c) rfl
    refine nn_ok <| ldS_ok c1 ?_
    rw [hr.len] at c1 ⊢
    refine ⟨by omega, br_dec (fun hlt => nn_ok <| ldS_ok c1 <| arith_i64 ?_ ?_ ⟨rfl, .inr ⟨hne, ?_⟩⟩) (fun hge => ⟨rfl, .inr ⟨hne, ?_⟩⟩)⟩
    · unfold pkI at hp; rw [if_pos hlt] at hp; omega
    · unfold pkI at hp; rw [if_pos hlt] at hp; omega
    · rw [pkI, if_pos hlt]
    · rw [pkI, if_neg hge]
theorem look0 {P : Program} {t k e : TypeId} {κ ν : Type} [DecidableEq κ] {kf : κ → Value} {vf : ν → Value} {S : κ → Prop} {r : Nat} {f : κ → Option ν} (T : KeyTy P t k e kf S) {x : κ} {z : Value} {K : Value → Prop} (h : Sat w₀ (mapH kf vf S r f * F) w) (hx : S x) (hz : (zeroValue e).run P w = .ok z w)
    (hk : K ((f x).elim z vf)) : lookW P t (some r) (kf x) false w K := by
  refine look_ok T h hx hz ?_
  rw [if_neg (by decide)]
  revert hk
  cases f x <;> exact id
theorem look1 {P : Program} {t k e : TypeId} {κ ν : Type} [DecidableEq κ] {kf : κ → Value} {vf : ν → Value} {S : κ → Prop} {r : Nat} {f : κ → Option ν} (T : KeyTy P t k e kf S) {x : κ} {z : Value} {K : Value → Prop} (h : Sat w₀ (mapH kf vf S r f * F) w) (hx : S x) (hz : (zeroValue e).run P w = .ok z w)
    (hk : K (.tuple #[(f x).elim z vf, .bool (f x).isSome])) : lookW P t (some r) (kf x) true w K := by
  refine look_ok T h hx hz ?_
  rw [if_pos rfl]
  revert hk
  cases f x <;> exact id
theorem asI_opt {s : Option Int} {K : Int → Prop} (h : K (s.getD 0)) : asI .u64 (s.elim (.int .u64 0) vU) K := by
  cases s <;> exact asI_ok h
theorem net_Send_ok {x : PK} {p : Option Addr} {l c : Nat} {n : Int} (h : Sat w₀ (NetH b M * F) w) (hM : NOk M n) (hn : n ≤ 10000) (hx : PIn x) (gx : Gives F 36 p l (x.rs.flatMap orC)) (hl : l ≤ 4611686018427387904) :
    call Try.prog fn_net_Net_Send #[.pointer (some ⟨b, 0, none⟩), .agg (pkF x (.slice p l c))] w fun v w' => v = .tuple #[.int .u64 (sendM M x).2.1, .int .i64 (sendM M x).2.2] ∧ Sat w₀ (NetH b (sendM M x).1 * F) w' := by
  apply net_Net_Send_call
  unfold net_Net_Send
  refine new_ok h fun k1 w1 h1 => ?_
  have h1 : Sat w₀ (blk k1 (pkF x (.slice p l c)) T_api_Packet * (NetH b M * F)) w1 := h1
  refine br_false rfl <| ldI_ok (n := x.fr) (cell_blk h1 (i := 1) rfl) <| ldI_ok (n := x.to) (cell_blk h1 (i := 2) rfl) <| new_ok h1 fun k4 w2 h2 => stA_ok h2 rfl rfl (by simp [Value.oneCell']) fun w3 h3 => ?_
  have h3 : Sat w₀ (NetH b M * (blk k4 (rdA (x.fr, x.to)) T_net_road * (blk k1 (pkF x (.slice p l c)) T_api_Packet * F))) w3.drew := h3.drew.perm (by
    show blk k4 (rdA (x.fr, x.to)) T_net_road * _ = _
    ac_rfl)
  obtain ⟨ST, rows, pr, cr, m1, m2, hr, h4⟩ := NetH.open_ h3
  have hseq : 0 ≤ (M.sent (x.fr, x.to)).getD 0 ∧ (M.sent (x.fr, x.to)).getD 0 ≤ 10000 := by
    cases hs : M.sent (x.fr, x.to) with
    | none => simp
    | some k => have := hM.sent _ _ hs; simp only [Option.getD_some]; omega
  have h4m := h4.right.right
  refine nn_ok <| ldM_ok (cell_blk h4 (i := 2) rfl) <| ldA_blk0 (h4.right.right.right.right.right) rfl <| look0 roadTy (x := (x.fr, x.to)) h4m trivial (show (zeroValue T_uint64).run Try.prog w3.drew = .ok (.int .u64 0) w3.drew by kernel_rfl) ?_
  obtain ⟨n10, hn10⟩ : ∃ n10, n10 = nx M (x.fr, x.to) := ⟨_, rfl⟩
  have hn10r : 1 ≤ n10 ∧ n10 ≤ 10001 := by rw [hn10, nx]; omega
  refine asI_opt (s := M.sent (x.fr, x.to)) ?_
  refine arith_u64 (by omega) (by omega) <| st_ok (i := 3) (h3.perm (B := blk k1 (pkF x (.slice p l c)) T_api_Packet * (NetH b M * (blk k4 (rdA (x.fr, x.to)) T_net_road * F))) (by ac_rfl)) (pk_lt (by decide)) fun w4 h5 => ?_
  have en : (M.sent (x.fr, x.to)).getD 0 + 1 = n10 := by rw [hn10, nx]
  rw [en] at h5
  have e3 : (pkF x (.slice p l c)).setIfInBounds 3 (.int .u64 n10) = pkF (sqP x n10) (.slice p l c) := by
    rw [pk_set 3 (by decide)]
    rfl
  rw [e3] at h5
  have h5 : Sat w₀ (blk k1 (pkF (sqP x n10) (.slice p l c)) T_api_Packet * (NetH b M * (blk k4 (rdA (x.fr, x.to)) T_net_road * F))) w4 := h5
  have hx' : PIn (sqP x n10) := ⟨hx.kd, hx.fr, hx.to, ⟨by show 0 ≤ n10; omega, by show n10 ≤ 18446744073709551615; omega⟩, hx.cl, hx.ip, hx.by_, hx.md, hx.n, hx.cd⟩
  have gx' : Gives (blk k1 (pkF (sqP x n10) (.slice p l c)) T_api_Packet * (NetH b M * (blk k4 (rdA (x.fr, x.to)) T_net_road * F))) 36 p l ((sqP x n10).rs.flatMap orC) := Gives.right (Gives.right (Gives.right gx))
  rw [sendM, ← hn10]
  refine ldPk h5 hx'.ip ?_
  by_cases hright : RightP (sqP x n10)
  · rw [if_neg (fun q => q hright)]
    refine call_mono (packet_Encode_ok h5 hx' hright gx' hl) ?_
    rintro _ w5 ⟨q13, d13, rfl, h6⟩
    have hcap := (show Sat w₀ (own T_uint8 1 q13 (encP (sqP x n10)).length d13 (by8 (encP (sqP x n10)))) w5 from h6.left).own_cap
    have h6 := h6.drew
    obtain ⟨ST, rows, pr, cr, m1, m2, hr, h7⟩ := NetH.open_ (h6.perm (B := NetH b M * (own T_uint8 1 q13 (encP (sqP x n10)).length d13 (by8 (encP (sqP x n10))) * (blk k1 (pkF (sqP x n10) (.slice p l c)) T_api_Packet * (blk k4 (rdA (x.fr, x.to)) T_net_road * F)))) (by ac_rfl))
    refine ⟨_, _, _, _, rfl, br_false rfl <| nn_ok <| ldS_ok (cell_blk h7 (i := 1) rfl) <| nn_ok <| ldI_ok (n := M.most) (cell_blk h7 (i := 0) rfl) <| br_dec (fun hge => ?_) (fun hlt => ?_)⟩
    · rw [if_pos (by rw [← hr.len]; exact hge)]
      refine ⟨rfl, ?_⟩
      exact (NetH.shut hr h7 rfl).perm (B := (own T_uint8 1 q13 (encP (sqP x n10)).length d13 (by8 (encP (sqP x n10))) * (blk k1 (pkF (sqP x n10) (.slice p l c)) T_api_Packet * blk k4 (rdA (x.fr, x.to)) T_net_road)) * (NetH b M * F)) (by ac_rfl) |>.right
    · rw [if_neg (by rw [← hr.len]; exact hlt)]
      have hml := hM.m1
      refine nn_ok <| ldS_ok (cell_blk h7 (i := 1) rfl) <| new_ok h7 fun k21 w6 h8 => ?_
      refine tab_app bssTy bsF_len (by decide) bsF_one (x := (⟨q13, (encP (sqP x n10)).length, d13⟩ : BRow)) (h8.perm (B := blk k21 #[.slice q13 (encP (sqP x n10)).length d13] T_sl_uint8 * (tab T_sl_uint8 1 bsF pr rows.length cr rows * (blk b (nA M.most pr rows.length cr m1 m2) T_net_Net * (seH m1 M.sent * (caH m2 M.came * (own T_uint8 1 q13 (encP (sqP x n10)).length d13 (by8 (encP (sqP x n10))) * (ST * (blk k1 (pkF (sqP x n10) (.slice p l c)) T_api_Packet * (blk k4 (rdA (x.fr, x.to)) T_net_road * F))))))))) (by ac_rfl)) rfl (by simp only [maxLen]; omega) (by omega) fun p' c' w7 h9 => ?_
      refine nn_ok <| st_ok (i := 1) (h9.perm (B := blk b (nA M.most pr rows.length cr m1 m2) T_net_Net * (tab T_sl_uint8 1 bsF p' (rows.length + 1) c' (rows ++ [⟨q13, (encP (sqP x n10)).length, d13⟩]) * (seH m1 M.sent * (caH m2 M.came * (own T_uint8 1 q13 (encP (sqP x n10)).length d13 (by8 (encP (sqP x n10))) * (ST * (blk k1 (pkF (sqP x n10) (.slice p l c)) T_api_Packet * (blk k4 (rdA (x.fr, x.to)) T_net_road * F)))))))) (by ac_rfl)) (by simp [nA]) fun w8 h10 => ?_
      have h10 : Sat w₀ (blk b (nA M.most p' (rows.length + 1) c' m1 m2) T_net_Net * (tab T_sl_uint8 1 bsF p' (rows.length + 1) c' (rows ++ [⟨q13, (encP (sqP x n10)).length, d13⟩]) * (seH m1 M.sent * (caH m2 M.came * (own T_uint8 1 q13 (encP (sqP x n10)).length d13 (by8 (encP (sqP x n10))) * (ST * (blk k1 (pkF (sqP x n10) (.slice p l c)) T_api_Packet * (blk k4 (rdA (x.fr, x.to)) T_net_road * F)))))))) w8.drew := Sat.drew h10
      refine nn_ok <| ldM_ok (cell_blk h10 (i := 2) rfl) <| ldA_blk0 (h10.right.right.right.right.right.right.right) rfl <| ldI_ok (n := n10) (cell_blk h10.right.right.right.right.right.right (i := 3) rfl) <| setM_ok (v := n10) roadTy (x := (x.fr, x.to)) (h10.perm (B := seH m1 M.sent * (blk b (nA M.most p' (rows.length + 1) c' m1 m2) T_net_Net * (tab T_sl_uint8 1 bsF p' (rows.length + 1) c' (rows ++ [⟨q13, (encP (sqP x n10)).length, d13⟩]) * (caH m2 M.came * (own T_uint8 1 q13 (encP (sqP x n10)).length d13 (by8 (encP (sqP x n10))) * (ST * (blk k1 (pkF (sqP x n10) (.slice p l c)) T_api_Packet * (blk k4 (rdA (x.fr, x.to)) T_net_road * F)))))))) (by ac_rfl)) trivial fun w9 h11 => ?_
      have h11 : Sat w₀ (seH m1 (upd M.sent (x.fr, x.to) (some n10)) * (blk b (nA M.most p' (rows.length + 1) c' m1 m2) T_net_Net * (tab T_sl_uint8 1 bsF p' (rows.length + 1) c' (rows ++ [⟨q13, (encP (sqP x n10)).length, d13⟩]) * (caH m2 M.came * (own T_uint8 1 q13 (encP (sqP x n10)).length d13 (by8 (encP (sqP x n10))) * (ST * (blk k1 (pkF (sqP x n10) (.slice p l c)) T_api_Packet * (blk k4 (rdA (x.fr, x.to)) T_net_road * F)))))))) w9 := h11
      refine ldI_ok (n := n10) (cell_blk h11.right.right.right.right.right.right (i := 3) rfl) ⟨rfl, ?_⟩
      refine NetH.shut (M := { M with row := M.row ++ [sqP x n10], sent := upd M.sent (x.fr, x.to) (some n10) }) (ST := own T_uint8 1 q13 (encP (sqP x n10)).length d13 (by8 (encP (sqP x n10))) * ST) (p := p') (c := c') (k1 := m1) (k2 := m2) (l := rows.length + 1) (hr.more.snoc (q := ⟨q13, (encP (sqP x n10)).length, d13⟩) rfl hcap (Gives.left Gives.own)) ?_ (by simp)
      exact (h11.perm (B := (blk k1 (pkF (sqP x n10) (.slice p l c)) T_api_Packet * blk k4 (rdA (x.fr, x.to)) T_net_road) * (blk b (nA M.most p' (rows.length + 1) c' m1 m2) T_net_Net * (tab T_sl_uint8 1 bsF p' (rows.length + 1) c' (rows ++ [⟨q13, (encP (sqP x n10)).length, d13⟩]) * (seH m1 (upd M.sent (x.fr, x.to) (some n10)) * (caH m2 M.came * ((own T_uint8 1 q13 (encP (sqP x n10)).length d13 (by8 (encP (sqP x n10))) * ST) * F)))))) (by ac_rfl)).right
  · rw [if_pos hright]
    refine call_mono (packet_Encode_no h5 hx' hright gx' hl) ?_
    rintro _ w5 ⟨rfl, h6⟩
    refine ⟨_, _, _, _, rfl, br_true rfl ⟨rfl, ?_⟩⟩
    exact (h6.perm (B := (blk k1 (pkF (sqP x n10) (.slice p l c)) T_api_Packet * blk k4 (rdA (x.fr, x.to)) T_net_road) * (NetH b M * F)) (by ac_rfl)).right
end
end Go.Proofs.Ytjjnbcdcppnllaa

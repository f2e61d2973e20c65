
/- Packets: the form, and both ways to lay it. No conditions. -/
import Derived.Test.YtjjnbcdcppnllaaP3
set_option linter.unusedVariables false
set_option linter.unusedSimpArgs false
set_option linter.unusedSectionVars false
set_option maxRecDepth 100000
namespace Go.Proofs.Ytjjnbcdcppnllaa
open Go.Sp Go.RowKit

/-! ### numbers, one behind the other -/
def encN (fs : List (Int × Int)) (bs : List Int) : List Int := fs.foldl (fun bs f => bs ++ form bs.length f.1 f.2) bs
theorem encN_append (fs gs : List (Int × Int)) (bs : List Int) : encN (fs ++ gs) bs = encN gs (encN fs bs) := by simp [encN]
theorem encN_snoc (fs : List (Int × Int)) (f : Int × Int) (bs : List Int) : encN (fs ++ [f]) bs = encN fs bs ++ form (encN fs bs).length f.1 f.2 := by simp [encN]
structure Fs (fs : List (Int × Int)) (k : Nat) : Prop where
  len : fs.length ≤ k
  fit : ∀ f ∈ fs, fitsB f.2 = true
  rng : ∀ f ∈ fs, 0 ≤ f.1 ∧ f.1 < 256 ^ f.2.toNat
theorem Fs.nil : Fs [] 0 := ⟨by simp, by simp, by simp⟩
theorem Fs.snoc {fs : List (Int × Int)} {k : Nat} {n s : Int} (h : Fs fs k) (hf : fitsB s = true) (h0 : 0 ≤ n) (h1 : n < 256 ^ s.toNat) : Fs (fs ++ [(n, s)]) (k + 1) := by
  refine ⟨by have := h.len; simp; omega, fun f hm => ?_, fun f hm => ?_⟩
  · rcases List.mem_append.1 hm with hm | hm
    · exact h.fit f hm
    · simp at hm; subst hm; exact hf
  · rcases List.mem_append.1 hm with hm | hm
    · exact h.rng f hm
    · simp at hm; subst hm; exact ⟨h0, h1⟩
theorem Fs.mono {fs : List (Int × Int)} {k m : Nat} (h : Fs fs k) (hm : k ≤ m) : Fs fs m := ⟨Nat.le_trans h.len hm, h.fit, h.rng⟩
theorem Fs.bytes {fs : List (Int × Int)} {k : Nat} (h : Fs fs k) {bs : List Int} (hb : ∀ b ∈ bs, 0 ≤ b ∧ b ≤ 255) : Fs (fs ++ bs.map (·, 1)) (k + bs.length) := by
  refine ⟨by have := h.len; simp; omega, fun f hm => ?_, fun f hm => ?_⟩
  · rcases List.mem_append.1 hm with hm | hm
    · exact h.fit f hm
    · obtain ⟨b, _, rfl⟩ := List.mem_map.1 hm; rfl
  · rcases List.mem_append.1 hm with hm | hm
    · exact h.rng f hm
    · obtain ⟨b, hbm, rfl⟩ := List.mem_map.1 hm
      have := hb b hbm
      exact ⟨this.1, by show b < 256; omega⟩
theorem encN_len {fs : List (Int × Int)} (h : ∀ f ∈ fs, fitsB f.2 = true) (bs : List Int) : (encN fs bs).length ≤ bs.length + 16 * fs.length := by
  induction fs generalizing bs with
  | nil => simp [encN]
  | cons f fs ih =>
    have hf := h f (.head _)
    have := ih (fun g hg => h g (.tail _ hg)) (bs ++ form bs.length f.1 f.2)
    have hp := fitsB_pos hf
    have hg := gapI_le (a := (bs.length : Int)) hp.1
    rw [List.length_append, form_length _ _ _ hp.1] at this
    show (encN fs (bs ++ form bs.length f.1 f.2)).length ≤ _
    rw [List.length_cons]
    omega
theorem Fs.small {fs : List (Int × Int)} (h : Fs fs 30) : (encN fs []).length ≤ 480 := by
  have := encN_len h.fit []
  have := h.len
  simp at *
  omega
theorem form_one {a : Nat} {n : Int} (h0 : 0 ≤ n) (h1 : n ≤ 255) : form a n 1 = [n] := by
  rw [form_al (by omega) (by omega)]
  exact lay_one h0 h1
theorem encN_bytes {bs : List Int} (hb : ∀ b ∈ bs, 0 ≤ b ∧ b ≤ 255) (pre : List Int) : encN (bs.map (·, 1)) pre = pre ++ bs := by
  induction bs generalizing pre with
  | nil => simp [encN]
  | cons b bs ih =>
    have h := hb b (.head _)
    show encN (bs.map (·, 1)) (pre ++ form pre.length b 1) = _
    rw [ih (fun c hc => hb c (.tail _ hc)), form_one h.1 h.2]
    simp

/-! ### a packet's -/
def un (n : Int) : Int := n % 18446744073709551616
theorem un_range (n : Int) : 0 ≤ un n ∧ un n ≤ 18446744073709551615 := by unfold un; omega
theorem arith_un {e : Int} {K : Int → Prop} (hk : K (un e)) : arith .u64 e K := by
  unfold arith
  have : IntKind.wrap .u64 e = un e := by
    simp only [IntKind.wrap, IntKind.signed, IntKind.bits, un]
    simp
  rw [this]
  exact hk
def callB (k : Int) : Bool := k == 1 || k == 2
def ipidB (k : Int) : Bool := k == 1 || k == 3 || k == 4
def nB (k : Int) : Bool := k == 1 || k == 2 || k == 3 || k == 4
theorem packet_row_ok (k : Int) : PureCall Try.prog fn_packet_row #[.int .i64 k] (.tuple #[.bool (callB k), .bool (ipidB k), .bool (k == 1), .bool (k == 2), .bool (nB k), .bool (k == 1)]) := by
  intro w
  apply packet_row_call
  unfold packet_row
  unfold callB ipidB nB
  refine br_split (fun h1 => ?_) (fun h1 => br_split (fun h2 => ?_) (fun h2 => br_split (fun h3 => br_split (fun _ => ?_) (fun h => ?_)) (fun h3 => br_split (fun h4 => ?_) (fun h4 => ?_))))
  · have : k = 1 := by simpa using h1
    subst this; exact ⟨rfl, rfl⟩
  · have : k = 2 := by simpa using h2
    subst this; exact ⟨rfl, rfl⟩
  · have : k = 3 := by simpa using h3
    subst this; exact ⟨rfl, rfl⟩
  · rw [h3] at h; cases h
  · have : k = 4 := by simpa using h4
    subst this; exact ⟨rfl, rfl⟩
  · exact ⟨by simp [h1, h2, h3, h4], rfl⟩
def A0 (x : PK) : List (Int × Int) := [(x.kd, 1), (x.fr, 1), (x.to, 1)]
def A1 (x : PK) : List (Int × Int) := A0 x ++ [(x.sq, 8)]
def A2 (x : PK) : List (Int × Int) := if callB x.kd then A1 x ++ [(x.cl, 8)] else A1 x
def A3 (x : PK) : List (Int × Int) := if ipidB x.kd then A2 x ++ x.ip.map (·, 1) else A2 x
def A4 (x : PK) : List (Int × Int) := if x.kd == 1 then A3 x ++ [(x.md, 1)] else A3 x
def A5 (x : PK) : List (Int × Int) := if x.kd == 2 then A4 x ++ [(x.cd, 1)] else A4 x
def A6 (x : PK) : List (Int × Int) := if nB x.kd then A5 x ++ [(un x.n, 8)] else A5 x
def A7 (x : PK) : List (Int × Int) := if x.kd == 1 then A6 x ++ [((x.rs.length : Int), 8)] else A6 x
def encR (rs : List OR) : List Int := rs.flatMap fun r => encL r.1
def encP (x : PK) : List Int := encN (A7 x) [] ++ encR x.rs
theorem RightP.kd {x : PK} (h : RightP x) : 1 ≤ x.kd ∧ x.kd ≤ 5 := by unfold RightP at h; omega
section
variable {x : PK} (hx : PIn x) (hr : RightP x)
include hx hr
theorem fs0 : Fs (A0 x) 3 := by
  have hk := hr.kd
  unfold RightP at hr
  exact ((Fs.nil.snoc rfl (by omega) (by show x.kd < 256; omega)).snoc rfl hr.1 (by show x.fr < 256; omega)).snoc rfl hr.2.2.1 (by show x.to < 256; omega)
theorem fs1 : Fs (A1 x) 4 := (fs0 hx hr).snoc rfl hx.sq.1 (by have := hx.sq.2; show x.sq < 18446744073709551616; omega)
theorem fs2 : Fs (A2 x) 5 := by
  unfold A2
  split
  · exact (fs1 hx hr).snoc rfl hx.cl.1 (by have := hx.cl.2; show x.cl < 18446744073709551616; omega)
  · exact (fs1 hx hr).mono (by omega)
theorem fs3 : Fs (A3 x) 21 := by
  unfold A3
  split
  · have := (fs2 hx hr).bytes hx.by_
    rw [hx.ip] at this
    exact this
  · exact (fs2 hx hr).mono (by omega)
theorem fs4 : Fs (A4 x) 22 := by
  unfold A4
  split
  · rename_i h
    have h : x.kd = 1 := by simpa using h
    have h3 := fs3 hx hr
    unfold RightP at hr
    exact h3.snoc rfl (by omega) (by show x.md < 256; omega)
  · exact (fs3 hx hr).mono (by omega)
theorem fs5 : Fs (A5 x) 23 := by
  unfold A5
  split
  · rename_i h
    have h : x.kd = 2 := by simpa using h
    have h3 := fs4 hx hr
    unfold RightP at hr
    exact h3.snoc rfl (by omega) (by show x.cd < 256; omega)
  · exact (fs4 hx hr).mono (by omega)
theorem fs6 : Fs (A6 x) 24 := by
  unfold A6
  split
  · have := un_range x.n
    exact (fs5 hx hr).snoc rfl this.1 (by show un x.n < 18446744073709551616; omega)
  · exact (fs5 hx hr).mono (by omega)
theorem rs_one : x.rs.length ≤ 1 ∧ (x.kd ≠ 1 → x.rs = []) ∧ ∀ r ∈ x.rs, rightB r.1 = true := by
  unfold RightP at hr
  rcases hr.2.2.2.2.2 with h | h | h | h
  · exact ⟨h.2.1, fun e => absurd h.1 e, h.2.2.1⟩
  · rw [h.2.2.2.1]; simp
  · rw [h.2.2.2.2.1]; simp
  · rw [h.2.2.2.2.2.2]; simp
theorem fs7 : Fs (A7 x) 25 := by
  unfold A7
  split
  · have := (rs_one hx hr).1
    exact (fs6 hx hr).snoc rfl (by omega) (by show (x.rs.length : Int) < 18446744073709551616; omega)
  · exact (fs6 hx hr).mono (by omega)
end
theorem encR_len (rs : List OR) : (encR rs).length = 64 * rs.length := by
  induction rs with
  | nil => rfl
  | cons r rs ih =>
    show (encL r.1 ++ encR rs).length = _
    rw [List.length_append, encL_length r.2, ih, List.length_cons]
    omega
theorem encP_len {x : PK} (hx : PIn x) (hr : RightP x) : (encP x).length ≤ 600 := by
  have h1 := (fs7 hx hr).mono (m := 30) (by omega) |>.small
  have h2 := (rs_one hx hr).1
  rw [encP, List.length_append, encR_len]
  omega
section
variable {w₀ w : World} {F : HP} {x : PK} {p : Option Addr} {l c : Nat}
theorem wr_num {g k : Nat} {fs : List (Int × Int)} {n s : Int} (h : Sat w₀ (Wr g (encN fs []) * F) w) (hfs : Fs (fs ++ [(n, s)]) k) (hk : k ≤ 30) :
    call Try.prog fn_wire_Writer_Num #[.pointer (some ⟨g, 0, none⟩), .int .u64 n, .int .i64 s] w fun v w' => v = .int .i64 0 ∧ Sat w₀ (Wr g (encN (fs ++ [(n, s)]) []) * F) w' := by
  have hf := hfs.fit (n, s) (by simp)
  have hr := hfs.rng (n, s) (by simp)
  have h1 : Fs fs 30 := ⟨by have := hfs.len; simp at this; omega, fun f hm => hfs.fit f (by simp [hm]), fun f hm => hfs.rng f (by simp [hm])⟩
  have := h1.small
  rw [encN_snoc]
  exact wire_Num_ok h hf hr.1 hr.2 (by omega)
theorem packet_Encode_no (h : Sat w₀ F w) (hx : PIn x) (hr : ¬ RightP x) (gx : Gives F 36 p l (x.rs.flatMap orC)) (hl : l ≤ 4611686018427387904) :
    call Try.prog fn_packet_Encode #[.agg (pkF x (.slice p l c))] w fun v w' => v = .tuple #[.slice none 0 0, .int .i64 5] ∧ Sat w₀ F w' := by
  apply packet_Encode_call
  unfold packet_Encode
  refine new_ok h fun k1 w1 h1 => ldPk h1 hx.ip <| call_mono (packet_Check_ok h1 hx (Gives.right gx) hl) ?_
  rintro _ w2 ⟨rfl, h2⟩
  rw [if_neg hr]
  exact asI_ok <| br_true rfl ⟨rfl, h2.right⟩
theorem packet_Encode_ok (h : Sat w₀ F w) (hx : PIn x) (hr : RightP x) (gx : Gives F 36 p l (x.rs.flatMap orC)) (hl : l ≤ 4611686018427387904) :
    call Try.prog fn_packet_Encode #[.agg (pkF x (.slice p l c))] w fun v w' => ∃ q d, v = .tuple #[.slice q (encP x).length d, .int .i64 0] ∧ Sat w₀ (own T_uint8 1 q (encP x).length d (by8 (encP x)) * F) w' := by
  apply packet_Encode_call
  unfold packet_Encode
  refine new_ok h fun k1 w1 h1 => ldPk h1 hx.ip <| call_mono (packet_Check_ok h1 hx (Gives.right gx) hl) ?_
  rintro _ w2 ⟨rfl, h2⟩
  rw [if_pos hr]
  refine asI_ok <| br_false rfl <| call_mono (wire_NewWriter_ok h2) ?_
  rintro _ w3 ⟨g, rfl, h3⟩
  have h3 : Sat w₀ (Wr g (encN [] []) * (blk k1 (pkF x (.slice p l c)) T_api_Packet * F)) w3 := h3
  have cc : ∀ {w : World} {A : HP} {v : Value}, Sat w₀ (A * (blk k1 (pkF x (.slice p l c)) T_api_Packet * F)) w → ∀ i, (pkF x (.slice p l c))[i]? = some v → w.cell? ((⟨k1, 0, none⟩ : Addr).add i) = some v := fun h i e => cell_blk h.right e
  have tt : ∀ {w : World} {A : HP} {v : Value}, Sat w₀ (A * (blk k1 (pkF x (.slice p l c)) T_api_Packet * F)) w → ∀ j, (tlL x (.slice p l c))[j]? = some v → w.cell? ((⟨k1, 0, none⟩ : Addr).add (21 + j)) = some v := fun h j e => tlC h.right hx.ip j e
  have el := refs_len (gx _ _ h)
  have hk := hr.kd
  have hr2 := hr
  obtain ⟨r0, r1, r2, r3, _, _⟩ := hr2
  refine asP_ok <| ldI_ok (cc h3 0 rfl) <| ldI_ok (cc h3 1 rfl) <| ldI_ok (cc h3 2 rfl) ⟨fun i w m => ∃ j : Nat, i = j ∧ j ≤ 3 ∧ m = 3 - j ∧ Sat w₀ (Wr g (encN ((A0 x).take j) []) * (blk k1 (pkF x (.slice p l c)) T_api_Packet * F)) w, ⟨_, 0, rfl, by omega, rfl, h3⟩, ?_⟩
  rintro u _ w4 m ⟨j, rfl, hj, rfl, h4⟩
  refine br_dec (fun hlt => ⟨by omega, ?_⟩) (fun hge => ?_)
  · have step : ∀ n, (A0 x)[j]? = some (n, 1) → 
        call Try.prog fn_wire_Writer_Num #[.pointer (some ⟨g, 0, none⟩), .int .u64 n, .int .i64 1] w4 fun v17 w5 => asI .i64 v17 fun n18 => arith .i64 ((j : Int) + 1) fun n19 => ∃ m20, m20 < 3 - j ∧ ∃ i : Nat, n19 = i ∧ i ≤ 3 ∧ m20 = 3 - i ∧ Sat w₀ (Wr g (encN ((A0 x).take i) []) * (blk k1 (pkF x (.slice p l c)) T_api_Packet * F)) w5 := by
      intro n hn
      have e : (A0 x).take (j + 1) = (A0 x).take j ++ [(n, 1)] := by rw [List.take_add_one, hn]; rfl
      have hfs : Fs ((A0 x).take j ++ [(n, 1)]) 30 := by
        rw [← e]
        have h := fs0 hx hr
        exact ⟨by have := h.len; rw [List.length_take]; omega, fun f hm => h.fit f (List.mem_of_mem_take hm), fun f hm => h.rng f (List.mem_of_mem_take hm)⟩
      refine call_mono (wr_num h4 hfs (by omega)) ?_
      rintro _ w5 ⟨rfl, h5⟩
      refine asI_ok <| arith_i64 (by omega) (by omega) ⟨_, by omega, j + 1, by omega, by omega, rfl, ?_⟩
      rw [e]
      exact h5
    have : j = 0 ∨ j = 1 ∨ j = 2 := by omega
    rcases this with rfl | rfl | rfl
    · exact ⟨_, rfl, arith_u64 (by omega) (by omega) <| step _ rfl⟩
    · exact ⟨_, rfl, arith_u64 (by omega) (by omega) <| step _ rfl⟩
    · exact ⟨_, rfl, arith_u64 (by omega) (by omega) <| step _ rfl⟩
  have : j = 3 := by omega
  subst this
  refine ldI_ok (cc h4 3 rfl) <| call_mono (wr_num h4 (fs1 hx hr) (by omega)) ?_
  rintro _ w6 ⟨rfl, h6⟩
  have h6 : Sat w₀ (Wr g (encN (A1 x) []) * (blk k1 (pkF x (.slice p l c)) T_api_Packet * F)) w6 := h6
  refine asI_ok <| ldI_ok (cc h6 0 rfl) <| call_pure (packet_row_ok _) ⟨_, _, _, _, _, _, rfl, fun w => Sat w₀ (Wr g (encN (A2 x) []) * (blk k1 (pkF x (.slice p l c)) T_api_Packet * F)) w, ?_, ?_⟩
  · have h := fs2 hx hr
    unfold A2 at h ⊢
    refine br_split (fun hb => ?_) (fun hb => ?_)
    · rw [if_pos hb] at h ⊢
      refine ldI_ok (cc h6 4 rfl) <| call_mono (wr_num h6 h (by omega)) ?_
      rintro _ w7 ⟨rfl, h7⟩
      exact asI_ok h7
    · rw [if_neg (by rw [hb]; simp)]
      exact h6
  rintro u w9 h9
  refine ldIp h9.right hx.ip ⟨fun i w m => ∃ j : Nat, i = j ∧ j ≤ 16 ∧ m = 16 - j ∧ Sat w₀ (Wr g (encN (if ipidB x.kd then A2 x ++ (x.ip.take j).map (·, 1) else A2 x) []) * (blk k1 (pkF x (.slice p l c)) T_api_Packet * F)) w, ⟨_, 0, rfl, by omega, rfl, ?_⟩, ?_⟩
  · simp only [List.take_zero, List.map_nil, List.append_nil, ite_self]
    exact h9
  rintro u _ w10 m ⟨j, rfl, hj, rfl, h10⟩
  refine br_dec (fun hlt => ⟨by omega, ?_⟩) (fun hge => ?_)
  · have hj16 : j < x.ip.length := by rw [hx.ip]; omega
    have hb : x.ip[j]? = some x.ip[j] := by simp [hj16]
    have hbr := hx.by_ _ (List.getElem_mem hj16)
    refine ⟨x.ip[j], by rw [List.getElem?_toArray, show Int.toNat (j : Int) * 1 = j by omega]; exact by8_get hb, br_split (fun hi => ?_) (fun hi => ?_)⟩
    · rw [if_pos hi] at h10
      have e : A2 x ++ (x.ip.take (j + 1)).map (·, (1 : Int)) = (A2 x ++ (x.ip.take j).map (·, 1)) ++ [(x.ip[j], 1)] := by rw [List.take_add_one, hb, List.map_append, List.append_assoc]; rfl
      have hfs : Fs ((A2 x ++ (x.ip.take j).map (·, 1)) ++ [(x.ip[j], 1)]) 30 := by
        rw [← e]
        refine ((fs2 hx hr).bytes (bs := x.ip.take (j + 1)) (fun b hm => hx.by_ b (List.mem_of_mem_take hm))).mono ?_
        rw [List.length_take]
        omega
      refine arith_u64 (by omega) (by omega) <| call_mono (wr_num h10 hfs (by omega)) ?_
      rintro _ w11 ⟨rfl, h11⟩
      refine asI_ok <| arith_i64 (by omega) (by omega) ⟨_, by omega, j + 1, by omega, by omega, rfl, ?_⟩
      rw [if_pos hi, e]
      exact h11
    · have hi' : ¬ ipidB x.kd = true := by rw [hi]; simp
      rw [if_neg hi'] at h10
      refine arith_i64 (by omega) (by omega) ⟨_, by omega, j + 1, by omega, by omega, rfl, ?_⟩
      rw [if_neg hi']
      exact h10
  rw [List.take_of_length_le (by rw [hx.ip]; omega)] at h10
  have h10 : Sat w₀ (Wr g (encN (A3 x) []) * (blk k1 (pkF x (.slice p l c)) T_api_Packet * F)) w10 := h10
  refine ⟨fun w => Sat w₀ (Wr g (encN (A4 x) []) * (blk k1 (pkF x (.slice p l c)) T_api_Packet * F)) w, ?_, ?_⟩
  · have h := fs4 hx hr
    unfold A4 at h ⊢
    refine br_split (fun hb => ?_) (fun hb => ?_)
    · rw [if_pos hb] at h ⊢
      have := h.rng (x.md, 1) (by simp)
      have h2 : x.md < 256 := this.2
      refine ldI_ok (tt h10 0 rfl) <| arith_u64 this.1 (by omega) <| call_mono (wr_num h10 h (by omega)) ?_
      rintro _ w7 ⟨rfl, h7⟩
      exact asI_ok h7
    · rw [if_neg (by rw [hb]; simp)]
      exact h10
  rintro u w13 h13
  refine ⟨fun w => Sat w₀ (Wr g (encN (A5 x) []) * (blk k1 (pkF x (.slice p l c)) T_api_Packet * F)) w, ?_, ?_⟩
  · have h := fs5 hx hr
    unfold A5 at h ⊢
    refine br_split (fun hb => ?_) (fun hb => ?_)
    · rw [if_pos hb] at h ⊢
      have := h.rng (x.cd, 1) (by simp)
      have h2 : x.cd < 256 := this.2
      refine ldI_ok (tt h13 2 rfl) <| arith_u64 this.1 (by omega) <| call_mono (wr_num h13 h (by omega)) ?_
      rintro _ w7 ⟨rfl, h7⟩
      exact asI_ok h7
    · rw [if_neg (by rw [hb]; simp)]
      exact h13
  rintro u w15 h15
  refine ⟨fun w => Sat w₀ (Wr g (encN (A6 x) []) * (blk k1 (pkF x (.slice p l c)) T_api_Packet * F)) w, ?_, ?_⟩
  · have h := fs6 hx hr
    unfold A6 at h ⊢
    refine br_split (fun hb => ?_) (fun hb => ?_)
    · rw [if_pos hb] at h ⊢
      refine ldI_ok (tt h15 1 rfl) <| arith_un <| call_mono (wr_num h15 h (by omega)) ?_
      rintro _ w7 ⟨rfl, h7⟩
      exact asI_ok h7
    · rw [if_neg (by rw [hb]; simp)]
      exact h15
  rintro u w17 h17
  refine ⟨fun w => Sat w₀ (Wr g (encN (A7 x) []) * (blk k1 (pkF x (.slice p l c)) T_api_Packet * F)) w, ?_, ?_⟩
  · have h := fs7 hx hr
    unfold A7 at h ⊢
    refine br_split (fun hb => ?_) (fun hb => ?_)
    · rw [if_pos hb] at h ⊢
      rw [el] at h ⊢
      refine ldS_ok (tt h17 3 rfl) <| arith_u64 (by omega) (by omega) <| call_mono (wr_num h17 h (by omega)) ?_
      rintro _ w7 ⟨rfl, h7⟩
      exact asI_ok h7
    · rw [if_neg (by rw [hb]; simp)]
      exact h17
  rintro u w19 h19
  have hsm := ((fs7 hx hr).mono (m := 30) (by omega)).small
  refine call_mono (wire_Bytes_ok h19 (by omega)) ?_
  rintro _ w20 ⟨q, d, rfl, h20⟩
  have hone := rs_one hx hr
  refine asS_ok <| ldS_ok (tt (A := own T_uint8 1 q (encN (A7 x) []).length d (by8 (encN (A7 x) [])) * Wr g (encN (A7 x) [])) (h20.perm (by ac_rfl)) 3 rfl) ⟨fun p81 l81 c81 i w m => ∃ j : Nat, i = j ∧ j ≤ l ∧ m = l - j ∧ l81 = (encN (A7 x) []).length + 64 * j ∧ Sat w₀ (own T_uint8 1 p81 l81 c81 (by8 (encN (A7 x) [] ++ encR (x.rs.take j))) * (Wr g (encN (A7 x) []) * (blk k1 (pkF x (.slice p l c)) T_api_Packet * F))) w,
    ⟨_, 0, rfl, by omega, rfl, by omega, by simpa [encR] using h20⟩, ?_⟩
  rintro u p81 l81 c81 _ w21 m ⟨j, rfl, hj, rfl, rfl, h21⟩
  refine br_dec (fun hlt => ?_) (fun hge => ?_)
  · have hjl : j < x.rs.length := by omega
    have hjr : x.rs[j]? = some x.rs[j] := by simp [hjl]
    have g21 := gx _ _ h21.right.right.right
    refine idx_ok g21 (by omega) (by omega) fun a ha => ?_
    rw [Int.toNat_natCast]
    refine rd_refs g21 ha hjr <| new_ok h21 fun k86 w22 h22 => stA_ok h22 rfl (orF_size x.rs[j].2) orF_one fun w23 h23 => ldO h23 x.rs[j].2 <| call_mono (objref_Encode_ok h23 x.rs[j].2 (hone.2.2 _ (List.getElem_mem hjl))) ?_
    rintro _ w24 ⟨qe, de, rfl, h24⟩
    have h25 := h24.perm (B := own T_uint8 1 p81 ((encN (A7 x) []).length + 64 * j) c81 (by8 (encN (A7 x) [] ++ encR (x.rs.take j))) * (own T_uint8 1 qe 64 de (by8 (encL x.rs[j].1)) * (blk k86 (orF x.rs[j].1) T_api_Objref * (Wr g (encN (A7 x) []) * (blk k1 (pkF x (.slice p l c)) T_api_Packet * F))))) (by ac_rfl)
    have hj1 : j ≤ 1 := by omega
    refine ⟨_, _, _, _, rfl, app_ok bytesTy h25 h25.right.left.rd (by8_one _) (by simp only [maxLen]; omega) (by omega) fun p' c' w25 h26 => ?_⟩
    refine arith_i64 (by omega) (by omega) ⟨_, ?_, j + 1, by omega, by omega, rfl, by omega, ?_⟩
    · omega
    · have e : encN (A7 x) [] ++ encR (x.rs.take (j + 1)) = (encN (A7 x) [] ++ encR (x.rs.take j)) ++ encL x.rs[j].1 := by
        rw [List.take_add_one, hjr, encR, List.flatMap_append, List.append_assoc]
        show _ ++ (_ ++ (encL x.rs[j].1 ++ [])) = _
        rw [List.append_nil]
        rfl
      rw [e, by8_append]
      exact (h26.perm (B := (own T_uint8 1 qe 64 de (by8 (encL x.rs[j].1)) * blk k86 (orF x.rs[j].1) T_api_Objref) * (own T_uint8 1 p' ((encN (A7 x) []).length + 64 * j + 64) c' (by8 (encN (A7 x) [] ++ encR (x.rs.take j)) ++ by8 (encL x.rs[j].1)) * (Wr g (encN (A7 x) []) * (blk k1 (pkF x (.slice p l c)) T_api_Packet * F)))) (by ac_rfl)).right
  · have : j = l := by omega
    subst this
    rw [List.take_of_length_le (by omega)] at h21
    have e : (encN (A7 x) []).length + 64 * j = (encP x).length := by rw [encP, List.length_append, encR_len, el]
    rw [e] at h21 ⊢
    exact ⟨_, _, rfl, (h21.perm (B := Wr g (encN (A7 x) []) * (blk k1 (pkF x (.slice p j c)) T_api_Packet * (own T_uint8 1 p81 (encP x).length c81 (by8 (encP x)) * F))) (by show own _ _ _ _ _ (by8 (encP x)) * _ = _; ac_rfl)).right.right⟩
end
end Go.Proofs.Ytjjnbcdcppnllaa

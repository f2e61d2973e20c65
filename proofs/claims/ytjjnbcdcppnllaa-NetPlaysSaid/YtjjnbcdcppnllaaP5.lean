
/- Packets: the document's form. No conditions. -/
import Derived.Test.YtjjnbcdcppnllaaP4
set_option linter.unusedVariables false
set_option linter.unusedSimpArgs false
set_option maxRecDepth 100000
namespace Go.Proofs.Ytjjnbcdcppnllaa
open Go.Sp Go.RowKit

theorem encA0 {x : PK} (hr : RightP x) : encN (A0 x) [] = [x.kd, x.fr, x.to] := by
  have hk := hr.kd
  unfold RightP at hr
  have e : A0 x = [x.kd, x.fr, x.to].map (·, (1 : Int)) := rfl
  rw [e, encN_bytes (fun b hb => by simp at hb; omega)]
  rfl
theorem len8 {fs : List (Int × Int)} {n : Int} {L : Nat} (h : (encN fs []).length = L) : (encN (fs ++ [(n, 8)]) []).length = L + (gapI L 8).toNat + 8 := by
  rw [encN_snoc, List.length_append, h, form_length _ _ _ (by omega)]
  simp
  omega
section
variable {w₀ w : World} {F : HP}
theorem ra {p q : Option Addr} {d l m c2 : Nat} {bs ns : List Int} {K : Option Addr → Nat → Nat → World → Prop} (h : Sat w₀ (own T_uint8 1 q l d (by8 bs) * F) w) (hl : l = bs.length) (hx : Rd w 1 p m (by8 ns)) (hb : bs.length + m ≤ 100000)
    (hk : ∀ p' c' w', Sat w₀ (own T_uint8 1 p' (bs ++ ns).length c' (by8 (bs ++ ns)) * F) w' → K p' (bs ++ ns).length c' w') : runsS Try.prog (Builtin.append_ #[T_sl_uint8, T_sl_uint8] T_sl_uint8 #[.slice q l d, .slice p m c2]) w K := by
  subst hl
  have hm := hx.len8
  refine app_ok bytesTy h hx (by8_one _) (by simp only [maxLen]; omega) (by omega) fun p' c' w' h' => ?_
  rw [← by8_append] at h'
  have e : bs.length + m = (bs ++ ns).length := by rw [List.length_append, hm]
  rw [e] at h' ⊢
  exact hk _ _ _ h'
theorem rdIp {x : PK} {v : Value} {k : Nat} {t : TypeId} (h : Sat w₀ (blk k (pkF x v) t * F) w) (hx : x.ip.length = 16) : Rd w 1 (some ((⟨k, 0, none⟩ : Addr).add 5)) 16 (by8 x.ip) := by
  refine ⟨by simp [by8_length, hx], fun _ => ⟨_, rfl⟩, fun a e j u hj => ?_⟩
  cases e
  have hlt := (List.getElem?_eq_some_iff.1 hj).1
  rw [by8_length, hx] at hlt
  rw [add_mk, add_mk, Nat.zero_add]
  exact h.left.cell (i := 5 + j) (by rw [pk_ip hx hlt]; exact hj)
theorem slc5 {k : Nat} {K : Option Addr → Nat → Nat → Prop} (h : K (some ((⟨k, 0, none⟩ : Addr).add 5)) 16 16) : slc (some ((⟨k, 0, none⟩ : Addr).add 5)) 16 1 0 16 K := by
  refine slc_ok (by omega) (by omega) (by omega) ?_
  have e : (if 16 = Int.toNat 0 then (some ((⟨k, 0, none⟩ : Addr).add 5)) else (some ((⟨k, 0, none⟩ : Addr).add 5)).map (·.add (Int.toNat 0 * 1))) = some ((⟨k, 0, none⟩ : Addr).add 5) := by
    simp [add_mk]
  rw [e]
  exact h
end
end Go.Proofs.Ytjjnbcdcppnllaa

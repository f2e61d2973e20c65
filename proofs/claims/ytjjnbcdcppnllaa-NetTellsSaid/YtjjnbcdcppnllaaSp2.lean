/- A verified symbolic compile of the translated Go code: part 2: what each operation comes to. No conditions. -/
import Derived.Test.YtjjnbcdcppnllaaSp1
set_option linter.unusedVariables false
set_option linter.unusedSimpArgs false
set_option maxRecDepth 100000
namespace Go.Sp
open Go.RowKit

def binW (P : Program) (op : BinOp) (xt : TypeId) (vx vy : Value) (K : Value → Prop) (D : Prop) : Prop :=
  match op with
  | .add => match vx, vy with
    | .int k a, .int k' b => if k = k' then arith k (a + b) fun r => K (.int k r) else False
    | _, _ => D
  | .sub => match vx, vy with
    | .int k a, .int k' b => if k = k' then arith k (a - b) fun r => K (.int k r) else False
    | _, _ => D
  | .mul => match vx, vy with
    | .int k a, .int k' b => if k = k' then arith k (a * b) fun r => K (.int k r) else False
    | _, _ => D
  | .quo => match vx, vy with
    | .int k a, .int k' b => if k = k' then quo k a b fun r => K (.int k r) else False
    | _, _ => D
  | .rem => match vx, vy with
    | .int k a, .int k' b => if k = k' then rem a b fun r => K (.int k r) else False
    | _, _ => D
  | .shl => match vx, vy with
    | .int k a, .int _ b => shl k a b fun r => K (.int k r)
    | _, _ => D
  | .shr => match vx, vy with
    | .int k a, .int _ b => shr k a b fun r => K (.int k r)
    | _, _ => D
  | .and => match vx, vy with
    | .int k a, .int k' b => if k = k' then K (.int k (bitw .and k a b)) else False
    | _, _ => D
  | .or => match vx, vy with
    | .int k a, .int k' b => if k = k' then K (.int k (bitw .or k a b)) else False
    | _, _ => D
  | .xor => match vx, vy with
    | .int k a, .int k' b => if k = k' then K (.int k (bitw .xor k a b)) else False
    | _, _ => D
  | .andNot => match vx, vy with
    | .int k a, .int k' b => if k = k' then K (.int k (bitw .andNot k a b)) else False
    | _, _ => D
  | .eql => match vx, vy with
    | .pointer p, .pointer none => match P.underlying xt with | some (.pointer _) => K (.bool p.isNone) | _ => False
    | .slice p _ _, .slice none _ _ => match P.underlying xt with | some (.slice _) => K (.bool p.isNone) | _ => False
    | .map p, .map none => match P.underlying xt with | some (.map _ _) => K (.bool p.isNone) | _ => False
    | .func _ _ _, .nilFunc => match P.underlying xt with | some (.func _ _ _) => K (.bool false) | _ => False
    | .agg a, .agg b => match P.eqGuardType P.depth xt with | false => still P (Op.equal xt (.agg a) (.agg b)) fun e => K (.bool e) | true => False
    | _, _ => D
  | .neq => match vx, vy with
    | .pointer p, .pointer none => match P.underlying xt with | some (.pointer _) => K (.bool !p.isNone) | _ => False
    | .slice p _ _, .slice none _ _ => match P.underlying xt with | some (.slice _) => K (.bool !p.isNone) | _ => False
    | .map p, .map none => match P.underlying xt with | some (.map _ _) => K (.bool !p.isNone) | _ => False
    | .func _ _ _, .nilFunc => match P.underlying xt with | some (.func _ _ _) => K (.bool !false) | _ => False
    | .agg a, .agg b => match P.eqGuardType P.depth xt with | false => still P (Op.equal xt (.agg a) (.agg b)) fun e => K (.bool !e) | true => False
    | _, _ => D
  | _ => D

theorem run_nilptr {P : Program} {xt e : TypeId} (h : P.underlying xt = some (.pointer e)) (p : Option Addr) (w : World) :
    (Op.equal xt (.pointer p) (.pointer none)).run P w = .ok p.isNone w := by
  generalize hd : 9999 = d
  have e : Op.equal xt = Op.equalIn (d + 1) xt := by subst hd; rfl
  rw [e]
  cases p <;> (simp only [Op.equalIn, Sem.run_bind, run_underlying h, Result.andThen_ok]; rfl)
theorem run_nilslice {P : Program} {xt e : TypeId} (h : P.underlying xt = some (.slice e)) (p : Option Addr) (a b c d : Nat) (w : World) :
    (Op.equal xt (.slice p a b) (.slice none c d)).run P w = .ok p.isNone w := by
  generalize hd : 9999 = d
  have e : Op.equal xt = Op.equalIn (d + 1) xt := by subst hd; rfl
  rw [e]
  cases p <;> (simp only [Op.equalIn, Sem.run_bind, run_underlying h, Result.andThen_ok]; rfl)
theorem run_nilmap {P : Program} {xt k e : TypeId} (h : P.underlying xt = some (.map k e)) (p : Option Nat) (w : World) :
    (Op.equal xt (.map p) (.map none)).run P w = .ok p.isNone w := by
  generalize hd : 9999 = d
  have e : Op.equal xt = Op.equalIn (d + 1) xt := by subst hd; rfl
  rw [e]
  cases p <;> (simp only [Op.equalIn, Sem.run_bind, run_underlying h, Result.andThen_ok]; rfl)

theorem run_nilfunc {P : Program} {xt : TypeId} {ps rs : Array TypeId} {v : Bool} (h : P.underlying xt = some (.func ps rs v)) (f : Fn) (a b : Array Value) (w : World) :
    (Op.equal xt (.func f a b) .nilFunc).run P w = .ok false w := by
  generalize hd : 9999 = d
  have e : Op.equal xt = Op.equalIn (d + 1) xt := by subst hd; rfl
  rw [e]
  simp only [Op.equalIn, Sem.run_bind, run_underlying h, Result.andThen_ok]; rfl

/-- A struct's fields' places; they lie side by side. -/
def placesOf (P : Program) : List Field → Nat → Option (List (Nat × Nat))
  | [], _ => some []
  | f :: fs, o => match P.info? f.type with
    | some g => if f.offset = o then (placesOf P fs (o + g.size)).map ((o, g.size) :: ·) else none
    | none => none

/-- An array's places. -/
def rowPlaces (n s : Nat) : List (Nat × Nat) := (List.range n).map fun i => (i * s, s)
/-- What an operation on temporaries alone gives. -/
def opPure (P : Program) (o : Oper) (ρ : Operand → Value) (K : Value → Prop) : Prop :=
  match o.op with
  | .move x => K (ρ x)
  | .assign x => K (ρ x)
  | .pick c a b => match ρ c with | .bool t => br t (K (ρ a)) (K (ρ b)) | _ => False
  | .nilCheck x => match ρ x with
    | .pointer p => nn p fun a => K (.pointer (some a))
    | .func f a b => okFn f (K (.func f a b))
    | _ => False
  | .binOp op xt x y _ => binW P op xt (ρ x) (ρ y) K (Sem.pw P (execOp ρ o) (valOf K))
  | .convert src dst x => match ρ x, P.underlying src, P.underlying dst with
    | .int _ n, some _, some (.int k) => arith k n fun r => K (.int k r)
    | _, _, _ => Sem.pw P (execOp ρ o) (valOf K)
  | .indexAddr t x i => match P.underlying t, ρ x, ρ i with
    | some (.slice e), .slice p l _, .int _ i => match P.info? e with | some f => idx p l i f.size fun a => K (.pointer (some a)) | none => False
    | some (.array n e), .pointer (some a), .int _ i => match P.info? e with | some f => idxA a n i f.size fun a => K (.pointer (some a)) | none => False
    | _, _, _ => False
  | .index t x i => match P.underlying t, ρ x, ρ i with
    | some .string, .string s, .int _ i => strAt s i fun b => K (.int .u8 b)
    | some (.array n e), .agg vs, .int _ i => match P.info? e with
      | some f => match shapeOf P e with
        | .int k => (0 ≤ i ∧ i < (n : Int)) ∧ fldI k vs (i.toNat * f.size) fun n => K (.int k n)
        | .agg => (0 ≤ i ∧ i < (n : Int)) ∧ K (.agg (vs.extract (i.toNat * f.size) (i.toNat * f.size + f.size)))
        | _ => False
      | none => False
    | _, _, _ => False
  | .slice t x lo hi none => match P.underlying t, ρ x with
    | some (.slice e), .slice p l c =>
      match (match lo with | some x => ρ x | none => .int .i64 0), (match hi with | some x => ρ x | none => .int .i64 (l : Int)) with
      | .int _ a, .int _ b => match P.info? e with | some f => slc p c f.size a b fun p l c => K (.slice p l c) | none => False
      | _, _ => False
    | some (.array n e), .pointer (some a) =>
      match (match lo with | some x => ρ x | none => .int .i64 0), (match hi with | some x => ρ x | none => .int .i64 (n : Int)) with
      | .int _ b, .int _ d => match P.info? e with | some f => slc (some a) n f.size b d fun p l c => K (.slice p l c) | none => False
      | _, _ => False
    | _, _ => still P (execOp ρ o) (valOf K)
  | .slice t x lo (some hi) (some mx) => match P.underlying t, ρ x with
    | some (.slice e), .slice p l c =>
      match (match lo with | some x => ρ x | none => .int .i64 0), ρ hi, ρ mx with
      | .int _ a, .int _ b, .int _ d => match P.info? e with | some f => slc3 p c f.size a b d fun p l c => K (.slice p l c) | none => False
      | _, _, _ => False
    | _, _ => False
  | .field t x i => match P.underlying t, ρ x with
    | some (.struct fs), .agg vs => match fs[i]? with
      | some f => match shapeOf P f.type with
        | .int k => fldI k vs f.offset fun n => K (.int k n)
        | .bool => fldB vs f.offset fun b => K (.bool b)
        | .ptr => fldP vs f.offset fun p => K (.pointer p)
        | .slice => fldS vs f.offset fun p l c => K (.slice p l c)
        | .str => fldT vs f.offset fun s => K (.string s)
        | .agg => match P.info? f.type with | some g => K (.agg (vs.extract f.offset (f.offset + g.size))) | none => False
        | .map => fldV vs f.offset K
        | .any => match P.underlying f.type with | some _ => fldV vs f.offset K | none => False
        | .adr => False
        | .func => False
      | none => False
    | _, _ => False
  | .build t parts => match P.underlying t with
    | some (.struct fs) => match placesOf P fs.toList 0, (P.info? t).bind (·.zero) with
      | some ps, some (.agg z) => if (ps.map (·.2)).sum = z.size then buildW ps (fun vs => K (.agg vs)) (parts.toList.map fun (i, x) => (i, ρ x)) (ps.map fun (o, n) => z.extract o (o + n)) else False
      | _, _ => False
    | some (.array n e) => match P.info? e, (P.info? t).bind (·.zero) with
      | some g, some (.agg z) => if n * g.size = z.size then buildW (rowPlaces n g.size) (fun vs => K (.agg vs)) (parts.toList.map fun (i, x) => (i, ρ x)) ((rowPlaces n g.size).map fun (o, m) => z.extract o (o + m)) else False
      | _, _ => False
    | _ => Sem.pw P (execOp ρ o) (valOf K)
  | _ => Sem.pw P (execOp ρ o) (valOf K)

theorem still_sound {P : Program} {s : Sem Next} {K : Value → Prop} (h : still P s (valOf K)) : ∃ v, K v ∧ ∀ w, s.run P w = .ok (.value v) w := by
  obtain ⟨n, hr, hk⟩ := h
  cases n <;> simp only [valOf] at hk
  exact ⟨_, hk, hr⟩
theorem pwv_sound {P : Program} {s : Sem Next} {K : Value → Prop} (h : Sem.pw P s (valOf K)) : ∃ v, K v ∧ ∀ w, s.run P w = .ok (.value v) w := by
  obtain ⟨n, hk, hr⟩ := pw_sound h
  cases n <;> simp only [valOf] at hk
  exact ⟨_, hk, hr⟩

theorem br_sound {b : Bool} {X Y : Prop} (h : br b X Y) : (b = true ∧ X) ∨ (b = false ∧ Y) := by
  cases b
  · exact .inr ⟨rfl, h⟩
  · exact .inl ⟨rfl, h⟩

theorem binW_sound {P : Program} {op : BinOp} {xt : TypeId} {x y : Operand} {vx vy : Value} {K : Value → Prop} {D : Prop}
    (hD : D → ∃ v, K v ∧ ∀ w, (do eqGuard op xt x y vx vy; binOp op xt vx vy : Sem Value).run P w = .ok v w)
    (h : binW P op xt vx vy K D) : ∃ v, K v ∧ ∀ w, (do eqGuard op xt x y vx vy; binOp op xt vx vy : Sem Value).run P w = .ok v w := by
  unfold binW at h
  split at h <;> try exact hD h
  all_goals (split at h <;> try exact hD h)
  all_goals first
    | (split at h
       · rename_i hk
         subst hk
         first
           | (refine ⟨_, h, fun w => ?_⟩; first | (simp [eqGuard, binOp, Op.intArith]; done) | (simp [eqGuard, binOp, Op.intBits, bitw]; done))
           | (refine ⟨_, h.2, fun w => ?_⟩; simp [eqGuard, binOp, Op.intDiv, h.1]; done)
       · exact h.elim)
    | (split at h
       · rename_i hu
         refine ⟨_, h, fun w => ?_⟩
         first
           | (simp [eqGuard, binOp, run_nilptr hu]; done)
           | (simp [eqGuard, binOp, run_nilslice hu]; done)
           | (simp [eqGuard, binOp, run_nilmap hu]; done)
           | (simp [eqGuard, binOp, run_nilfunc hu]; done)
       · exact h.elim)
    | (split at h
       · rename_i hu
         obtain ⟨b, hr, hk⟩ := h
         refine ⟨_, hk, fun w => ?_⟩
         simp [eqGuard, binOp, hu, program, Sem.run, hr]
       · exact h.elim)
    | (refine ⟨_, h.2, fun w => ?_⟩; simp [eqGuard, binOp, Op.shift, h.1]; done)

/-! ### soundness of 'opPure' -/
theorem run_sizeOf' {P : Program} {e : TypeId} {f : TypeInfo} (h : P.info? e = some f) (w : World) : (sizeOf e).run P w = .ok f.size w := by
  simp [sizeOf, typeInfo, h]

theorem shapeOf_notagg {P : Program} {t : TypeId} {d : TypeDesc} (h : P.underlying t = some d) (hs : shapeOf P t ≠ .agg) (w : World) : (isAgg t).run P w = .ok false w := by
  have hb : (match d with | .struct _ | .array _ _ => true | _ => false) = false := by
    unfold shapeOf at hs
    rw [h] at hs
    cases d <;> simp_all
  simp only [isAgg, Sem.run_bind, run_underlying h, Result.andThen_ok]
  cases d <;> simp_all
theorem shapeOf_agg {P : Program} {t : TypeId} (hs : shapeOf P t = .agg) (w : World) : (isAgg t).run P w = .ok true w := by
  unfold shapeOf at hs
  split at hs <;> try cases hs
  · rename_i h; simp [isAgg, run_underlying h]
  · rename_i h; simp [isAgg, run_underlying h]
theorem shapeOf_under {P : Program} {t : TypeId} (hs : shapeOf P t ≠ .any) : ∃ d, P.underlying t = some d := by
  cases h : P.underlying t with
  | none => simp [shapeOf, h] at hs
  | some d => exact ⟨d, rfl⟩
theorem run_part {P : Program} {t : TypeId} {d : TypeDesc} (h : P.underlying t = some d) (hs : shapeOf P t ≠ .agg) {cs : Array Value} {o : Nat} {v : Value} (hv : cs[o]? = some v) (w : World) :
    (part t cs o).run P w = .ok v w := by
  simp [part, shapeOf_notagg h hs, hv]

theorem run_field {P : Program} {ρ : Operand → Value} {o : Oper} {t : TypeId} {x : Operand} {i : Nat} {fs : Array Field} {vs : Array Value} {f : Field} {v : Value} (ho : o.op = .field t x i)
    (hu : P.underlying t = some (.struct fs)) (hx : ρ x = .agg vs) (hf : fs[i]? = some f) (hp : ∀ w, (part f.type vs f.offset).run P w = .ok v w) (w : World) :
    (execOp ρ o).run P w = .ok (.value v) w := by
  simp [execOp, ho, Instr.field, run_underlying hu, hf, hx, asAgg, hp]

theorem opPure_field {P : Program} {o : Oper} {ρ : Operand → Value} {K : Value → Prop} {t : TypeId} {x : Operand} {i : Nat} (ho : o.op = .field t x i) (h : opPure P o ρ K) :
    ∃ v, K v ∧ ∀ w, (execOp ρ o).run P w = .ok (.value v) w := by
  unfold opPure at h
  simp only [ho] at h
  split at h <;> try exact h.elim
  rename_i fs vs hu hx
  split at h <;> try exact h.elim
  rename_i f hf
  split at h
  · rename_i k hs
    obtain ⟨d, hd⟩ := shapeOf_under (P := P) (t := f.type) (by rw [hs]; simp)
    obtain ⟨n, hn, hk⟩ := h
    exact ⟨_, hk, run_field ho hu hx hf (run_part hd (by rw [hs]; simp) hn)⟩
  · rename_i hs
    obtain ⟨d, hd⟩ := shapeOf_under (P := P) (t := f.type) (by rw [hs]; simp)
    obtain ⟨n, hn, hk⟩ := h
    exact ⟨_, hk, run_field ho hu hx hf (run_part hd (by rw [hs]; simp) hn)⟩
  · rename_i hs
    obtain ⟨d, hd⟩ := shapeOf_under (P := P) (t := f.type) (by rw [hs]; simp)
    obtain ⟨n, hn, hk⟩ := h
    exact ⟨_, hk, run_field ho hu hx hf (run_part hd (by rw [hs]; simp) hn)⟩
  · rename_i hs
    obtain ⟨d, hd⟩ := shapeOf_under (P := P) (t := f.type) (by rw [hs]; simp)
    obtain ⟨p, l, c, hn, hk⟩ := h
    exact ⟨_, hk, run_field ho hu hx hf (run_part hd (by rw [hs]; simp) hn)⟩
  · rename_i hs
    obtain ⟨d, hd⟩ := shapeOf_under (P := P) (t := f.type) (by rw [hs]; simp)
    obtain ⟨n, hn, hk⟩ := h
    exact ⟨_, hk, run_field ho hu hx hf (run_part hd (by rw [hs]; simp) hn)⟩
  · rename_i hs
    split at h <;> try exact h.elim
    rename_i g hg
    exact ⟨_, h, run_field ho hu hx hf fun w => by simp [part, shapeOf_agg hs, run_sizeOf' hg]⟩
  · rename_i hs
    obtain ⟨d, hd⟩ := shapeOf_under (P := P) (t := f.type) (by rw [hs]; simp)
    obtain ⟨n, hn, hk⟩ := h
    exact ⟨_, hk, run_field ho hu hx hf (run_part hd (by rw [hs]; simp) hn)⟩
  · rename_i hs
    split at h <;> try exact h.elim
    rename_i d hd
    obtain ⟨n, hn, hk⟩ := h
    exact ⟨_, hk, run_field ho hu hx hf (run_part hd (by rw [hs]; simp) hn)⟩
  · exact h.elim
  · exact h.elim

theorem opPure_indexAddr {P : Program} {o : Oper} {ρ : Operand → Value} {K : Value → Prop} {t : TypeId} {x i : Operand} (ho : o.op = .indexAddr t x i) (h : opPure P o ρ K) :
    ∃ v, K v ∧ ∀ w, (execOp ρ o).run P w = .ok (.value v) w := by
  unfold opPure at h
  simp only [ho] at h
  split at h <;> try exact h.elim
  · rename_i e p l c k n hu hx hi
    split at h <;> try exact h.elim
    rename_i f hf
    unfold idx at h
    split at h <;> try exact h.elim
    rename_i a
    exact ⟨_, h.2, fun w => by simp [execOp, ho, Instr.indexAt, hx, hi, asIntOf, run_underlying hu, h.1, run_sizeOf' hf]⟩
  · rename_i m e a k n hu hx hi
    split at h <;> try exact h.elim
    rename_i f hf
    exact ⟨_, h.2, fun w => by simp [execOp, ho, Instr.indexAt, Instr.sureAddr, hx, hi, asIntOf, run_underlying hu, h.1.1, h.1.2, run_sizeOf' hf]⟩

theorem run_sliceBound {P : Program} {k : IntKind} {i : Int} {y : Nat} {code : BoundsCode} (h0 : 0 ≤ i) (h1 : i ≤ y) (w : World) :
    (Instr.sliceBound (.int k i) y code).run P w = .ok i.toNat w := by
  simp [Instr.sliceBound, asIntOf, h0, h1]
theorem run_sliceBounds {P : Program} {b : Bool} {l c : Nat} {lo hi : Option Value} {ka kb : IntKind} {x y : Int}
    (hlo : (match lo with | some v => v | none => .int .i64 0) = .int ka x) (hhi : (match hi with | some v => v | none => .int .i64 (l : Int)) = .int kb y)
    (h0 : 0 ≤ x) (h1 : x ≤ y) (h2 : y ≤ (c : Int)) (w : World) : (Instr.sliceBounds b l c lo hi none).run P w = .ok (x.toNat, y.toNat, c) w := by
  have e : (y.toNat : Int) = y := by omega
  cases lo with
  | none =>
    injection hlo with _ hx
    subst hx
    cases hi with
    | none =>
      injection hhi with _ hy
      subst hy
      simp [Instr.sliceBounds]
    | some v =>
      simp only at hhi
      subst hhi
      cases b <;> simp [Instr.sliceBounds, run_sliceBound h1 h2]
  | some u =>
    simp only at hlo
    subst hlo
    cases hi with
    | none =>
      injection hhi with _ hy
      subst hy
      simp [Instr.sliceBounds, run_sliceBound h0 (y := l) (by omega)]
    | some v =>
      simp only at hhi
      subst hhi
      cases b <;> simp [Instr.sliceBounds, run_sliceBound (show (0 : Int) ≤ y by omega) h2, run_sliceBound h0 (y := y.toNat) (by omega)]

theorem opPure_slice {P : Program} {o : Oper} {ρ : Operand → Value} {K : Value → Prop} {t : TypeId} {x : Operand} {lo hi : Option Operand} (ho : o.op = .slice t x lo hi none) (h : opPure P o ρ K) :
    ∃ v, K v ∧ ∀ w, (execOp ρ o).run P w = .ok (.value v) w := by
  unfold opPure at h
  simp only [ho] at h
  split at h
  · rename_i e p l c hu hx
    split at h <;> try exact h.elim
    rename_i ka a kb b hlo hhi
    split at h <;> try exact h.elim
    rename_i f hf
    obtain ⟨⟨h0, h1, h2⟩, h⟩ := h
    refine ⟨_, h, fun w => ?_⟩
    have hb := run_sliceBounds (P := P) (b := true) (l := l) (c := c) (lo := lo.map ρ) (hi := hi.map ρ) (by cases lo <;> exact hlo) (by cases hi <;> exact hhi) h0 h1 h2
    simp [execOp, ho, Instr.sliceAt, Instr.slice, hx, run_underlying hu, run_sizeOf' hf, hb]
  · rename_i m e a hu hx
    split at h <;> try exact h.elim
    rename_i ka x' kb y' hlo hhi
    split at h <;> try exact h.elim
    rename_i f hf
    obtain ⟨⟨h0, h1, h2⟩, h⟩ := h
    refine ⟨_, h, fun w => ?_⟩
    have hb := run_sliceBounds (P := P) (b := false) (l := m) (c := m) (lo := lo.map ρ) (hi := hi.map ρ) (by cases lo <;> exact hlo) (by cases hi <;> exact hhi) h0 h1 h2
    by_cases hm : m = x'.toNat
    · simp [execOp, ho, Instr.sliceAt, Instr.sureAddr, hx, run_underlying hu, run_sizeOf' hf, hb, ← hm]
    · simp [execOp, ho, Instr.sliceAt, Instr.sureAddr, hx, run_underlying hu, run_sizeOf' hf, hb, hm]
  · exact still_sound h

theorem opPure_slice3 {P : Program} {o : Oper} {ρ : Operand → Value} {K : Value → Prop} {t : TypeId} {x hi mx : Operand} {lo : Option Operand} (ho : o.op = .slice t x lo (some hi) (some mx)) (h : opPure P o ρ K) :
    ∃ v, K v ∧ ∀ w, (execOp ρ o).run P w = .ok (.value v) w := by
  unfold opPure at h
  simp only [ho] at h
  split at h <;> try exact h.elim
  rename_i e p l c hu hx
  split at h <;> try exact h.elim
  rename_i ka a kb b kd d hlo hhi hmx
  split at h <;> try exact h.elim
  rename_i f hf
  obtain ⟨⟨h0, h1, h2, h3⟩, h⟩ := h
  refine ⟨_, h, fun w => ?_⟩
  have hb : (Instr.sliceBounds true l c (lo.map ρ) (some (ρ hi)) (some (ρ mx))).run P w = .ok (a.toNat, b.toNat, d.toNat) w := by
    cases lo with
    | none =>
      injection hlo with _ ha
      subst ha
      simp [Instr.sliceBounds, hhi, hmx, run_sliceBound (show (0 : Int) ≤ d by omega) h3, run_sliceBound (show (0 : Int) ≤ b by omega) (y := d.toNat) (by omega)]
    | some u =>
      simp only at hlo
      simp [Instr.sliceBounds, hlo, hhi, hmx, run_sliceBound (show (0 : Int) ≤ d by omega) h3, run_sliceBound (show (0 : Int) ≤ b by omega) (y := d.toNat) (by omega), run_sliceBound h0 (y := b.toNat) (by omega)]
  simp [execOp, ho, Instr.sliceAt, Instr.slice, hx, run_underlying hu, run_sizeOf' hf, hb]

theorem opPure_index {P : Program} {o : Oper} {ρ : Operand → Value} {K : Value → Prop} {t : TypeId} {x i : Operand} (ho : o.op = .index t x i) (h : opPure P o ρ K) :
    ∃ v, K v ∧ ∀ w, (execOp ρ o).run P w = .ok (.value v) w := by
  unfold opPure at h
  simp only [ho] at h
  split at h
  · rename_i s k n hu hx hi
    obtain ⟨h0, b, hb, hk⟩ := h
    exact ⟨_, hk, fun w => by simp [execOp, ho, Instr.index, hx, hi, asIntOf, run_underlying hu, h0, hb]⟩
  · rename_i m e vs k n hu hx hi
    split at h <;> try exact h.elim
    rename_i f hf
    split at h <;> try exact h.elim
    · rename_i kk hs
      obtain ⟨⟨h0, h1⟩, b, hb, hk⟩ := h
      obtain ⟨d, hd⟩ := shapeOf_under (P := P) (t := e) (by rw [hs]; simp)
      have hp := run_part hd (by rw [hs]; simp) hb
      exact ⟨_, hk, fun w => by simp [execOp, ho, Instr.index, hx, hi, asIntOf, run_underlying hu, h0, h1, run_sizeOf' hf, hp]⟩
    · rename_i hs
      obtain ⟨⟨h0, h1⟩, hk⟩ := h
      exact ⟨_, hk, fun w => by simp [execOp, ho, Instr.index, hx, hi, asIntOf, run_underlying hu, h0, h1, run_sizeOf' hf, part, shapeOf_agg hs]⟩
  · exact h.elim

theorem setMany (off : Nat) : ∀ (l : List Value) (k : Nat) (acc : Array Value), off + k + l.length ≤ acc.size →
    (l.zipIdx k).foldl (fun cs (c, j) => cs.setIfInBounds (off + j) c) acc = (acc.toList.take (off + k) ++ l ++ acc.toList.drop (off + k + l.length)).toArray := by
  intro l
  induction l with
  | nil => intro k acc _; simp
  | cons x l ih =>
    intro k acc hk
    simp only [List.length_cons] at hk
    simp only [List.zipIdx_cons, List.foldl_cons]
    rw [ih (k + 1) _ (by simp; omega)]
    apply Array.ext'
    simp only [Array.toList_setIfInBounds, List.append_assoc]
    apply List.ext_getElem?
    intro i
    simp only [List.getElem?_append, List.getElem?_take, List.getElem?_drop, List.length_take, List.length_set, Array.length_toList, List.getElem?_set, List.length_cons, List.getElem?_cons, List.length_drop]
    have h1 : min (off + (k + 1)) acc.size = off + (k + 1) := by omega
    have h2 : min (off + k) acc.size = off + k := by omega
    simp only [h1, h2]
    rcases Nat.lt_trichotomy i (off + k) with h | h | h
    · simp [h, show i < off + (k + 1) by omega, show off + k ≠ i by omega]
    · subst h
      simp [show off + k < acc.size by omega]
    · have e1 : ¬ i < off + (k + 1) := by omega
      have e2 : ¬ i < off + k := by omega
      simp only [e1, e2, if_false]
      by_cases h3 : i - (off + (k + 1)) < l.length
      · simp [h3, show i - (off + k) < l.length + 1 by omega, show i - (off + k) - 1 = i - (off + (k + 1)) by omega, show i - (off + k) ≠ 0 by omega]
      · have e3 : ¬ i - (off + k) < l.length + 1 := by omega
        simp only [h3, e3, if_false]
        have e4 : off + (k + 1) + l.length + (i - (off + (k + 1)) - l.length) = off + k + (l.length + 1) + (i - (off + k) - (l.length + 1)) := by omega
        rw [e4, if_neg (by omega)]

theorem flat_set : ∀ (segs : List (List Value)) (i : Nat) (s v : List Value), segs[i]? = some s →
    segs.flatten.take ((segs.take i).map List.length).sum ++ v ++ segs.flatten.drop (((segs.take i).map List.length).sum + s.length) = (segs.set i v).flatten
  | [], i, s, v, h => by simp at h
  | x :: segs, 0, s, v, h => by
    simp only [List.getElem?_cons_zero, Option.some.injEq] at h
    subst h
    simp
  | x :: segs, i + 1, s, v, h => by
    simp only [List.getElem?_cons_succ] at h
    have ih := flat_set segs i s v h
    simp only [List.take_succ_cons, List.map_cons, List.sum_cons, List.flatten_cons, List.set_cons_succ]
    rw [← ih, List.take_append, List.drop_append]
    have e1 : x.length + ((segs.take i).map List.length).sum - x.length = ((segs.take i).map List.length).sum := by omega
    have e2 : x.length + ((segs.take i).map List.length).sum + s.length - x.length = ((segs.take i).map List.length).sum + s.length := by omega
    rw [e1, e2, List.take_of_length_le (by omega), List.drop_eq_nil_of_le (as := x) (by omega)]
    simp

theorem glue_toList (segs : List (Array Value)) : (segs.foldl (· ++ ·) #[]).toList = (segs.map Array.toList).flatten := by
  have : ∀ (segs : List (Array Value)) (acc : Array Value), (segs.foldl (· ++ ·) acc).toList = acc.toList ++ (segs.map Array.toList).flatten := by
    intro segs
    induction segs with
    | nil => simp
    | cons s segs ih => intro acc; simp [ih]
  simpa using this segs #[]

/-- The segments are as long as their places say, and the places lie side by side. -/
def Tiled (places : List (Nat × Nat)) (segs : List (Array Value)) : Prop :=
  segs.map Array.size = places.map (·.2) ∧ ∀ i o n, places[i]? = some (o, n) → o = ((places.take i).map (·.2)).sum

theorem placesOf_tiled {P : Program} : ∀ (fs : List Field) (o : Nat) (ps : List (Nat × Nat)), placesOf P fs o = some ps →
    (∀ (i q n : Nat), ps[i]? = some (q, n) → q = o + ((ps.take i).map (·.2)).sum) ∧ ∀ (i : Nat) (f : Field), fs[i]? = some f → ∃ g : TypeInfo, P.info? f.type = some g ∧ ps[i]? = some (f.offset, g.size)
  | [], o, ps, h => by simp [placesOf] at h; subst h; simp
  | f :: fs, o, ps, h => by
    unfold placesOf at h
    split at h <;> try cases h
    rename_i g hg
    split at h <;> try cases h
    rename_i ho
    cases hp : placesOf P fs (o + g.size) with
    | none => rw [hp] at h; cases h
    | some qs =>
      rw [hp] at h
      simp only [Option.map_some, Option.some.injEq] at h
      subst h
      obtain ⟨h1, h2⟩ := placesOf_tiled fs _ qs hp
      constructor
      · intro i q n hi
        cases i with
        | zero => simp at hi; simp [hi.1.symm]
        | succ i =>
          simp only [List.getElem?_cons_succ] at hi
          have := h1 i q n hi
          simp only [List.take_succ_cons, List.map_cons, List.sum_cons]
          omega
      · intro i f' hi
        cases i with
        | zero => simp at hi; subst hi; exact ⟨g, hg, by simp [ho]⟩
        | succ i => simpa using h2 i f' (by simpa using hi)

theorem buildW_sound {places : List (Nat × Nat)} {K : Array Value → Prop} {place : Nat → Option (Nat × Nat)} (hpl : ∀ i p, places[i]? = some p → place i = some p) : ∀ (parts : List (Nat × Value)) (segs : List (Array Value)),
    Tiled places segs → buildW places K parts segs → ∃ vs, K vs ∧ Instr.fill place (segs.foldl (· ++ ·) #[]) parts = some vs := by
  intro parts
  induction parts with
  | nil => intro segs _ h; exact ⟨_, h, rfl⟩
  | cons p parts ih =>
    obtain ⟨i, v⟩ := p
    intro segs ht h
    unfold buildW at h
    split at h <;> try exact h.elim
    rename_i o n hp
    have hseg : ∃ s, segs[i]? = some s ∧ s.size = n := by
      have h1 := congrArg (fun l => l[i]?) ht.1
      simp only [List.getElem?_map, hp, Option.map_some] at h1
      cases hs : segs[i]? with
      | none => rw [hs] at h1; cases h1
      | some s => rw [hs] at h1; simp at h1; exact ⟨s, rfl, h1⟩
    obtain ⟨s, hs, hsn⟩ := hseg
    have hsum : ∀ i, ((segs.take i).map Array.size).sum = ((places.take i).map (·.2)).sum := by
      intro i
      rw [List.map_take, List.map_take, ht.1]
    have ho := ht.2 i o n hp
    have step : ∀ (vs : Array Value), vs.size = n → vs.toList = v.cells.toList → Instr.fill place (segs.foldl (· ++ ·) #[]) ((i, v) :: parts) = Instr.fill place ((segs.set i vs).foldl (· ++ ·) #[]) parts := by
      intro vs hvs hvc
      have hcs : v.cells = vs := (Array.ext' hvc).symm
      have hlen : o + n ≤ (segs.foldl (· ++ ·) #[]).size := by
        rw [← Array.length_toList, glue_toList, List.length_flatten, List.map_map]
        rw [ho, ← hsum i]
        have e : (List.map (List.length ∘ Array.toList) segs) = segs.map Array.size := by
          apply List.map_congr_left; intro x _; simp
        rw [e]
        have hi : i < segs.length := (List.getElem?_eq_some_iff.1 hs).1
        conv => rhs; rw [← List.take_append_drop i segs]
        rw [List.map_append, List.sum_append]
        have hd : segs.drop i = s :: segs.drop (i + 1) := by
          rw [List.drop_eq_getElem_cons hi, (List.getElem?_eq_some_iff.1 hs).2]
        rw [hd, List.map_cons, List.sum_cons, hsn]
        omega
      simp only [Instr.fill, hpl _ _ hp]
      split
      · rename_i hc
        simp only [Bool.or_eq_true, decide_eq_true_eq] at hc
        rcases hc with hc | hc
        · exact absurd (by rw [hcs, hvs]) hc
        · rw [hcs, hvs] at hc; omega
      congr 1
      apply Array.ext'
      have hz : v.cells.zipIdx.foldl (fun cs (c, j) => cs.setIfInBounds (o + j) c) (segs.foldl (· ++ ·) #[]) = (vs.toList.zipIdx 0).foldl (fun cs (c, j) => cs.setIfInBounds (o + j) c) (segs.foldl (· ++ ·) #[]) := by
        rw [hcs, ← Array.foldl_toList]
        simp
      refine (congrArg Array.toList hz).trans ?_
      rw [setMany o vs.toList 0 _ (by simp [hvs]; omega)]
      simp only [Nat.add_zero, Array.length_toList, hvs]
      rw [glue_toList, glue_toList, List.map_set]
      have := flat_set (segs.map Array.toList) i s.toList vs.toList (by simp [hs])
      rw [← this]
      have e2 : ((List.take i (List.map Array.toList segs)).map List.length).sum = o := by
        rw [← List.map_take, List.map_map, ho, ← hsum i]
        congr 1
      rw [e2, Array.length_toList, hsn]
    have ht2 : ∀ (vs : Array Value), vs.size = n → Tiled places (segs.set i vs) := by
      intro vs hvs
      refine ⟨?_, ht.2⟩
      rw [List.map_set, ht.1, hvs]
      apply List.ext_getElem?
      intro j
      rw [List.getElem?_set]
      split
      · rename_i e
        subst e
        obtain ⟨hi, hpi⟩ := List.getElem?_eq_some_iff.1 hp
        simp [hi, hpi]
      · rfl
    split at h
    · rename_i vs
      obtain ⟨hvs, h⟩ := h
      rw [step vs hvs rfl]
      exact ih _ (ht2 vs hvs) h
    · exact h.elim
    · rename_i hna hnt
      split at h <;> try exact h.elim
      rename_i h1
      subst h1
      have hc : v.cells = #[v] := by cases v <;> simp_all [Value.cells]
      rw [step #[v] (by simp) (by rw [hc])]
      exact ih _ (ht2 #[v] (by simp)) h

theorem segs_zero (z : Array Value) : ∀ (ps : List (Nat × Nat)) (o : Nat), (∀ i q n, ps[i]? = some (q, n) → q = o + ((ps.take i).map (·.2)).sum) → o + (ps.map (·.2)).sum ≤ z.size →
    ((ps.map fun (o, n) => z.extract o (o + n)).map Array.toList).flatten = (z.toList.drop o).take (ps.map (·.2)).sum
  | [], o, _, _ => by simp
  | (q, n) :: ps, o, h, hz => by
    have h0 := h 0 q n rfl
    simp only [List.take_zero, List.map_nil, List.sum_nil, Nat.add_zero] at h0
    subst h0
    simp only [List.map_cons, List.sum_cons] at hz ⊢
    have ih := segs_zero z ps (q + n) (fun i q' n' hi => by
      have := h (i + 1) q' n' (by simpa using hi)
      simp only [List.take_succ_cons, List.map_cons, List.sum_cons] at this
      omega) (by omega)
    rw [List.flatten_cons, ih]
    simp only [Array.toList_extract]
    rw [List.extract_eq_take_drop, show q + n - q = n by omega, show z.toList.drop (q + n) = (z.toList.drop q).drop n by rw [List.drop_drop], ← List.take_add]

theorem opPure_build {P : Program} {o : Oper} {ρ : Operand → Value} {K : Value → Prop} {t : TypeId} {parts : Array (Nat × Operand)} (ho : o.op = .build t parts) (h : opPure P o ρ K) :
    ∃ v, K v ∧ ∀ w, (execOp ρ o).run P w = .ok (.value v) w := by
  unfold opPure at h
  simp only [ho] at h
  split at h
  · rename_i fs hu
    split at h <;> try exact h.elim
    rename_i ps z hps hz
    split at h <;> try exact h.elim
    rename_i hsum
    obtain ⟨g, hg, hgz⟩ := Option.bind_eq_some_iff.1 hz
    obtain ⟨h1, h2⟩ := placesOf_tiled fs.toList 0 ps hps
    have hfl : fs.size = ps.length := by
      have : ∀ (fs : List Field) (o : Nat) (ps : List (Nat × Nat)), placesOf P fs o = some ps → fs.length = ps.length := by
        intro fs
        induction fs with
        | nil => intro o ps h; simp [placesOf] at h; subst h; rfl
        | cons f fs ih =>
          intro o ps h
          unfold placesOf at h
          split at h <;> try cases h
          split at h <;> try cases h
          rename_i g _ _
          cases hp : placesOf P fs (o + g.size) with
          | none => rw [hp] at h; cases h
          | some qs => rw [hp] at h; simp only [Option.map_some, Option.some.injEq] at h; subst h; simp [ih _ _ hp]
      simpa using this _ _ _ hps
    have hT : Tiled ps (ps.map fun (o, n) => z.extract o (o + n)) := by
      refine ⟨?_, fun i q n hi => by simpa using h1 i q n hi⟩
      rw [List.map_map]
      apply List.map_congr_left
      intro p hp
      obtain ⟨i, hi⟩ := List.mem_iff_getElem?.1 hp
      obtain ⟨q, n⟩ := p
      have hq := h1 i q n hi
      have hle : q + n ≤ (ps.map (·.2)).sum := by
        have hlt : i < ps.length := (List.getElem?_eq_some_iff.1 hi).1
        conv => rhs; rw [← List.take_append_drop i ps]
        rw [List.map_append, List.sum_append, List.drop_eq_getElem_cons hlt, (List.getElem?_eq_some_iff.1 hi).2, List.map_cons, List.sum_cons]
        omega
      simp only [Function.comp, Array.size_extract]
      omega
    have hpl : ∀ (i : Nat) (p : Nat × Nat), ps[i]? = some p → ((fs.toList.mapIdx fun i f => ((f.offset, ((P.info? f.type).map (·.size)).getD 0) : Nat × Nat)).toArray)[i]? = some p := by
      intro i p hi
      have hlt : i < fs.size := by rw [hfl]; exact (List.getElem?_eq_some_iff.1 hi).1
      obtain ⟨g', hg', he⟩ := h2 i fs[i] (by simp [hlt])
      rw [hi] at he
      simp only [List.getElem?_toArray, List.getElem?_mapIdx]
      simp [hlt, hg', he]
    obtain ⟨vs, hk, hf⟩ := buildW_sound (place := fun i => ((fs.toList.mapIdx fun i f => ((f.offset, ((P.info? f.type).map (·.size)).getD 0) : Nat × Nat)).toArray)[i]?) hpl _ _ hT h
    have hzz : (ps.map fun (o, n) => z.extract o (o + n)).foldl (· ++ ·) #[] = z := by
      apply Array.ext'
      rw [glue_toList, segs_zero z ps 0 h1 (by omega), hsum, List.drop_zero, ← Array.length_toList, List.take_length]
    rw [hzz] at hf
    refine ⟨_, hk, fun w => ?_⟩
    have hm : ∀ w, (fs.mapM fun f => (do pure (f.offset, ← sizeOf f.type) : Sem (Nat × Nat))).run P w = .ok (fs.toList.mapIdx fun i f => ((f.offset, ((P.info? f.type).map (·.size)).getD 0) : Nat × Nat)).toArray w := by
      intro w
      have hl : ∀ (l : List Field), (∀ f ∈ l, ∃ g, P.info? f.type = some g) → (l.mapM fun f => (do pure (f.offset, ← sizeOf f.type) : Sem (Nat × Nat))).run P w = .ok (l.map fun f => ((f.offset, ((P.info? f.type).map (·.size)).getD 0) : Nat × Nat)) w := by
        intro l
        induction l with
        | nil => intro _; simp
        | cons f l ih =>
          intro hf
          obtain ⟨g, hg⟩ := hf f (.head _)
          have ih' := ih (fun f hf' => hf f (.tail _ hf'))
          simp only [bind_pure_comp] at ih'
          simp [List.mapM_cons, run_sizeOf' hg, ih', hg]
      have e : (fs.mapM fun f => (do pure (f.offset, ← sizeOf f.type) : Sem (Nat × Nat))) = List.toArray <$> (fs.toList.mapM fun f => (do pure (f.offset, ← sizeOf f.type) : Sem (Nat × Nat))) := by
        rw [Array.mapM_eq_mapM_toList]
      rw [e]
      have := hl fs.toList (fun f hf => by
        obtain ⟨i, hi⟩ := List.mem_iff_getElem?.1 hf
        obtain ⟨g, hg, _⟩ := h2 i f hi
        exact ⟨g, hg⟩)
      simp only [map_eq_pure_bind, Sem.run_bind, this, Result.andThen_ok, Sem.run_pure]
      congr 2
      apply List.ext_getElem?
      intro i
      simp
    simp only [execOp, ho, Instr.build, Sem.run_bind]
    have hzv : (zeroValue t).run P w = .ok (.agg z) w := by simp [zeroValue, typeInfo, hg, hgz]
    rw [hzv]
    simp only [Result.andThen_ok, run_underlying hu, Sem.run_bind]
    rw [hm]
    have hpp : (parts.map fun x => (x.1, ρ x.2)).toList = parts.toList.map fun x => (x.1, ρ x.2) := by simp
    simp only [Result.andThen_ok, Value.cells]
    rw [hpp, hf]
    simp
  · rename_i n e hu
    split at h <;> try exact h.elim
    rename_i ge z hge hz
    split at h <;> try exact h.elim
    rename_i hsum
    obtain ⟨g, hg, hgz⟩ := Option.bind_eq_some_iff.1 hz
    have hps : ∀ i q m, (rowPlaces n ge.size)[i]? = some (q, m) → q = i * ge.size ∧ m = ge.size ∧ i < n := by
      intro i q m hi
      unfold rowPlaces at hi
      rw [List.getElem?_map] at hi
      obtain ⟨j, hj, e⟩ := Option.map_eq_some_iff.1 hi
      have hlt := (List.getElem?_eq_some_iff.1 hj).1
      rw [List.length_range] at hlt
      rw [List.getElem?_range hlt] at hj
      cases hj
      cases e
      exact ⟨rfl, rfl, hlt⟩
    have hs2 : (rowPlaces n ge.size).map (·.2) = List.replicate n ge.size := by
      unfold rowPlaces
      rw [List.map_map]
      apply List.ext_getElem
      · simp
      · intro i h1 h2; simp
    have hlen : (rowPlaces n ge.size).length = n := by simp [rowPlaces]
    have h1 : ∀ i q m, (rowPlaces n ge.size)[i]? = some (q, m) → q = 0 + (((rowPlaces n ge.size).take i).map (·.2)).sum := by
      intro i q m hi
      obtain ⟨rfl, _, hlt⟩ := hps i q m hi
      rw [List.map_take, hs2, List.take_replicate, List.sum_replicate_nat]
      have : min i n = i := by omega
      rw [this]; simp
    have htot : ((rowPlaces n ge.size).map (·.2)).sum = z.size := by rw [hs2, List.sum_replicate_nat]; simpa using hsum
    have hT : Tiled (rowPlaces n ge.size) ((rowPlaces n ge.size).map fun (o, n) => z.extract o (o + n)) := by
      refine ⟨?_, fun i q m hi => by simpa using h1 i q m hi⟩
      rw [List.map_map]
      apply List.map_congr_left
      intro p hp
      obtain ⟨i, hi⟩ := List.mem_iff_getElem?.1 hp
      obtain ⟨q, m⟩ := p
      obtain ⟨rfl, rfl, hlt⟩ := hps i q m hi
      have hle : i * ge.size + ge.size ≤ n * ge.size := by rw [← Nat.succ_mul]; exact Nat.mul_le_mul_right _ hlt
      simp only [Function.comp, Array.size_extract]
      omega
    obtain ⟨vs, hk, hf⟩ := buildW_sound (place := fun i => some (i * ge.size, ge.size)) (fun i p hi => by
      obtain ⟨q, m⟩ := p
      obtain ⟨rfl, rfl, _⟩ := hps i q m hi
      rfl) _ _ hT h
    have hzz : ((rowPlaces n ge.size).map fun (o, n) => z.extract o (o + n)).foldl (· ++ ·) #[] = z := by
      apply Array.ext'
      rw [glue_toList, segs_zero z _ 0 h1 (by omega), htot, List.drop_zero, ← Array.length_toList, List.take_length]
    rw [hzz] at hf
    refine ⟨_, hk, fun w => ?_⟩
    simp only [execOp, ho, Instr.build, Sem.run_bind]
    have hzv : (zeroValue t).run P w = .ok (.agg z) w := by simp [zeroValue, typeInfo, hg, hgz]
    rw [hzv]
    simp only [Result.andThen_ok, run_underlying hu, Sem.run_bind]
    rw [run_sizeOf' hge]
    have hpp : (parts.map fun x => (x.1, ρ x.2)).toList = parts.toList.map fun x => (x.1, ρ x.2) := by simp
    simp only [Result.andThen_ok, Value.cells]
    rw [hpp, hf]
    simp
  · exact pwv_sound h

theorem opPure_sound {P : Program} {o : Oper} {ρ : Operand → Value} {K : Value → Prop} (h : opPure P o ρ K) : ∃ v, K v ∧ ∀ w, (execOp ρ o).run P w = .ok (.value v) w := by
  have h' := h
  unfold opPure at h
  split at h
  · rename_i x ho; exact ⟨_, h, fun w => by simp [execOp, ho]⟩
  · rename_i x ho; exact ⟨_, h, fun w => by simp [execOp, ho]⟩
  · rename_i c a b ho
    split at h <;> try exact h.elim
    rename_i t hc
    rcases br_sound h with ⟨rfl, h⟩ | ⟨rfl, h⟩ <;> exact ⟨_, h, fun w => by simp [execOp, ho, hc, asBool]⟩
  · rename_i x ho
    split at h
    · rename_i p hx
      unfold nn at h
      split at h <;> try exact h.elim
      exact ⟨_, h, fun w => by simp [execOp, ho, hx]⟩
    · rename_i f a b hx
      unfold okFn at h
      split at h <;> first | exact h.elim | exact ⟨_, h, fun w => by simp [execOp, ho, hx]⟩
    · exact h.elim
  · rename_i op xt x y yt ho
    have hE : ∀ {w v}, (do eqGuard op xt x y (ρ x) (ρ y); binOp op xt (ρ x) (ρ y) : Sem Value).run P w = .ok v w → (execOp ρ o).run P w = .ok (.value v) w := by
      intro w v hv
      simp only [execOp, ho, Sem.run_bind] at hv ⊢
      revert hv
      cases (eqGuard op xt x y (ρ x) (ρ y)).run P w with
      | ok u w1 =>
        simp only [Result.andThen_ok]
        cases (binOp op xt (ρ x) (ρ y)).run P w1 with
        | ok u w2 => simp
        | halt => simp
      | halt => simp
    have hD : ∀ {D : Prop}, (D → ∃ v, K v ∧ ∀ w, (execOp ρ o).run P w = .ok (.value v) w) → (D → ∃ v, K v ∧ ∀ w, (do eqGuard op xt x y (ρ x) (ρ y); binOp op xt (ρ x) (ρ y) : Sem Value).run P w = .ok v w) := by
      intro D hD d
      obtain ⟨v, hk, hr⟩ := hD d
      refine ⟨v, hk, fun w => ?_⟩
      have := hr w
      simp only [execOp, ho, Sem.run_bind] at this
      simp only [Sem.run_bind]
      revert this
      cases (eqGuard op xt x y (ρ x) (ρ y)).run P w with
      | ok u w1 =>
        simp only [Result.andThen_ok]
        cases (binOp op xt (ρ x) (ρ y)).run P w1 with
        | ok u w2 => simp
        | halt => simp
      | halt => simp
    obtain ⟨v, hk, hr⟩ := binW_sound (hD (fun d => pwv_sound d)) h
    exact ⟨v, hk, fun w => hE (hr w)⟩
  · rename_i src dst x ho
    split at h
    · rename_i k0 n d k hx hs hu
      exact ⟨_, h, fun w => by simp [execOp, ho, convert, hx, run_underlying hu, run_underlying hs, Conv.intToInt]⟩
    · exact pwv_sound h
  · rename_i t x i ho; exact opPure_indexAddr ho h'
  · rename_i t x i ho; exact opPure_index ho h'
  · rename_i t x lo hi ho; exact opPure_slice ho h'
  · rename_i t x lo hi mx ho; exact opPure_slice3 ho h'
  · rename_i t x i ho; exact opPure_field ho h'
  · rename_i t parts ho; exact opPure_build ho h'
  · exact pwv_sound h

end Go.Sp

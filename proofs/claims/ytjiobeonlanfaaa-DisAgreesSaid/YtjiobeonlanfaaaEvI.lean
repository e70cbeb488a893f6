import Derived.Test.YtjiobeonlanfaaaEvH
namespace Go.Ev
set_option linter.unusedSimpArgs false
set_option linter.unusedVariables false
open Go.RowKit

variable {P : Program} {ty : TypeId → Option Ty} {c : Cx} {B : Nat} {w0 : World} {h : Hp}

/-! ### Operations look at their operands alone -/
theorem evL_congr {ev ev' : Operand → Option V} : ∀ (l : List Operand), (∀ x ∈ l, ev x = ev' x) → evL ev l = evL ev' l
  | [], _ => rfl
  | x :: l, h => by simp only [evL, h x (by simp), evL_congr l fun y hy => h y (by simp [hy])]
theorem fillV_congr {ev ev' : Operand → Option V} (place : Nat → Option (Nat × Nat)) : ∀ (l : List (Nat × Operand)) (cs : List V), (∀ p ∈ l, ev p.2 = ev' p.2) → fillV place ev l cs = fillV place ev' l cs
  | [], _, _ => rfl
  | (i, x) :: l, cs, h => by
    simp only [fillV, h (i, x) (by simp)]
    split
    · split
      · exact fillV_congr place l _ fun p hp => h p (by simp [hp])
      · rfl
    · rfl
theorem evOp_congr {ev ev' : Operand → Option V} {x : Option Operand} (h : ∀ y, x = some y → ev y = ev' y) : evOp ev x = evOp ev' x := by
  cases x with
  | none => rfl
  | some y => simp only [evOp, h y rfl]
theorem pureB_congr {ev ev' : Operand → Option V} {cl : Callee} {args : List Operand} {ts : List TypeId} (h : ∀ x ∈ args, ev x = ev' x) : pureB ty ev cl args ts = pureB ty ev' cl args ts := by
  unfold pureB
  split
  · rw [h _ (by simp)]
  · rename_i x y
    rw [h x (by simp), h y (by simp)]
  · rename_i x y
    rw [h x (by simp), h y (by simp)]
  · rfl
theorem pureV_congr {ev ev' : Operand → Option V} (op : Op) (h : ∀ x ∈ op.operands, ev x = ev' x) : pureV ty ev op = pureV ty ev' op := by
  cases op with
  | move x => simp only [pureV, h x (by simp [Op.operands])]
  | assign x => simp only [pureV, h x (by simp [Op.operands])]
  | pick q a b => simp only [pureV, h q (by simp [Op.operands]), h a (by simp [Op.operands]), h b (by simp [Op.operands])]
  | build t parts =>
    have hp : ∀ p ∈ parts.toList, ev p.2 = ev' p.2 := fun p hp => h p.2 (by simp only [Op.operands, List.mem_toArray, List.mem_map]; exact ⟨p, hp, rfl⟩)
    simp only [pureV, fillV_congr _ _ _ hp]
  | nilCheck x => simp only [pureV, h x (by simp [Op.operands])]
  | binOp op t x y t' => simp only [pureV, h x (by simp [Op.operands]), h y (by simp [Op.operands])]
  | unOp op t x => simp only [pureV, h x (by simp [Op.operands])]
  | convert s t x => simp only [pureV, h x (by simp [Op.operands])]
  | makeInterface t x => simp only [pureV, h x (by simp [Op.operands])]
  | makeFunc fn a b =>
    cases fn with
    | func f =>
      simp only [pureV, evL_congr a.toList fun x hx => h x (by simp only [Op.operands, Array.mem_append]; exact .inl (by simpa using hx)), evL_congr b.toList fun x hx => h x (by simp only [Op.operands, Array.mem_append]; exact .inr (by simpa using hx))]
    | _ => rfl
  | slice t x lo hi mx =>
    cases mx with
    | some m => rfl
    | none =>
      simp only [pureV, h x (by simp [Op.operands]), evOp_congr (x := lo) fun y hy => h y (by subst hy; simp [Op.operands]), evOp_congr (x := hi) fun y hy => h y (by subst hy; simp [Op.operands])]
  | fieldAddr t x f => simp only [pureV, h x (by simp [Op.operands])]
  | field t x f => simp only [pureV, h x (by simp [Op.operands])]
  | indexAddr t x i => simp only [pureV, h x (by simp [Op.operands]), h i (by simp [Op.operands])]
  | index t x i => simp only [pureV, h x (by simp [Op.operands]), h i (by simp [Op.operands])]
  | extract x i => simp only [pureV, h x (by simp [Op.operands])]
  | call cl =>
    simp only [pureV]
    exact pureB_congr fun x hx => h x (by simp only [Op.operands, Call.operands, Array.mem_append]; exact .inr (by simpa using hx))
  | _ => rfl
theorem readV_congr {ev ev' : Operand → Option V} (op : Op) (hx : ∀ x ∈ op.operands, ev x = ev' x) : readV ty ev h op = readV ty ev' h op := by
  cases op with
  | load t x => simp only [readV, hx x (by simp [Op.operands])]
  | convert s t x => simp only [readV, hx x (by simp [Op.operands])]
  | slice t x lo hi mx =>
    cases mx with
    | some m => rfl
    | none =>
      simp only [readV, hx x (by simp [Op.operands]), evOp_congr (x := lo) fun y hy => hx y (by subst hy; simp [Op.operands]), evOp_congr (x := hi) fun y hy => hx y (by subst hy; simp [Op.operands])]
  | _ => rfl
theorem callE_congr {cw : CallW} {ev ev' : Operand → Option V} {K Kp : V → Hp → Prop} {cl : Callee} {args : List Operand} {ts : List TypeId} (hx : ∀ x ∈ args, ev x = ev' x) (hf : ∀ f, cl = .value f → ev f = ev' f) :
    callE ty cw ev h K Kp cl args ts = callE ty cw ev' h K Kp cl args ts := by
  unfold callE
  split
  · rename_i d s t t'
    rw [hx d (by simp), hx s (by simp)]
  · rename_i d s t t'
    rw [hx d (by simp), hx s (by simp)]
  · rw [hf _ rfl, evL_congr _ hx]
  · rfl
theorem opE_congr {cw : CallW} {nid : Option Nat} {ev ev' : Operand → Option V} {K Kp : V → Hp → Prop} (op : Op) (hx : ∀ x ∈ op.operands, ev x = ev' x) : opE ty cw op ev nid h K Kp = opE ty cw op ev' nid h K Kp := by
  cases op with
  | box t x => simp only [opE, hx x (by simp [Op.operands])]
  | buildSlice t n parts =>
    have hp : ∀ p ∈ parts.toList, ev p.2 = ev' p.2 := fun p hp => hx p.2 (by simp only [Op.operands, List.mem_toArray, List.mem_map]; exact ⟨p, hp, rfl⟩)
    simp only [opE, fillV_congr _ _ _ hp]
  | makeSlice t l cp => simp only [opE, hx l (by simp [Op.operands]), hx cp (by simp [Op.operands])]
  | store t x v => simp only [opE, hx x (by simp [Op.operands]), hx v (by simp [Op.operands])]
  | convert s t x => simp only [opE, hx x (by simp [Op.operands])]
  | panic x => simp only [opE, hx x (by simp [Op.operands])]
  | call cl =>
    simp only [opE]
    exact callE_congr (fun x h => hx x (by simp only [Op.operands, Call.operands, Array.mem_append]; exact .inr (by simpa using h))) (fun f hf => hx f (by simp only [Op.operands, Call.operands, hf]; simp))
  | _ => rfl
theorem opW_congr {cw : CallW} {nid : Option Nat} {ev ev' : Operand → Option V} {K Kp : V → Hp → Prop} (op : Op) (hx : ∀ x ∈ op.operands, ev x = ev' x) : opW ty cw op ev nid h K Kp = opW ty cw op ev' nid h K Kp := by
  unfold opW
  rw [pureV_congr op hx, readV_congr op hx, opE_congr op hx]

/-! ### What may be turned round -/
def prV (ty : TypeId → Option Ty) (ev : Operand → Option V) (h : Hp) (op : Op) : Option (Rq × V) := match pureV ty ev op with | some x => some x | none => readV ty ev h op
def prW (x : Option (Rq × V)) (K : V → Prop) : Prop := match x with | some (p, v) => p.holds ∧ K v | none => False
def isPR : Cl → Bool | .pure | .read => true | _ => false
theorem opW_pr {quiet : FuncId → Bool} {cw : CallW} {op : Op} (hc : isPR (clOf ty quiet op) = true) (ev : Operand → Option V) (nid : Option Nat) (h : Hp) (K Kp : V → Hp → Prop) : opW ty cw op ev nid h K Kp ↔ prW (prV ty ev h op) fun v => K v h := by
  have hE : ∀ K, opE ty cw op ev nid h K Kp → False := by
    intro K hE
    cases op with
    | convert s t x =>
      simp only [opE] at hE
      split at hE
      · rename_i S D b hS hD hx
        split at hE
        · rename_i e hk1 hk2
          have : isSl ty t = true := by unfold isSl; rw [hD]; simp only [hk2]
          simp [clOf, this, isPR] at hc
        · exact hE
      · exact hE
    | call cl =>
      obtain ⟨callee, args, ts⟩ := cl
      simp only [opE] at hE
      unfold callE at hE
      split at hE
      · simp [clOf, isPR] at hc
      · simp [clOf, isPR] at hc
      · rename_i f
        cases f with
        | func f => simp only [clOf] at hc; cases hq : quiet f <;> simp [hq, isPR] at hc
        | _ => simp [clOf, isPR] at hc
      · exact hE
    | alloc => simp [clOf, isPR] at hc
    | box => simp [clOf, isPR] at hc
    | buildSlice => simp [clOf, isPR] at hc
    | makeSlice => simp [clOf, isPR] at hc
    | store => simp [clOf, isPR] at hc
    | panic => simp [clOf, isPR] at hc
    | _ => exact hE
  unfold opW prV prW
  cases hp : pureV ty ev op with
  | some x => obtain ⟨p, v⟩ := x; exact rqW_iff p _
  | none =>
    cases hr : readV ty ev h op with
    | some x => obtain ⟨p, v⟩ := x; exact rqW_iff p _
    | none => exact ⟨fun x => (hE _ x).elim, fun x => x.elim⟩
theorem readV_pure {quiet : FuncId → Bool} {op : Op} (hc : clOf ty quiet op = .pure) (ev : Operand → Option V) (h : Hp) : readV ty ev h op = none := by
  cases op with
  | load => simp [clOf] at hc
  | slice => simp [clOf] at hc
  | convert s t x => simp only [clOf] at hc; cases hx : isSl ty t <;> simp [hx] at hc
  | _ => rfl
/-- memory in which all that was is still there -/
def Sub (h h' : Hp) : Prop := ∀ i o, getF h i = some o → getF h' i = some o
theorem readV_sub {ev : Operand → Option V} {h h' : Hp} (hs : Sub h h') {op : Op} {x : Rq × V} (hr : readV ty ev h op = some x) : readV ty ev h' op = some x := by
  have hcont : ∀ sz v y, contV h sz v = some y → contV h' sz v = some y := by
    intro sz v y hy
    unfold contV at hy ⊢
    split at hy
    · exact hy
    · exact hy
    · split at hy
      · rename_i ho; rw [hs _ _ ho]; exact hy
      · cases hy
    · split at hy
      · rename_i ho; rw [hs _ _ ho]; exact hy
      · cases hy
    · exact hy
    · cases hy
  have hload : ∀ t v y, loadV ty t h v = some y → loadV ty t h' v = some y := by
    intro t v y hy
    unfold loadV at hy ⊢
    split at hy
    · split at hy
      · rename_i ho; rw [hs _ _ ho]; exact hy
      · cases hy
    · split at hy
      · rename_i ho; rw [hs _ _ ho]; exact hy
      · cases hy
    · exact hy
    · cases hy
  cases op with
  | load t x' =>
    simp only [readV] at hr ⊢
    split at hr
    · exact hload _ _ _ hr
    · cases hr
  | convert s t x' =>
    simp only [readV] at hr ⊢
    split at hr
    · cases hr
    · rename_i S D v hn hS hD hx
      split at hr
      · rename_i e hk1 hk2
        split at hr
        · rename_i z p n g hz hc
          have := hcont _ _ _ hc
          simp only [hk1, hk2, hz, this]
          exact hr
        · cases hr
      · cases hr
    · cases hr
  | slice t x' lo hi mx =>
    cases mx with
    | some m => cases hr
    | none =>
      simp only [readV] at hr ⊢
      split at hr
      · split at hr
        · rename_i ho hz
          rw [hs _ _ ho, hz]
          exact hr
        · cases hr
      · cases hr
  | _ => cases hr
end Go.Ev

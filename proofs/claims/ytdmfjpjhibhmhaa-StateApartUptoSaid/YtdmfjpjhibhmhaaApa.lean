/- StateApart: states that differ have unlike bytes. (Part 1: K1, K2, K3, K4, K5, K6, K7, D, K8, K9, K10, K11, K12, K13.) -/
import Derived.Orders
import Derived.Laws.Rows
import Derived.Tactics
import Derived.Laws.AppendOwn
import Derived.Deep.MidRow
import Derived.Laws.CopyRow
import Derived.Laws.MakeOwn
import Derived.Laws.AppendOwnNone
import Derived.Great.FillDense
import Derived.OrdersHeld
import Derived.Laws.BitsLemmas
import Derived.Laws.Bits64
import Derived.Lib.SliceRun

/- The calculus' ground: what is known of a frame (an association list), of the heap (chunks), and goals that speak of every act and world that fit. Nothing of any program stands here. -/
namespace Go.PK

/-! ## Frames -/

abbrev Env := List (Nat × Value)

def lk : Env → Nat → Option Value
  | [], _ => none
  | (k, v) :: r, t => match Nat.beq k t with
    | true => some v
    | false => lk r t

def ev (e : Env) : Operand → Option Value
  | .tmp t => lk e t
  | .const v => some v
  | .global g => some (.pointer (some ⟨g, 0, none⟩))
  | .func f => some (.func (.func f) #[] #[])

structure Fits (n : Nat) (e : Env) (a : Act) : Prop where
  size : a.tmps.size = n
  defers : a.defers = []
  at_ : ∀ t v, lk e t = some v → a.tmps[t]? = some v

theorem Fits.eval {n e a x v} (h : Fits n e a) (hx : ev e x = some v) : a.eval x = v := by
  cases x with
  | tmp t =>
    have := h.at_ t v hx
    simp [Act.eval, this]
  | const c => simpa [ev, Act.eval] using hx
  | global g => simpa [ev, Act.eval] using hx
  | func f => simpa [ev, Act.eval] using hx

theorem lk_cons_same (e : Env) (d : Nat) (v : Value) : lk ((d, v) :: e) d = some v := by simp [lk]

theorem lk_cons_ne (e : Env) {d t : Nat} (v : Value) (h : d ≠ t) : lk ((d, v) :: e) t = lk e t := by
  have : Nat.beq d t = false := by
    cases hb : Nat.beq d t with
    | false => rfl
    | true => exact absurd (Nat.eq_of_beq_eq_true hb) h
  simp [lk, this]

theorem Fits.put {n e a d} {v : Value} (h : Fits n e a) (hd : d < n) : Fits n ((d, v) :: e) (a.put (some d) v) := by
  refine ⟨by simp [Act.put, h.size], h.defers, fun t u ht => ?_⟩
  by_cases hdt : d = t
  · subst hdt
    rw [lk_cons_same] at ht
    cases ht
    have : d < a.tmps.size := h.size ▸ hd
    simp [Act.put, this]
  · rw [lk_cons_ne e v hdt] at ht
    have := h.at_ t u ht
    simp only [Act.put]
    rw [Array.getElem?_setIfInBounds_ne hdt]
    exact this

/-- What is written in `e'` stands so in `e`. -/
def Sub : Env → Env → Prop
  | [], _ => True
  | (t, v) :: r, e => lk e t = some v ∧ Sub r e

theorem Sub.lk : ∀ {e' e : Env}, Sub e' e → ∀ t v, PK.lk e' t = some v → PK.lk e t = some v
  | [], _, _, _, _, h => by simp [PK.lk] at h
  | (k, u) :: r, e, hs, t, v, h => by
    by_cases hk : k = t
    · subst hk; rw [lk_cons_same] at h; cases h; exact hs.1
    · rw [lk_cons_ne r u hk] at h; exact hs.2.lk t v h

theorem Fits.sub {n e e' a} (h : Fits n e a) (hs : Sub e' e) : Fits n e' a :=
  ⟨h.size, h.defers, fun t v ht => h.at_ t v (hs.lk t v ht)⟩

theorem Fits.weaken {n e e' a} (h : Fits n e a) (hs : ∀ t v, PK.lk e' t = some v → PK.lk e t = some v) : Fits n e' a :=
  ⟨h.size, h.defers, fun t v ht => h.at_ t v (hs t v ht)⟩

theorem Fits.again {n e a t} {v : Value} (h : Fits n e a) (ht : PK.lk e t = some v) : Fits n ((t, v) :: e) a :=
  h.weaken fun s u hu => by
    by_cases hts : t = s
    · subst hts; rw [lk_cons_same] at hu; cases hu; exact ht
    · rw [lk_cons_ne e v hts] at hu; exact hu

/-- The knowledge of just these slots. -/
def keep (e : Env) : List Nat → Env
  | [] => []
  | t :: r => match lk e t with
    | some v => (t, v) :: keep e r
    | none => keep e r

theorem keep_sub (e : Env) : ∀ l, Sub (keep e l) e
  | [] => trivial
  | t :: r => by
    unfold keep
    split
    · rename_i v h; exact ⟨h, keep_sub e r⟩
    · exact keep_sub e r

/-! ## Cells in segments -/

abbrev Seg := Nat × List Value

class SegOk (s : Seg) : Prop where
  len : s.2.length = s.1
  one : ∀ v ∈ s.2, v.oneCell' = true

def flat : List Seg → List Value
  | [] => []
  | s :: r => s.2 ++ flat r

def width : List Seg → Nat
  | [] => 0
  | s :: r => s.1 + width r

class SegsOk (l : List Seg) : Prop where
  all : ∀ s ∈ l, SegOk s

instance : SegsOk [] := ⟨fun _ h => by cases h⟩
instance {s : Seg} {r : List Seg} [hs : SegOk s] [hr : SegsOk r] : SegsOk (s :: r) :=
  ⟨fun x hx => by cases hx with
    | head => exact hs
    | tail _ h => exact hr.all x h⟩

theorem SegsOk.head {s : Seg} {r : List Seg} (h : SegsOk (s :: r)) : SegOk s := h.all s (by simp)
theorem SegsOk.tail {s : Seg} {r : List Seg} (h : SegsOk (s :: r)) : SegsOk r := ⟨fun x hx => h.all x (by simp [hx])⟩
theorem SegsOk.append {a b : List Seg} (ha : SegsOk a) (hb : SegsOk b) : SegsOk (a ++ b) :=
  ⟨fun x hx => (List.mem_append.1 hx).elim (ha.all x) (hb.all x)⟩

theorem flat_append : ∀ (a b : List Seg), flat (a ++ b) = flat a ++ flat b
  | [], b => rfl
  | s :: r, b => by simp [flat, flat_append r b]

theorem flat_length : ∀ (l : List Seg), SegsOk l → (flat l).length = width l
  | [], _ => rfl
  | s :: r, h => by simp [flat, width, flat_length r h.tail, h.head.len]

theorem flat_one : ∀ (l : List Seg), SegsOk l → ∀ v ∈ flat l, v.oneCell' = true
  | [], _, v, hv => by simp [flat] at hv
  | s :: r, h, v, hv => by
    rcases List.mem_append.1 hv with h1 | h1
    · exact h.head.one v h1
    · exact flat_one r h.tail v h1

/-- The first `n` cells. -/
def takeSpan : List Seg → Nat → Option (List Seg)
  | [], n => match Nat.beq n 0 with
    | true => some []
    | false => none
  | (l, vs) :: r, n => match Nat.beq n 0 with
    | true => some []
    | false => match Nat.ble l n with
      | true => match takeSpan r (n - l) with
        | some q => some ((l, vs) :: q)
        | none => none
      | false => some [(n, vs.take n)]

theorem takeSpan_spec : ∀ (s : List Seg) (n : Nat) (q : List Seg), SegsOk s → takeSpan s n = some q →
    SegsOk q ∧ width q = n ∧ flat q = (flat s).take n ∧ n ≤ width s
  | [], n, q, _, h => by
    unfold takeSpan at h
    split at h
    · rename_i hb; cases h
      have := Nat.eq_of_beq_eq_true hb
      subst this
      exact ⟨inferInstance, rfl, rfl, Nat.zero_le _⟩
    · cases h
  | (l, vs) :: r, n, q, hs, h => by
    unfold takeSpan at h
    split at h
    · rename_i hb; cases h
      have := Nat.eq_of_beq_eq_true hb
      subst this
      exact ⟨inferInstance, rfl, by simp [flat], Nat.zero_le _⟩
    · split at h
      · rename_i hb
        have hln : l ≤ n := Nat.le_of_ble_eq_true hb
        have hvl : vs.length = l := hs.head.len
        split at h
        · rename_i q' hq
          cases h
          obtain ⟨h1, h2, h3, h4⟩ := takeSpan_spec r (n - l) q' hs.tail hq
          have := hs.head
          refine ⟨inferInstance, by simp [width, h2]; omega, ?_, by simp [width]; omega⟩
          simp only [flat, h3]
          rw [List.take_append, List.take_of_length_le (l := vs) (by omega), hvl]
        · cases h
      · rename_i hb
        have hln : n < l := by
          rcases Nat.lt_or_ge n l with h' | h'
          · exact h'
          · rw [Nat.ble_eq_true_of_le h'] at hb; cases hb
        have hvl : vs.length = l := hs.head.len
        cases h
        have : SegOk (n, vs.take n) := ⟨by simp [hvl]; omega, fun v hv => hs.head.one v (List.mem_of_mem_take hv)⟩
        refine ⟨inferInstance, by simp [width], ?_, by simp [width]; omega⟩
        simp only [flat, List.append_nil]
        rw [List.take_append, hvl, show n - l = 0 from by omega]
        simp

/-- The cells behind the first `n`. -/
def dropSpan : List Seg → Nat → List Seg
  | [], _ => []
  | (l, vs) :: r, n => match Nat.beq n 0 with
    | true => (l, vs) :: r
    | false => match Nat.ble l n with
      | true => dropSpan r (n - l)
      | false => (l - n, vs.drop n) :: r

theorem dropSpan_spec : ∀ (s : List Seg) (n : Nat), SegsOk s → SegsOk (dropSpan s n) ∧ flat (dropSpan s n) = (flat s).drop n ∧ width (dropSpan s n) = width s - n
  | [], n, hs => ⟨by simpa [dropSpan] using hs, by simp [dropSpan, flat], by simp [dropSpan, width]⟩
  | (l, vs) :: r, n, hs => by
    have hvl : vs.length = l := hs.head.len
    unfold dropSpan
    split
    · rename_i hb
      have := Nat.eq_of_beq_eq_true hb
      subst this
      exact ⟨hs, by simp, by simp⟩
    · split
      · rename_i hb
        have hln : l ≤ n := Nat.le_of_ble_eq_true hb
        obtain ⟨h1, h2, h3⟩ := dropSpan_spec r (n - l) hs.tail
        refine ⟨h1, ?_, by rw [h3]; simp [width]; omega⟩
        rw [h2]; simp only [flat]
        rw [List.drop_append, List.drop_eq_nil_of_le (as := vs) (by omega), hvl]; simp
      · rename_i hb
        have hln : n < l := by
          rcases Nat.lt_or_ge n l with h' | h'
          · exact h'
          · rw [Nat.ble_eq_true_of_le h'] at hb; cases hb
        have h0 : SegOk (l - n, vs.drop n) := ⟨by simp [hvl], fun v hv => hs.head.one v (List.mem_of_mem_drop hv)⟩
        have h1 : SegsOk r := hs.tail
        refine ⟨inferInstance, ?_, by simp [width]; omega⟩
        simp only [flat]
        rw [List.drop_append, hvl, show n - l = 0 from by omega]
        simp

/-- `n` cells from `o` on. -/
def spanAt (s : List Seg) (o n : Nat) : Option (List Seg) := takeSpan (dropSpan s o) n

theorem spanAt_spec {s : List Seg} {o n : Nat} {q : List Seg} (hs : SegsOk s) (h : spanAt s o n = some q) :
    SegsOk q ∧ width q = n ∧ flat q = ((flat s).drop o).take n ∧ (n = 0 ∨ o + n ≤ width s) := by
  obtain ⟨d1, d2, d3⟩ := dropSpan_spec s o hs
  obtain ⟨h1, h2, h3, h4⟩ := takeSpan_spec _ n q d1 h
  exact ⟨h1, h2, by rw [h3, d2], by omega⟩

/-- The cells `n` from `o` on, exchanged for these. -/
def putSpan (s : List Seg) (o n : Nat) (new : List Seg) : List Seg :=
  (match takeSpan s o with
   | some q => q
   | none => []) ++ (new ++ dropSpan s (o + n))

/-- A value of a struct or array type, its cells in segments. -/
def aggS (s : List Seg) : Value := .agg (flat s).toArray

/-! ## Chunks -/

inductive Chunk where
  /-- a block, known whole -/
  | blk (id : Nat) (segs : List Seg) (ty : TypeId)
  /-- a slice of `n` elements of `sz` cells each, nil or at the head of a block of its own; behind its cells there may be room -/
  | sl (v : Value) (n : Nat) (xs : List Value) (ty : TypeId) (sz : Nat)

def Chunk.ids : Chunk → List Nat
  | .blk id _ _ => [id]
  | .sl (.slice (some a) _ _) _ _ _ _ => [a.block]
  | .sl _ _ _ _ _ => []

def Chunk.ok (w : World) : Chunk → Prop
  | .blk id segs ty => w.heap[id]? = some (.cells (flat segs).toArray ty (0, 0)) ∧ SegsOk segs
  | .sl v n xs ty sz => w.ownsRow 0 ty sz v n xs ∧ ∀ x ∈ xs, x.oneCell' = true

theorem Chunk.ok.lt {w : World} {c : Chunk} (h : c.ok w) : ∀ i ∈ c.ids, i < w.heap.size := by
  have key : ∀ {b : Nat} {o : Obj}, w.heap[b]? = some o → b < w.heap.size := fun h => by
    rcases Nat.lt_or_ge _ w.heap.size with h' | h'
    · exact h'
    · rw [Array.getElem?_eq_none h'] at h; cases h
  cases c with
  | blk id segs ty =>
    intro i hi; simp [Chunk.ids] at hi; subst hi; exact key h.1
  | sl v n xs ty sz =>
    intro i hi
    obtain ⟨⟨_, hv | ⟨b, cap, cur, hv, _, hb, _⟩⟩, _⟩ := h
    · obtain ⟨rfl, _⟩ := hv; simp [Chunk.ids] at hi
    · subst hv; simp [Chunk.ids] at hi; subst hi; exact key hb

/-- What holds of a chunk hangs on its own block alone. -/
theorem Chunk.ok.of_same {w w' : World} {c : Chunk} (h : c.ok w) (hs : ∀ i ∈ c.ids, w'.heap[i]? = w.heap[i]?) : c.ok w' := by
  cases c with
  | blk id segs ty => exact ⟨(hs id (by simp [Chunk.ids])).trans h.1, h.2⟩
  | sl v n xs ty sz =>
    obtain ⟨⟨h0, hv | ⟨b, cap, cur, hv, h2, hb, h3⟩⟩, h1⟩ := h
    · exact ⟨⟨h0, .inl hv⟩, h1⟩
    · refine ⟨⟨h0, .inr ⟨b, cap, cur, hv, h2, ?_, h3⟩⟩, h1⟩
      rw [hs b (by simp [hv, Chunk.ids])]; exact hb

abbrev idsOf (Γ : List Chunk) : List Nat := Γ.flatMap Chunk.ids

/-- Of the world `w0` nothing has turned but the blocks S (and the count of draws). -/
structure Same (S : List Nat) (w0 w : World) : Prop where
  os : w.os = w0.os
  tape : w.tape = w0.tape
  output : w.output = w0.output
  size : w0.heap.size ≤ w.heap.size
  block : ∀ k, k < w0.heap.size → k ∉ S → w.heap[k]? = w0.heap[k]?

theorem Same.refl (S : List Nat) (w : World) : Same S w w := ⟨rfl, rfl, rfl, Nat.le_refl _, fun _ _ _ => rfl⟩

theorem Same.trans {S T : List Nat} {a b c : World} (h : Same S a b) (k : Same T b c) (hT : ∀ i ∈ T, i ∈ S ∨ a.heap.size ≤ i) : Same S a c :=
  ⟨k.os.trans h.os, k.tape.trans h.tape, k.output.trans h.output, Nat.le_trans h.size k.size, fun i hi hn =>
    (k.block i (Nat.lt_of_lt_of_le hi h.size) (fun hm => (hT i hm).elim hn (fun h' => Nat.lt_irrefl _ (Nat.lt_of_lt_of_le hi h')))).trans (h.block i hi hn)⟩

theorem Same.drew {S : List Nat} {a w : World} (h : Same S a w) : Same S a w.drew := ⟨h.os, h.tape, h.output, h.size, h.block⟩

structure Mem (Γ : List Chunk) (S : List Nat) (w0 w : World) : Prop where
  ok : ∀ c ∈ Γ, c.ok w
  nodup : (idsOf Γ).Nodup
  own : ∀ i ∈ idsOf Γ, i ∈ S ∨ w0.heap.size ≤ i
  same : Same S w0 w

theorem Mem.lt {Γ S w0 w} (h : Mem Γ S w0 w) : ∀ i ∈ idsOf Γ, i < w.heap.size := fun i hi => by
  obtain ⟨c, hc, hi⟩ := List.mem_flatMap.1 hi
  exact (h.ok c hc).lt i hi

theorem Mem.drew {Γ S w0 w} (h : Mem Γ S w0 w) : Mem Γ S w0 w.drew := ⟨fun c hc => (h.ok c hc).of_same fun _ _ => rfl, h.nodup, h.own, h.same.drew⟩

structure St (n : Nat) (e : Env) (Γ : List Chunk) (S : List Nat) (w0 : World) (a : Act) (w : World) : Prop where
  fits : Fits n e a
  mem : Mem Γ S w0 w

/-! ## Goals -/

def WL (P : Program) (ops : Array Oper) (Q : Exit → Act → World → Prop) (rest : List Oper) (n : Nat) (e : Env) (Γ : List Chunk) (S : List Nat) (w0 : World) : Prop :=
  ∀ a w, St n e Γ S w0 a w → wpList P ops Q rest a w

def WC (P : Program) (c : Code) (Q : Exit → Act → World → Prop) (n : Nat) (e : Env) (Γ : List Chunk) (S : List Nat) (w0 : World) : Prop :=
  ∀ a w, St n e Γ S w0 a w → c.wp P Q a w

def QX (x : Exit) (Q : Exit → Act → World → Prop) (n : Nat) (e : Env) (Γ : List Chunk) (S : List Nat) (w0 : World) : Prop :=
  ∀ a w, St n e Γ S w0 a w → Q x a w

section rules
variable {P : Program} {Q Q' : Exit → Act → World → Prop} {n : Nat} {e : Env} {Γ : List Chunk} {S : List Nat} {w0 : World} {ops : Array Oper}

theorem WC_seq {x y : Code} (h : WC P x (Exit.then (y.wp P Q) Q) n e Γ S w0) : WC P (.seq x y) Q n e Γ S w0 := fun a w st => wp_seq (h a w st)
/-- what comes behind is a name: `hK` says what it asks -/
theorem WC_seqK {x y : Code} (h : ∀ K : Act → World → Prop, (∀ e' Γ', WC P y Q n e' Γ' S w0 → QX .normal (Exit.then K Q) n e' Γ' S w0) → WC P x (Exit.then K Q) n e Γ S w0) : WC P (.seq x y) Q n e Γ S w0 :=
  WC_seq (h _ fun _ _ hy => fun a w st => hy a w st)
theorem WC_skip (h : QX .normal Q n e Γ S w0) : WC P .skip Q n e Γ S w0 := fun a w st => wp_skip (h a w st)
theorem WC_ret (h : QX .ret Q n e Γ S w0) : WC P .ret Q n e Γ S w0 := fun a w st => wp_ret (h a w st)
theorem WC_exit {id : Nat} (h : QX (.exit id) Q n e Γ S w0) : WC P (.exit id) Q n e Γ S w0 := fun a w st => wp_exit (h a w st)
theorem WC_block {id : Nat} {c : Code} (h : WC P c (Exit.inBlock id Q) n e Γ S w0) : WC P (.block id c) Q n e Γ S w0 := fun a w st => wp_block (h a w st)
theorem WC_cond {c : Operand} {x y : Code} {t : Bool} (hc : ev e c = some (.bool t)) (ht : t = true → WC P x Q n e Γ S w0) (hf : t = false → WC P y Q n e Γ S w0) :
    WC P (.cond c x y) Q n e Γ S w0 := fun a w st => wp_cond_split (st.fits.eval hc) (fun h => ht h a w st) (fun h => hf h a w st)
theorem WC_cond_true {c : Operand} {x y : Code} (hc : ev e c = some (.bool true)) (h : WC P x Q n e Γ S w0) :
    WC P (.cond c x y) Q n e Γ S w0 := fun a w st => wp_cond_true (st.fits.eval hc) (h a w st)
theorem WC_cond_false {c : Operand} {x y : Code} (hc : ev e c = some (.bool false)) (h : WC P y Q n e Γ S w0) :
    WC P (.cond c x y) Q n e Γ S w0 := fun a w st => wp_cond_false (st.fits.eval hc) (h a w st)
theorem WC_region {id : Nat} {l : List Oper} (h : WL P l.toArray Q l n e Γ S w0) : WC P (.region id l.toArray false) Q n e Γ S w0 := fun a w st => wp_region_lit (h a w st)
theorem WL_nil (h : QX .normal Q n e Γ S w0) : WL P ops Q [] n e Γ S w0 := fun a w st => wpList_nil (h a w st)

theorem WC_sub {c : Code} {e' : Env} (hs : Sub e' e) (h : WC P c Q n e' Γ S w0) : WC P c Q n e Γ S w0 := fun a w st => h a w ⟨st.fits.sub hs, st.mem⟩
theorem WC_keep {c : Code} (l : List Nat) (h : WC P c Q n (keep e l) Γ S w0) : WC P c Q n e Γ S w0 := WC_sub (keep_sub e l) h

theorem QX_then {y : Code} (h : WC P y Q' n e Γ S w0) : QX .normal (Exit.then (y.wp P Q') Q) n e Γ S w0 := fun a w st => h a w st
theorem QX_then_ret {K : Act → World → Prop} (h : QX .ret Q n e Γ S w0) : QX .ret (Exit.then K Q) n e Γ S w0 := fun a w st => h a w st
theorem QX_then_exit {K : Act → World → Prop} {i : Nat} (h : QX (.exit i) Q n e Γ S w0) : QX (.exit i) (Exit.then K Q) n e Γ S w0 := fun a w st => h a w st
theorem QX_block {i : Nat} (h : QX .normal Q n e Γ S w0) : QX .normal (Exit.inBlock i Q) n e Γ S w0 := fun a w st => h a w st
theorem QX_block_ret {i : Nat} (h : QX .ret Q n e Γ S w0) : QX .ret (Exit.inBlock i Q) n e Γ S w0 := fun a w st => h a w st
theorem QX_block_exit {i : Nat} (h : QX .normal Q n e Γ S w0) : QX (.exit i) (Exit.inBlock i Q) n e Γ S w0 := fun a w st => by
  simp only [Exit.inBlock, if_true]; exact h a w st
theorem QX_block_exit_ne {i j : Nat} (hij : Nat.beq j i = false) (h : QX (.exit j) Q n e Γ S w0) : QX (.exit j) (Exit.inBlock i Q) n e Γ S w0 := fun a w st => by
  simp only [Exit.inBlock]
  rw [if_neg (fun h' => by subst h'; simp at hij)]; exact h a w st

/-- A loop whose state is told by a ghost `g`. -/
theorem wp_loop_ghost {G : Type} {c : Code} {a : Act} {w : World} (I : G → Act → World → Prop) (μ : G → Nat) (g₀ : G) (h₀ : I g₀ a w)
    (round : ∀ g a w, I g a w → c.wp P (Exit.then (fun a' w' => ∃ g', I g' a' w' ∧ μ g' < μ g) Q) a w) : (Code.loop c).wp P Q a w := by
  intro b k cs
  have key : ∀ m g a w, μ g = m → I g a w →
      ∃ e a' w', Q e a' w' ∧ Arrives P (lone (b.at a (.code c :: .inLoop c :: k)) cs w) b k cs e a' w' := by
    intro m
    induction m using Nat.strongRecOn with
    | _ m ih =>
      intro g a w hm hI
      obtain ⟨e, a₁, w₁, hq, harr⟩ := round g a w hI b (.inLoop c :: k) cs
      cases e with
      | normal =>
        obtain ⟨g', hI₁, hlt⟩ := hq
        obtain ⟨e₂, a₂, w₂, hq₂, harr₂⟩ := ih (μ g') (hm ▸ hlt) g' a₁ w₁ rfl hI₁
        exact ⟨e₂, a₂, w₂, hq₂, .of_steps (Steps.trans harr (.one step_inLoop)) harr₂⟩
      | exit id => exact ⟨_, a₁, w₁, hq, .pass (x := .inLoop c) rfl (fun _ _ => .inl (by simp)) harr⟩
      | goto l => exact ⟨_, a₁, w₁, hq, .pass (x := .inLoop c) rfl (fun _ _ => .inl (by simp)) harr⟩
      | ret => exact ⟨_, a₁, w₁, hq, .pass (x := .inLoop c) rfl (fun _ _ => .inl (by simp)) harr⟩
      | panic ch => exact ⟨_, a₁, w₁, hq, .pass (x := .inLoop c) rfl (fun _ _ => .inl (by simp)) harr⟩
      | outgrown => exact ⟨_, a₁, w₁, hq, .pass (x := .inLoop c) rfl (fun _ _ => .inl (by simp)) harr⟩
  obtain ⟨e, a', w', hq, harr⟩ := key _ g₀ a w rfl h₀
  exact ⟨e, a', w', hq, .of_steps (.one step_loop) harr⟩

/-- The state at a loop's head, over a ghost: its facts, its frame, its chunks. -/
def Round {G : Type} (facts : G → Prop) (env : G → Env) (Δ : G → List Chunk) (n : Nat) (S : List Nat) (w0 : World) (g : G) (a : Act) (w : World) : Prop :=
  facts g ∧ St n (env g) (Δ g) S w0 a w

def Again {G : Type} (facts : G → Prop) (env : G → Env) (Δ : G → List Chunk) (μ : G → Nat) (n : Nat) (S : List Nat) (w0 : World) (g : G) (a : Act) (w : World) : Prop :=
  ∃ g', Round facts env Δ n S w0 g' a w ∧ μ g' < μ g

theorem WC_loop {G : Type} {c : Code} (facts : G → Prop) (env : G → Env) (Δ : G → List Chunk) (μ : G → Nat) (g₀ : G) (hf : facts g₀) (hs : Sub (env g₀) e) (hΔ : Δ g₀ = Γ)
    (round : ∀ g, facts g → WC P c (Exit.then (Again facts env Δ μ n S w0 g) Q) n (env g) (Δ g) S w0) : WC P (.loop c) Q n e Γ S w0 := fun _ _ st =>
  wp_loop_ghost (Round facts env Δ n S w0) μ g₀ ⟨hf, st.fits.sub hs, hΔ ▸ st.mem⟩ fun g _ _ ⟨hg, sg⟩ => round g hg _ _ sg

theorem QX_again {G : Type} {facts : G → Prop} {env : G → Env} {Δ : G → List Chunk} {μ : G → Nat} {g : G} (g' : G) (hf : facts g') (hμ : μ g' < μ g) (hs : Sub (env g') e) (hΔ : Δ g' = Γ) :
    QX .normal (Exit.then (Again facts env Δ μ n S w0 g) Q) n e Γ S w0 := fun _ _ st => ⟨g', ⟨hf, st.fits.sub hs, hΔ ▸ st.mem⟩, hμ⟩
end rules

/-! ## A function's beginning and end -/

def envOf : List Value → Nat → Env
  | [], _ => []
  | v :: r, k => (k, v) :: envOf r (k + 1)

theorem lk_envOf : ∀ (l : List Value) (k t : Nat) (v : Value), lk (envOf l k) t = some v → k ≤ t ∧ l[t - k]? = some v
  | [], _, _, _, h => by simp [envOf, lk] at h
  | u :: r, k, t, v, h => by
    by_cases hk : k = t
    · subst hk; simp only [envOf, lk_cons_same] at h; cases h; simp
    · simp only [envOf, lk_cons_ne _ _ hk] at h
      obtain ⟨h1, h2⟩ := lk_envOf r (k + 1) t v h
      refine ⟨by omega, ?_⟩
      rw [show t - k = (t - (k + 1)) + 1 from by omega]; simpa using h2

/-- What a call comes to: it returns, and this holds of the value and the world. -/
def Ret (R : Value → World → Prop) : Ending → World → Prop
  | .returned v, w => R v w
  | .panicked _, _ => False
  | .outgrown, _ => False

theorem calls_enter {P : Program} {f : FuncId} {fn : Func} {c : Code} {l : List Value} {w : World} {R : Ending → World → Prop} {n : Nat} {Γ : List Chunk} {S : List Nat}
    (hf : P.funcs[f]? = some fn) (hb : fn.body = some c) (hn : fn.ntmps = n) (hl : Nat.ble l.length n = true) (hm : Mem Γ S w w) (h : WC P c (bodyPost P fn R) n (envOf l 0) Γ S w) :
    Calls P f l.toArray w R :=
  calls_of_wp hf hb (h _ _ ⟨⟨by have := Nat.le_of_ble_eq_true hl; simp [hn]; omega, rfl, fun t v ht => by
    obtain ⟨_, h2⟩ := lk_envOf l 0 t v ht
    have hlt : t < l.length := by
      rcases Nat.lt_or_ge t l.length with h' | h'
      · exact h'
      · simp [List.getElem?_eq_none h'] at h2
    simp only [Nat.sub_zero] at h2
    rw [Array.getElem?_append_left (by simpa using hlt)]
    simpa using h2⟩, hm⟩)

end Go.PK

/- The calculus' quiet operations: what each yields, in every frame and heap that fit. -/
namespace Go.PK

/-! ## Facts of the program's tables -/

class Und (P : Program) (t : TypeId) (d : outParam TypeDesc) : Prop where
  h : P.underlying t = some d
class Sz (P : Program) (t : TypeId) (k : outParam Nat) : Prop where
  h : (P.info? t).map (·.size) = some k
class Bts (P : Program) (t : TypeId) (k : outParam Nat) : Prop where
  h : (P.info? t).map (·.bytes) = some k
class Zer (P : Program) (t : TypeId) (q : outParam (List Seg)) : Prop where
  h : ((P.info? t).bind (·.zero)).map (·.cells) = some (flat q).toArray
  ok : SegsOk q
/-- a struct or array type -/
class IsAgg (P : Program) (t : TypeId) : Prop where
  h : (P.underlying t).map (fun d => match d with | .struct _ | .array _ _ => true | _ => false) = some true
class IsPlain (P : Program) (t : TypeId) : Prop where
  h : (P.underlying t).map (fun d => match d with | .struct _ | .array _ _ => true | _ => false) = some false

def fieldOf (P : Program) (s f : Nat) : Option (Nat × TypeId × Nat) :=
  match P.underlying s with
  | some (.struct fs) => match fs[f]? with
    | some fd => (P.info? fd.type).map fun i => (fd.offset, fd.type, i.size)
    | none => none
  | _ => none
/-- field f of the struct type s: its first cell, its type, its cells -/
class Fld (P : Program) (s f : Nat) (k : outParam Nat) (t : outParam TypeId) (z : outParam Nat) : Prop where
  h : fieldOf P s f = some (k, t, z + 1)

section
variable {P : Program}

theorem Sz.run {t k} [h : Sz P t k] (w : World) : (sizeOf t).run P w = .ok k w := by
  have := h.h
  cases hi : P.info? t with
  | none => simp [hi] at this
  | some i => simp [hi] at this; simp [sizeOf, typeInfo, hi, this]

theorem Und.run {t d} [h : Und P t d] (w : World) : (underlying t).run P w = .ok d w := run_underlying h.h w

theorem IsAgg.run {t} [h : IsAgg P t] (w : World) : (isAgg t).run P w = .ok true w := by
  have := h.h
  cases hu : P.underlying t with
  | none => simp [hu] at this
  | some d =>
    simp only [hu, Option.map_some, Option.some.injEq] at this
    unfold isAgg
    rw [Sem.run_bind, run_underlying hu w]
    cases d <;> simp_all

theorem IsPlain.run {t} [h : IsPlain P t] (w : World) : (isAgg t).run P w = .ok false w := by
  have := h.h
  cases hu : P.underlying t with
  | none => simp [hu] at this
  | some d =>
    simp only [hu, Option.map_some, Option.some.injEq] at this
    unfold isAgg
    rw [Sem.run_bind, run_underlying hu w]
    cases d <;> simp_all
end

/-! ## Yielding -/

def Val (P : Program) (o : Oper) (n : Nat) (e : Env) (Γ : List Chunk) (S : List Nat) (w0 : World) (v : Value) : Prop :=
  ∀ a w, Fits n e a → Mem Γ S w0 w → (execOp a.eval o).run P w = .ok (.value v) w

/-- Is this operation carried out? -/
def wantedE (ops : Array Oper) (e : Env) : Option (Nat × Bool) → Option Bool
  | none => some true
  | some (j, b) => match (ops[j]?).bind (·.dst) with
    | some t => match lk e t with
      | some (.bool c) => some (c == b)
      | _ => none
    | none => none

theorem wantedE.spec {ops : Array Oper} {n e a} {o : Oper} {b : Bool} (h : Fits n e a) (hw : wantedE ops e o.guard = some b) : Region.wanted o (yielded ops a.tmps) = b := by
  unfold wantedE at hw
  unfold Region.wanted
  split at hw
  · rename_i hg; cases hw; simp [hg]
  · rename_i j want hg
    split at hw
    · rename_i t ht
      split at hw
      · rename_i c hc
        cases hw
        have := h.at_ t _ hc
        simp only [hg, yielded, ht, Option.bind_some, this]
        cases c <;> cases want <;> rfl
      · cases hw
    · cases hw

section rules
variable {P : Program} {Q : Exit → Act → World → Prop} {n : Nat} {e : Env} {Γ : List Chunk} {S : List Nat} {w0 : World} {ops : Array Oper} {rest : List Oper} {o : Oper}

theorem WL_val {d : Nat} {v : Value} (hw : wantedE ops e o.guard = some true) (hd : o.dst = some d) (hdn : Nat.blt d n = true) (hv : Val P o n e Γ S w0 v)
    (h : WL P ops Q rest n ((d, v) :: e) Γ S w0) : WL P ops Q (o :: rest) n e Γ S w0 := fun a w st => by
  unfold wpList
  rw [if_pos (wantedE.spec st.fits hw)]
  refine .inl ?_
  unfold Oper.wp
  rw [hv a w st.fits st.mem, Oper.upon_value, hd]
  exact h _ _ ⟨st.fits.put (Nat.le_of_ble_eq_true hdn), st.mem⟩

theorem WL_off {d : Nat} (hw : wantedE ops e o.guard = some false) (hd : o.dst = some d) (hdn : Nat.blt d n = true)
    (h : WL P ops Q rest n ((d, undef) :: e) Γ S w0) : WL P ops Q (o :: rest) n e Γ S w0 := fun a w st => by
  unfold wpList
  rw [if_neg (by rw [wantedE.spec st.fits hw]; simp), hd]
  exact h _ _ ⟨st.fits.put (Nat.le_of_ble_eq_true hdn), st.mem⟩

theorem WL_off_none (hw : wantedE ops e o.guard = some false) (hd : o.dst = none)
    (h : WL P ops Q rest n e Γ S w0) : WL P ops Q (o :: rest) n e Γ S w0 := fun a w st => by
  unfold wpList
  rw [if_neg (by rw [wantedE.spec st.fits hw]; simp), hd]
  exact h _ _ st

/-- A truth value that is not decided is decided here. -/
theorem WL_bool (t : Nat) {b : Bool} (ht : lk e t = some (.bool b)) (h1 : b = true → WL P ops Q rest n ((t, .bool true) :: e) Γ S w0)
    (h2 : b = false → WL P ops Q rest n ((t, .bool false) :: e) Γ S w0) : WL P ops Q rest n e Γ S w0 := fun a w st => by
  cases b with
  | true => exact h1 rfl a w ⟨st.fits.again ht, st.mem⟩
  | false => exact h2 rfl a w ⟨st.fits.again ht, st.mem⟩

/-- A slot's value in another spelling. -/
theorem WL_as (t : Nat) {v : Value} (v' : Value) (ht : lk e t = some v) (hv : v = v') (h : WL P ops Q rest n ((t, v') :: e) Γ S w0) : WL P ops Q rest n e Γ S w0 := fun a w st =>
  h a w ⟨st.fits.again (hv ▸ ht), st.mem⟩

end rules

/-! ## Reading memory -/

/-- In every heap that fits, these cells stand there. -/
def Rd (Γ : List Chunk) (S : List Nat) (w0 : World) (b o : Nat) (cs : List Value) : Prop := ∀ w, Mem Γ S w0 w → w.rangeAt b o cs

inductive Pick : Chunk → List Chunk → List Chunk → Prop
  | head {c : Chunk} {r : List Chunk} : Pick c (c :: r) r
  | tail {c x : Chunk} {r r' : List Chunk} (h : Pick c r r') : Pick c (x :: r) (x :: r')

theorem Pick.mem {c : Chunk} {Γ Γ' : List Chunk} (h : Pick c Γ Γ') : c ∈ Γ := by
  induction h with
  | head => simp
  | tail _ ih => simp [ih]

theorem Pick.perm {c : Chunk} {Γ Γ' : List Chunk} (h : Pick c Γ Γ') : Γ.Perm (c :: Γ') := by
  induction h with
  | head => exact .refl _
  | tail _ ih => exact (ih.cons _).trans (.swap ..)

theorem rangeAt_of_block {w : World} {b : Nat} {cs : List Value} {t : TypeId} {fr : Nat × Nat} (h : w.heap[b]? = some (.cells cs.toArray t fr)) {o k : Nat} {vs : List Value}
    (hv : vs = (cs.drop o).take k) : w.rangeAt b o vs := fun j v hj => by
  have : cs[o + j]? = some v := by
    rw [hv] at hj
    rw [List.getElem?_take] at hj
    split at hj
    · simpa using hj
    · cases hj
  simp [World.cell?, h, this]

section reads
variable {Γ Γ' : List Chunk} {S : List Nat} {w0 : World} {b o : Nat}

theorem Rd.blk {segs q : List Seg} {ty : TypeId} (k : Nat) (hp : Pick (.blk b segs ty) Γ Γ') (hq : spanAt segs o k = some q) : Rd Γ S w0 b o (flat q) := fun w hm => by
  obtain ⟨h1, h2⟩ := hm.ok _ hp.mem
  obtain ⟨_, _, h3, _⟩ := spanAt_spec h2 hq
  exact rangeAt_of_block h1 h3

theorem Rd.sl {m : Nat} {xs vs : List Value} {ty : TypeId} {sz : Nat} {c : Nat} {n : Nat} (k : Nat) (hp : Pick (.sl (.slice (some ⟨b, 0, none⟩) n c) m xs ty sz) Γ Γ')
    (hvs : vs = (xs.drop o).take k) : Rd Γ S w0 b o vs := fun w hm => by
  obtain ⟨⟨hl, h | ⟨b', cap, cur, h3, _, h4, _, _, _, h5⟩⟩, _⟩ := hm.ok _ hp.mem
  · simp at h
  · simp at h3
    obtain ⟨rfl, _, _⟩ := h3
    intro j u hj
    have hx : xs[o + j]? = some u := by
      rw [hvs, List.getElem?_take] at hj
      split at hj
      · simpa using hj
      · cases hj
    have hc : cur[o + j]? = some u := by
      rw [← h5, List.getElem?_take] at hx
      split at hx
      · simpa using hx
      · cases hx
    simp [World.cell?, h4, hc]

theorem Rd.old {vs : List Value} (h : w0.rangeAt b o vs) (hb : b < w0.heap.size) (hS : b ∉ S) : Rd Γ S w0 b o vs := fun w hm j v hj => by
  have := h j v hj
  rwa [← World.cell?_of_block (w := w0) (w' := w) (a := ⟨b, o + j, none⟩) (hm.same.block b hb hS)] at this

theorem Rd.sub {vs us : List Value} {i : Nat} (h : Rd Γ S w0 b o vs) (k : Nat) (hu : us = (vs.drop i).take k) : Rd Γ S w0 b (o + i) us := fun w hm j v hj => by
  have := h w hm (i + j) v (by
    rw [hu] at hj
    rw [List.getElem?_take] at hj
    split at hj
    · simpa using hj
    · cases hj)
  simpa [Nat.add_assoc] using this

theorem rangeAt_lt {w : World} {b o : Nat} {vs : List Value} (h : w.rangeAt b o vs) (hne : vs ≠ []) : b < w.heap.size := by
  cases vs with
  | nil => exact absurd rfl hne
  | cons v r => exact World.block_lt_of_cell? w ⟨b, o + 0, none⟩ (h 0 v rfl)
end reads

/-! ## The operations -/
section ops
variable {P : Program} {n : Nat} {e : Env} {Γ Γ' : List Chunk} {S : List Nat} {w0 : World} {d : Option Nat} {ty : TypeId} {pos : String} {after : Array Edge} {g : Option (Nat × Bool)}

theorem val_move {x : Operand} {v : Value} (h : ev e x = some v) : Val P ⟨d, .move x, ty, pos, after, g⟩ n e Γ S w0 v := fun a w hf _ => by
  simp only [execOp, hf.eval h]; rfl

theorem val_assign {x : Operand} {v : Value} (h : ev e x = some v) : Val P ⟨d, .assign x, ty, pos, after, g⟩ n e Γ S w0 v := fun a w hf _ => by
  simp only [execOp, hf.eval h]; rfl

theorem val_pick {c x y : Operand} {b : Bool} {u v : Value} (hc : ev e c = some (.bool b)) (hx : ev e x = some u) (hy : ev e y = some v) :
    Val P ⟨d, .pick c x y, ty, pos, after, g⟩ n e Γ S w0 (match b with | true => u | false => v) := fun a w hf _ => by
  simp only [execOp, hf.eval hc, hf.eval hx, hf.eval hy, asBool]
  cases b <;> rfl

theorem val_pick_true {c x y : Operand} {u : Value} (hc : ev e c = some (.bool true)) (hx : ev e x = some u) :
    Val P ⟨d, .pick c x y, ty, pos, after, g⟩ n e Γ S w0 u := fun a w hf _ => by
  simp only [execOp, hf.eval hc, hf.eval hx, asBool]; rfl

theorem val_pick_false {c x y : Operand} {v : Value} (hc : ev e c = some (.bool false)) (hy : ev e y = some v) :
    Val P ⟨d, .pick c x y, ty, pos, after, g⟩ n e Γ S w0 v := fun a w hf _ => by
  simp only [execOp, hf.eval hc, hf.eval hy, asBool]; rfl

theorem val_nilCheck {x : Operand} {p : Addr} (h : ev e x = some (.pointer (some p))) : Val P ⟨d, .nilCheck x, ty, pos, after, g⟩ n e Γ S w0 (.pointer (some p)) := fun a w hf _ => by
  simp only [execOp, hf.eval h]; rfl

theorem run_part_agg {t : TypeId} {z : Nat} [IsAgg P t] [Sz P t z] (cs : Array Value) (off : Nat) (w : World) : (part t cs off).run P w = .ok (.agg (cs.extract off (off + z))) w := by
  simp [part, Sem.run_bind, IsAgg.run (P := P) (t := t), Sz.run (P := P) (t := t)]

theorem run_part_plain' {t : TypeId} [IsPlain P t] (cs : Array Value) (off : Nat) (v : Value) (h : cs[off]? = some v) (w : World) : (part t cs off).run P w = .ok v w := by
  simp [part, Sem.run_bind, IsPlain.run (P := P) (t := t), h]

theorem Fld.spec {s f k : Nat} {t : TypeId} {z : Nat} [h : Fld P s f k t z] : ∃ fs fd, P.underlying s = some (.struct fs) ∧ fs[f]? = some fd ∧ fd.offset = k ∧ fd.type = t ∧ (P.info? t).map (·.size) = some (z + 1) := by
  have := h.h
  unfold fieldOf at this
  split at this
  · rename_i fs hs
    split at this
    · rename_i fd hfd
      cases hi : P.info? fd.type with
      | none => simp [hi] at this
      | some i =>
        simp [hi] at this
        obtain ⟨h1, h2, h3⟩ := this
        exact ⟨fs, fd, hs, hfd, h1, h2, by rw [← h2, hi]; simp [h3]⟩
    · cases this
  · cases this

theorem val_fieldAddr {s f k : Nat} {t : TypeId} {z : Nat} {x : Operand} {b o : Nat} [hF : Fld P s f k t z] (h : ev e x = some (.pointer (some ⟨b, o, none⟩))) :
    Val P ⟨d, .fieldAddr s x f, ty, pos, after, g⟩ n e Γ S w0 (.pointer (some ⟨b, o + k, none⟩)) := fun a w hf _ => by
  obtain ⟨fs, fd, h1, h2, h3, h4, h5⟩ := hF.spec
  have hz : (sizeOf fd.type).run P w = .ok (z + 1) w := by
    rw [h4]; exact Sz.run (h := ⟨h5⟩) w
  simp [execOp, hf.eval h, Instr.fieldAt, Instr.sureAddr, run_underlying h1, h2, fieldPlace, hz, h3, Addr.add_mid]

theorem val_fieldAddr0 {s f k : Nat} {t : TypeId} {z : Nat} {x : Operand} {b : Nat} [hF : Fld P s f k t z] (h : ev e x = some (.pointer (some ⟨b, 0, none⟩))) :
    Val P ⟨d, .fieldAddr s x f, ty, pos, after, g⟩ n e Γ S w0 (.pointer (some ⟨b, k, none⟩)) := by
  have := val_fieldAddr (P := P) (n := n) (Γ := Γ) (S := S) (w0 := w0) (d := d) (ty := ty) (pos := pos) (after := after) (g := g) (s := s) (f := f) (hF := hF) h
  rwa [Nat.zero_add] at this

theorem val_fieldAddr_0 {s f : Nat} {t : TypeId} {z : Nat} {x : Operand} {b o : Nat} [hF : Fld P s f 0 t z] (h : ev e x = some (.pointer (some ⟨b, o, none⟩))) :
    Val P ⟨d, .fieldAddr s x f, ty, pos, after, g⟩ n e Γ S w0 (.pointer (some ⟨b, o, none⟩)) :=
  val_fieldAddr (P := P) (n := n) (Γ := Γ) (S := S) (w0 := w0) (d := d) (ty := ty) (pos := pos) (after := after) (g := g) (s := s) (f := f) (hF := hF) h

theorem val_field {s f k : Nat} {t : TypeId} {z : Nat} {x : Operand} {q q' : List Seg} [hF : Fld P s f k t z] [IsAgg P t] (hok : SegsOk q) (h : ev e x = some (aggS q)) (hq : spanAt q k (z + 1) = some q') :
    Val P ⟨d, .field s x f, ty, pos, after, g⟩ n e Γ S w0 (aggS q') := fun a w hf _ => by
  obtain ⟨fs, fd, h1, h2, h3, h4, h5⟩ := hF.spec
  have : Sz P t (z + 1) := ⟨h5⟩
  obtain ⟨_, _, h6, _⟩ := spanAt_spec hok hq
  simp [execOp, hf.eval h, Instr.field, run_underlying h1, h2, aggS, asAgg, h4, h3, run_part_agg]
  rw [h6]

theorem val_field1 {s f k : Nat} {t : TypeId} {z : Nat} {x : Operand} {q : List Seg} {v : Value} [hF : Fld P s f k t z] [IsPlain P t] (hok : SegsOk q) (h : ev e x = some (aggS q)) (hq : spanAt q k 1 = some [(1, [v])]) :
    Val P ⟨d, .field s x f, ty, pos, after, g⟩ n e Γ S w0 v := fun a w hf _ => by
  obtain ⟨fs, fd, h1, h2, h3, h4, h5⟩ := hF.spec
  obtain ⟨_, _, h6, _⟩ := spanAt_spec hok hq
  have hv : (flat q)[k]? = some v := by
    have : ((flat q).drop k)[0]? = some v := by
      have h7 : (((flat q).drop k).take 1)[0]? = some v := by rw [← h6]; rfl
      rw [List.getElem?_take] at h7; simpa using h7
    simpa using this
  have := run_part_plain' (P := P) (t := t) (flat q).toArray k v (by simpa using hv) w
  simp [execOp, hf.eval h, Instr.field, run_underlying h1, h2, aggS, asAgg, h4, h3, this]

theorem val_load {t : TypeId} {x : Operand} {b o : Nat} {v : Value} [IsPlain P t] (h : ev e x = some (.pointer (some ⟨b, o, none⟩))) (hr : Rd Γ S w0 b o [v]) :
    Val P ⟨d, .load t x, ty, pos, after, g⟩ n e Γ S w0 v := fun a w hf hm => by
  have hc := hr w hm 0 v rfl
  simp only [Nat.add_zero] at hc
  simp [execOp, hf.eval h, Instr.loadAt, Instr.sureAddr, loadVar, IsPlain.run (P := P) (t := t), hc]

theorem val_load_agg {t : TypeId} {z : Nat} {x : Operand} {b o : Nat} {q : List Seg} [hA : IsAgg P t] [hz : Sz P t z] (h : ev e x = some (.pointer (some ⟨b, o, none⟩))) (hr : Rd Γ S w0 b o (flat q)) (hl : (flat q).length = z) :
    Val P ⟨d, .load t x, ty, pos, after, g⟩ n e Γ S w0 (aggS q) := fun a w hf hm => by
  have hc := hr w hm
  have hA' := hA.h
  cases hu : P.underlying t with
  | none => simp [hu] at hA'
  | some dd =>
    have hd : dd.isRow = true := by simp only [hu, Option.map_some, Option.some.injEq] at hA'; cases dd <;> simp_all
    have := run_loadVar_mid (P := P) w b o t (flat q) dd hc hu hd (by rw [hl]; exact hz.h)
    simp [execOp, hf.eval h, Instr.loadAt, Instr.sureAddr, this, aggS]

/-- a field read of a block that is known whole -/
theorem val_load_blk {t : TypeId} {x : Operand} {b o : Nat} {segs : List Seg} {bt : TypeId} {v : Value} [IsPlain P t] (h : ev e x = some (.pointer (some ⟨b, o, none⟩)))
    (hp : Pick (.blk b segs bt) Γ Γ') (hq : spanAt segs o 1 = some [(1, [v])]) : Val P ⟨d, .load t x, ty, pos, after, g⟩ n e Γ S w0 v :=
  val_load h (Rd.blk 1 hp hq)

theorem val_load_blk_agg {t : TypeId} {z : Nat} {x : Operand} {b o : Nat} {segs q : List Seg} {bt : TypeId} [IsAgg P t] [Sz P t z] (h : ev e x = some (.pointer (some ⟨b, o, none⟩)))
    (hp : Pick (.blk b segs bt) Γ Γ') (hq : spanAt segs o z = some q) : Val P ⟨d, .load t x, ty, pos, after, g⟩ n e Γ S w0 (aggS q) := fun a w hf hm => by
  obtain ⟨h1, h2⟩ := hm.ok _ hp.mem
  obtain ⟨h3, h4, _, _⟩ := spanAt_spec h2 hq
  exact val_load_agg h (Rd.blk z hp hq) (by rw [flat_length q h3, h4]) a w hf hm

theorem val_extract {x : Operand} {vs : Array Value} {i : Nat} {v : Value} (h : ev e x = some (.tuple vs)) (hi : vs[i]? = some v) : Val P ⟨d, .extract x i, ty, pos, after, g⟩ n e Γ S w0 v := fun a w hf _ => by
  simp [execOp, hf.eval h, Instr.extract, hi]

theorem val_len {x : Operand} {t el : TypeId} {p : Option Addr} {m c : Nat} [hu : Und P t (.slice el)] (h : ev e x = some (.slice p m c)) :
    Val P ⟨d, .call ⟨.builtin .len, #[x], #[t]⟩, ty, pos, after, g⟩ n e Γ S w0 (.int .i64 m) := fun a w hf _ => by
  simp [execOp, resolve, invoke, builtin, Builtin.len_, hf.eval h, hu.run, goInt]

/-! integers -/
section ints
variable {t t' : TypeId} {x y : Operand} {k : IntKind} {i j : Int}
theorem val_add (hx : ev e x = some (.int k i)) (hy : ev e y = some (.int k j)) : Val P ⟨d, .binOp .add t x y t', ty, pos, after, g⟩ n e Γ S w0 (.int k (k.wrap (i + j))) := fun a w hf _ => by
  simp only [execOp, hf.eval hx, hf.eval hy]; simp [go_sem, Op.intArith]
theorem val_sub (hx : ev e x = some (.int k i)) (hy : ev e y = some (.int k j)) : Val P ⟨d, .binOp .sub t x y t', ty, pos, after, g⟩ n e Γ S w0 (.int k (k.wrap (i - j))) := fun a w hf _ => by
  simp only [execOp, hf.eval hx, hf.eval hy]; simp [go_sem, Op.intArith]
theorem val_mul (hx : ev e x = some (.int k i)) (hy : ev e y = some (.int k j)) : Val P ⟨d, .binOp .mul t x y t', ty, pos, after, g⟩ n e Γ S w0 (.int k (k.wrap (i * j))) := fun a w hf _ => by
  simp only [execOp, hf.eval hx, hf.eval hy]; simp [go_sem, Op.intArith]
theorem val_quo (hx : ev e x = some (.int k i)) (hy : ev e y = some (.int k j)) (h0 : j ≠ 0) : Val P ⟨d, .binOp .quo t x y t', ty, pos, after, g⟩ n e Γ S w0 (.int k (k.wrap (i.tdiv j))) := fun a w hf _ => by
  simp only [execOp, hf.eval hx, hf.eval hy]; simp [go_sem, Op.intDiv, h0]
theorem val_rem (hx : ev e x = some (.int k i)) (hy : ev e y = some (.int k j)) (h0 : j ≠ 0) : Val P ⟨d, .binOp .rem t x y t', ty, pos, after, g⟩ n e Γ S w0 (.int k (i.tmod j)) := fun a w hf _ => by
  simp only [execOp, hf.eval hx, hf.eval hy]; simp [go_sem, Op.intDiv, h0]
theorem val_and (hx : ev e x = some (.int k i)) (hy : ev e y = some (.int k j)) : Val P ⟨d, .binOp .and t x y t', ty, pos, after, g⟩ n e Γ S w0 (.int k (bits .and k i j)) := fun a w hf _ => by
  simp only [execOp, hf.eval hx, hf.eval hy]; simp [go_sem]
theorem val_or (hx : ev e x = some (.int k i)) (hy : ev e y = some (.int k j)) : Val P ⟨d, .binOp .or t x y t', ty, pos, after, g⟩ n e Γ S w0 (.int k (bits .or k i j)) := fun a w hf _ => by
  simp only [execOp, hf.eval hx, hf.eval hy]; simp [go_sem]
theorem val_xor (hx : ev e x = some (.int k i)) (hy : ev e y = some (.int k j)) : Val P ⟨d, .binOp .xor t x y t', ty, pos, after, g⟩ n e Γ S w0 (.int k (bits .xor k i j)) := fun a w hf _ => by
  simp only [execOp, hf.eval hx, hf.eval hy]; simp [go_sem]
theorem val_shl {k' : IntKind} (hx : ev e x = some (.int k i)) (hy : ev e y = some (.int k' j)) (h0 : 0 ≤ j) : Val P ⟨d, .binOp .shl t x y t', ty, pos, after, g⟩ n e Γ S w0 (.int k (k.wrap (i * 2 ^ min j.toNat k.bits))) := fun a w hf _ => by
  have : ¬ j < 0 := by omega
  simp only [execOp, hf.eval hx, hf.eval hy]; simp [go_sem, Op.shift, this]
theorem val_shr {k' : IntKind} (hx : ev e x = some (.int k i)) (hy : ev e y = some (.int k' j)) (h0 : 0 ≤ j) : Val P ⟨d, .binOp .shr t x y t', ty, pos, after, g⟩ n e Γ S w0 (.int k (i.fdiv (2 ^ min j.toNat k.bits))) := fun a w hf _ => by
  have : ¬ j < 0 := by omega
  simp only [execOp, hf.eval hx, hf.eval hy]; simp [go_sem, Op.shift, this]
theorem val_lss (hx : ev e x = some (.int k i)) (hy : ev e y = some (.int k j)) : Val P ⟨d, .binOp .lss t x y t', ty, pos, after, g⟩ n e Γ S w0 (.bool (decide (i < j))) := fun a w hf _ => by
  simp only [execOp, hf.eval hx, hf.eval hy]; simp [go_sem]
theorem val_leq (hx : ev e x = some (.int k i)) (hy : ev e y = some (.int k j)) : Val P ⟨d, .binOp .leq t x y t', ty, pos, after, g⟩ n e Γ S w0 (.bool (decide (i ≤ j))) := fun a w hf _ => by
  simp only [execOp, hf.eval hx, hf.eval hy]; simp [go_sem]
theorem val_gtr (hx : ev e x = some (.int k i)) (hy : ev e y = some (.int k j)) : Val P ⟨d, .binOp .gtr t x y t', ty, pos, after, g⟩ n e Γ S w0 (.bool (decide (j < i))) := fun a w hf _ => by
  simp only [execOp, hf.eval hx, hf.eval hy]; simp [go_sem]
theorem val_geq (hx : ev e x = some (.int k i)) (hy : ev e y = some (.int k j)) : Val P ⟨d, .binOp .geq t x y t', ty, pos, after, g⟩ n e Γ S w0 (.bool (decide (j ≤ i))) := fun a w hf _ => by
  simp only [execOp, hf.eval hx, hf.eval hy]; simp [go_sem]
theorem val_eql (hx : ev e x = some (.int k i)) (hy : ev e y = some (.int k j)) : Val P ⟨d, .binOp .eql t x y t', ty, pos, after, g⟩ n e Γ S w0 (.bool (decide (i = j))) := fun a w hf _ => by
  simp only [execOp, hf.eval hx, hf.eval hy]; simp [go_sem]; rfl
theorem val_neq (hx : ev e x = some (.int k i)) (hy : ev e y = some (.int k j)) : Val P ⟨d, .binOp .neq t x y t', ty, pos, after, g⟩ n e Γ S w0 (.bool (decide (i ≠ j))) := fun a w hf _ => by
  simp only [execOp, hf.eval hx, hf.eval hy]; simp [go_sem, bne]; rfl
theorem val_convert {src dst : TypeId} {k' : IntKind} {ds : TypeDesc} [hs : Und P src ds] [hd : Und P dst (.int k')] (hx : ev e x = some (.int k i)) :
    Val P ⟨d, .convert src dst x, ty, pos, after, g⟩ n e Γ S w0 (.int k' (k'.wrap i)) := fun a w hf _ => by
  simp [execOp, hf.eval hx, convert, hs.run, hd.run, Conv.intToInt]
theorem val_not {b : Bool} (hx : ev e x = some (.bool b)) : Val P ⟨d, .unOp .not t x, ty, pos, after, g⟩ n e Γ S w0 (.bool (!b)) := fun a w hf _ => by
  simp [execOp, hf.eval hx, Op.unary]
theorem val_com (hx : ev e x = some (.int k i)) : Val P ⟨d, .unOp .xor t x, ty, pos, after, g⟩ n e Γ S w0 (.int k (bits .xor k (if k.signed then -1 else k.max) i)) := fun a w hf _ => by
  simp only [execOp, hf.eval hx]; simp [Op.unary, go_sem]
theorem val_neg (hx : ev e x = some (.int k i)) : Val P ⟨d, .unOp .neg t x, ty, pos, after, g⟩ n e Γ S w0 (.int k (k.wrap (0 - i))) := fun a w hf _ => by
  simp [execOp, hf.eval hx, Op.unary, Op.intArith]
end ints

/-! elements and slices -/
section elems
variable {t el : TypeId} {z : Nat} {x ix : Operand} {k : IntKind} {i : Int}

theorem val_indexAddr {b o m c : Nat} [hu : Und P t (.slice el)] [hz : Sz P el z] (hx : ev e x = some (.slice (some ⟨b, o, none⟩) m c)) (hi : ev e ix = some (.int k i)) (h0 : 0 ≤ i) (h1 : i < m) :
    Val P ⟨d, .indexAddr t x ix, ty, pos, after, g⟩ n e Γ S w0 (.pointer (some ⟨b, o + i.toNat * z, none⟩)) := fun a w hf _ => by
  simp [execOp, hf.eval hx, hf.eval hi, Instr.indexAt, hu.run, asIntOf, h0, h1, hz.run, Addr.add_mid]

theorem val_indexAddr_arr {b o len : Nat} [hu : Und P t (.array len el)] [hz : Sz P el z] (hx : ev e x = some (.pointer (some ⟨b, o, none⟩))) (hi : ev e ix = some (.int k i)) (h0 : 0 ≤ i) (h1 : i < len) :
    Val P ⟨d, .indexAddr t x ix, ty, pos, after, g⟩ n e Γ S w0 (.pointer (some ⟨b, o + i.toNat * z, none⟩)) := fun a w hf _ => by
  simp [execOp, hf.eval hx, hf.eval hi, Instr.indexAt, Instr.sureAddr, hu.run, asIntOf, h0, h1, hz.run, Addr.add_mid]

theorem val_index {len : Nat} {q q' : List Seg} [hu : Und P t (.array len el)] [hz : Sz P el z] [IsAgg P el] (hx : ev e x = some (aggS q)) (hi : ev e ix = some (.int k i)) (h0 : 0 ≤ i) (h1 : i < len)
    (hq : flat q' = ((flat q).drop (i.toNat * z)).take z) : Val P ⟨d, .index t x ix, ty, pos, after, g⟩ n e Γ S w0 (aggS q') := fun a w hf _ => by
  simp only [aggS] at hx
  simp [execOp, hf.eval hx, hf.eval hi, Instr.index, hu.run, asIntOf, h0, h1, hz.run, run_part_agg, aggS, hq]

theorem val_index1 {len : Nat} {q : List Seg} {v : Value} [hu : Und P t (.array len el)] [hz : Sz P el 1] [IsPlain P el] (hx : ev e x = some (aggS q)) (hi : ev e ix = some (.int k i)) (h0 : 0 ≤ i) (h1 : i < len)
    (hq : (flat q)[i.toNat]? = some v) : Val P ⟨d, .index t x ix, ty, pos, after, g⟩ n e Γ S w0 v := fun a w hf _ => by
  simp only [aggS] at hx
  have := run_part_plain' (P := P) (t := el) (flat q).toArray (i.toNat * 1) v (by simpa using hq) w
  simp at this
  simp [execOp, hf.eval hx, hf.eval hi, Instr.index, hu.run, asIntOf, h0, h1, hz.run, this]

/-- `arr[:]`, arr a variable of an array type -/
theorem val_slice_arr {b o len : Nat} [hu : Und P t (.array len el)] [hz : Sz P el z] (hx : ev e x = some (.pointer (some ⟨b, o, none⟩))) :
    Val P ⟨d, .slice t x none none none, ty, pos, after, g⟩ n e Γ S w0 (.slice (some ⟨b, o, none⟩) len len) := fun a w hf _ => by
  simp [execOp, hf.eval hx, Instr.sliceAt, hu.run, Instr.sureAddr, Instr.sliceBounds, hz.run, Addr.add]

theorem run_sliceBound {v : Value} {k : IntKind} {i : Int} {y : Nat} {code : BoundsCode} (hv : v = .int k i) (h0 : 0 ≤ i) (h1 : i ≤ y) (w : World) : (Instr.sliceBound v y code).run P w = .ok i.toNat w := by
  subst hv
  simp [Instr.sliceBound, asIntOf, h0, h1]

/-- `s[lo:hi]` of a slice -/
theorem val_slice {b o m c : Nat} {lo hi : Operand} {k' : IntKind} {l h : Int} [hu : Und P t (.slice el)] [hz : Sz P el z] (hx : ev e x = some (.slice (some ⟨b, o, none⟩) m c)) (hl : ev e lo = some (.int k l)) (hh : ev e hi = some (.int k' h))
    (h0 : 0 ≤ l) (h1 : l ≤ h) (h2 : h ≤ c) :
    Val P ⟨d, .slice t x (some lo) (some hi) none, ty, pos, after, g⟩ n e Γ S w0 (.slice (some (if c = l.toNat then ⟨b, o, none⟩ else ⟨b, o + l.toNat * z, none⟩)) (h.toNat - l.toNat) (c - l.toNat)) := fun a w hf _ => by
  have e1 := run_sliceBound (P := P) (code := .sliceAcap) (y := c) (hf.eval hh) (by omega) h2 w
  have e2 := run_sliceBound (P := P) (code := .sliceB) (y := h.toNat) (hf.eval hl) h0 (by omega) w
  simp [execOp, hf.eval hx, Instr.sliceAt, Instr.slice, hu.run, Instr.sliceBounds, e1, e2, hz.run, Addr.add_mid]
  split <;> rfl

theorem val_slice_lo {b o m c : Nat} {lo : Operand} {l : Int} [hu : Und P t (.slice el)] [hz : Sz P el z] (hx : ev e x = some (.slice (some ⟨b, o, none⟩) m c)) (hl : ev e lo = some (.int k l))
    (h0 : 0 ≤ l) (h1 : l ≤ m) :
    Val P ⟨d, .slice t x (some lo) none none, ty, pos, after, g⟩ n e Γ S w0 (.slice (some (if c = l.toNat then ⟨b, o, none⟩ else ⟨b, o + l.toNat * z, none⟩)) (m - l.toNat) (c - l.toNat)) := fun a w hf _ => by
  have e2 := run_sliceBound (P := P) (code := .sliceB) (y := m) (hf.eval hl) h0 h1 w
  simp [execOp, hf.eval hx, Instr.sliceAt, Instr.slice, hu.run, Instr.sliceBounds, e2, hz.run, Addr.add_mid]
  split <;> rfl

theorem val_slice_hi {b o m c : Nat} {hi : Operand} {h : Int} [hu : Und P t (.slice el)] [hz : Sz P el z] (hx : ev e x = some (.slice (some ⟨b, o, none⟩) m c)) (hh : ev e hi = some (.int k h))
    (h0 : 0 ≤ h) (h1 : h ≤ c) :
    Val P ⟨d, .slice t x none (some hi) none, ty, pos, after, g⟩ n e Γ S w0 (.slice (some ⟨b, o, none⟩) h.toNat c) := fun a w hf _ => by
  have e2 := run_sliceBound (P := P) (code := .sliceAcap) (y := c) (hf.eval hh) h0 h1 w
  simp [execOp, hf.eval hx, Instr.sliceAt, Instr.slice, hu.run, Instr.sliceBounds, e2, hz.run, Addr.add]

theorem val_toArray {b o m c len : Nat} [hu : Und P t (.array len el)] (hx : ev e x = some (.slice (some ⟨b, o, none⟩) m c)) (hl : len ≤ m) :
    Val P ⟨d, .sliceToArrayPointer t x, ty, pos, after, g⟩ n e Γ S w0 (.pointer (some ⟨b, o, none⟩)) := fun a w hf _ => by
  have : ¬ m < len := by omega
  simp [execOp, hf.eval hx, Instr.arrayAt, hu.run, this]
end elems
end ops

attribute [irreducible] Val Rd
end Go.PK

/- The calculus' loud operations: what makes and writes memory; calls by contract; a function's end. -/
namespace Go.PK
attribute [local semireducible] Val Rd

/-! ## Slices that are read -/

inductive SlV (R : Nat → Nat → List Value → Prop) (sz : Nat) : Value → Nat → List Value → Prop
  | nil : SlV R sz (.slice none 0 0) 0 []
  | mk {b o m c : Nat} {vs : List Value} (hc : m ≤ c) (hr : R b o vs) (hl : vs.length = m * sz) : SlV R sz (.slice (some ⟨b, o, none⟩) m c) m vs

theorem SlV.mono {R R' : Nat → Nat → List Value → Prop} {sz v m vs} (h : SlV R sz v m vs) (hr : ∀ b o vs, R b o vs → R' b o vs) : SlV R' sz v m vs := by
  cases h with
  | nil => exact .nil
  | mk hc h1 hl => exact .mk hc (hr _ _ _ h1) hl

/-- In this world the slice v holds m elements, whose cells are vs. -/
abbrev SlAt (w : World) (sz : Nat) (v : Value) (m : Nat) (vs : List Value) : Prop := SlV w.rangeAt sz v m vs
abbrev SlRd (Γ : List Chunk) (S : List Nat) (w0 : World) (sz : Nat) (v : Value) (m : Nat) (vs : List Value) : Prop := SlV (Rd Γ S w0) sz v m vs

theorem SlV.at {Γ S w0 w sz v m vs} (h : SlRd Γ S w0 sz v m vs) (hm : Mem Γ S w0 w) : SlAt w sz v m vs := h.mono fun _ _ _ hr => hr w hm

def vIds : Value → List Nat
  | .slice (some a) _ _ => [a.block]
  | _ => []

/-- Nothing of the slice lies in these blocks. -/
def Sep (v : Value) (vs : List Value) (ids : List Nat) : Prop := vs = [] ∨ ∀ i ∈ vIds v, i ∉ ids

theorem SlV.len {R sz v m vs} (h : SlV R sz v m vs) : vs.length = m * sz := by
  cases h with
  | nil => simp
  | mk hc h1 hl => exact hl

/-- a slice of the world at the beginning -/
theorem SlV.old {Γ S w0 sz v m vs} (h : SlAt w0 sz v m vs) (hs : Sep v vs S) : SlRd Γ S w0 sz v m vs := by
  cases h with
  | nil => exact .nil
  | @mk b o m c vs hc hr hl =>
    refine .mk hc ?_ hl
    rcases hs with h0 | h0
    · subst h0; intro w _ j v hj; simp at hj
    · by_cases hv : vs = []
      · subst hv; intro w _ j v hj; simp at hj
      · exact Rd.old hr (rangeAt_lt hr hv) (h0 b (by simp [vIds]))

/-! ## How the heap turns -/

/-- One chunk in another's place. -/
inductive Put : Chunk → Chunk → List Chunk → List Chunk → Prop
  | head {c c' : Chunk} {r : List Chunk} : Put c c' (c :: r) (c' :: r)
  | tail {c c' x : Chunk} {r r' : List Chunk} (h : Put c c' r r') : Put c c' (x :: r) (x :: r')

theorem Put.mem {c c' Γ Γ'} (h : Put c c' Γ Γ') : c ∈ Γ := by induction h <;> simp_all
theorem Put.mem' {c c' Γ Γ'} (h : Put c c' Γ Γ') : ∀ x ∈ Γ', x = c' ∨ x ∈ Γ := by
  induction h with
  | head => intro x hx; simp at hx; rcases hx with rfl | hx <;> simp_all
  | tail h ih => intro x hx; simp at hx; rcases hx with rfl | hx; · simp
                 rcases ih x hx with h | h <;> simp [h]

theorem Put.split {c c' Γ Γ'} (h : Put c c' Γ Γ') : ∃ A B, Γ = A ++ c :: B ∧ Γ' = A ++ c' :: B := by
  induction h with
  | head => exact ⟨[], _, rfl, rfl⟩
  | @tail x r r' h ih => obtain ⟨A, B, rfl, rfl⟩ := ih; exact ⟨x :: A, B, rfl, rfl⟩

theorem Pick.split {c Γ Γ'} (h : Pick c Γ Γ') : ∃ A B, Γ = A ++ c :: B ∧ Γ' = A ++ B := by
  induction h with
  | head => exact ⟨[], _, rfl, rfl⟩
  | @tail x r r' h ih => obtain ⟨A, B, rfl, rfl⟩ := ih; exact ⟨x :: A, B, rfl, rfl⟩

/-- The general law: some chunks go, others come; what stays lies elsewhere. -/
theorem Mem.turn {Γ S w0 w w'} {A B Δ Δ' : List Chunk} (hm : Mem Γ S w0 w) (hΓ : Γ.Perm (Δ ++ A)) (hΓ' : B.Perm (Δ' ++ A))
    (ho : w'.os = w.os) (ht : w'.tape = w.tape) (hp : w'.output = w.output) (hz : w.heap.size ≤ w'.heap.size)
    (hb : ∀ k, k < w.heap.size → k ∉ idsOf Δ → w'.heap[k]? = w.heap[k]?)
    (hok : ∀ c ∈ Δ', c.ok w') (hnd : (idsOf Δ').Nodup) (hown : ∀ i ∈ idsOf Δ', i ∈ idsOf Δ ∨ w.heap.size ≤ i) : Mem B S w0 w' := by
  have hmem : ∀ i, i ∈ idsOf Γ ↔ i ∈ idsOf Δ ∨ i ∈ idsOf A := fun i => by
    have := (hΓ.flatMap_right Chunk.ids).mem_iff (a := i)
    simpa [idsOf, List.flatMap_append] using this
  have hmem' : ∀ i, i ∈ idsOf B ↔ i ∈ idsOf Δ' ∨ i ∈ idsOf A := fun i => by
    have := (hΓ'.flatMap_right Chunk.ids).mem_iff (a := i)
    simpa [idsOf, List.flatMap_append] using this
  have hn0 : (idsOf Δ ++ idsOf A).Nodup := by
    have := (hΓ.flatMap_right Chunk.ids).nodup_iff.1 hm.nodup
    simpa [idsOf, List.flatMap_append] using this
  have hA : ∀ i ∈ idsOf A, i < w.heap.size ∧ i ∉ idsOf Δ := fun i hi =>
    ⟨hm.lt i ((hmem i).2 (.inr hi)), fun h => (List.nodup_append.1 hn0).2.2 i h i hi rfl⟩
  refine ⟨fun c hc => ?_, ?_, fun i hi => ?_, ?_⟩
  · rcases List.mem_append.1 (hΓ'.mem_iff.1 hc) with h | h
    · exact hok c h
    · exact (hm.ok c (hΓ.mem_iff.2 (by simp [h]))).of_same fun i hi => by
        have := hA i (List.mem_flatMap.2 ⟨c, h, hi⟩)
        exact hb i this.1 this.2
  · have : (idsOf Δ' ++ idsOf A).Nodup := by
      refine List.nodup_append.2 ⟨hnd, (List.nodup_append.1 hn0).2.1, fun i hi j hj hij => ?_⟩
      subst hij
      rcases hown i hi with h | h
      · exact (hA i hj).2 h
      · exact Nat.lt_irrefl _ (Nat.lt_of_lt_of_le (hA i hj).1 h)
    have h2 := (hΓ'.flatMap_right Chunk.ids).nodup_iff
    rw [List.flatMap_append] at h2
    exact h2.2 this
  · rcases (hmem' i).1 hi with h | h
    · rcases hown i h with h' | h'
      · exact hm.own i ((hmem i).2 (.inl h'))
      · exact .inr (Nat.le_trans hm.same.size h')
    · exact hm.own i ((hmem i).2 (.inr h))
  · refine hm.same.trans (T := idsOf Δ) ⟨ho, ht, hp, hz, hb⟩ fun i hi => hm.own i ((hmem i).2 (.inl hi))

theorem Mem.new {Γ S w0 w} (hm : Mem Γ S w0 w) (q : List Seg) (ty : TypeId) (hq : SegsOk q) : Mem (.blk w.heap.size q ty :: Γ) S w0 (w.alloc (.cells (flat q).toArray ty)) :=
  hm.turn (Δ := []) (Δ' := [.blk w.heap.size q ty]) (A := Γ) (.refl _) (.refl _) rfl rfl rfl (by simp) (fun k hk _ => heap_alloc_old w _ k hk)
    (fun c hc => by simp at hc; subst hc; exact ⟨heap_alloc_new w _, hq⟩) (by simp [idsOf, Chunk.ids]) (fun i hi => by simp [idsOf, Chunk.ids] at hi; subst hi; exact .inr (Nat.le_refl _))

theorem Put.perm {c c' Γ Γ'} (h : Put c c' Γ Γ') : ∃ A, Γ.Perm ([c] ++ A) ∧ Γ'.Perm ([c'] ++ A) := by
  obtain ⟨A, B, rfl, rfl⟩ := h.split
  exact ⟨A ++ B, List.perm_middle, List.perm_middle⟩

/-- A block is written. -/
theorem Mem.setRow {Γ Γ' S w0 w b segs q ty} (hm : Mem Γ S w0 w) (hp : Put (.blk b segs ty) (.blk b q ty) Γ Γ') (hq : SegsOk q) : Mem Γ' S w0 (w.setRow b (flat q).toArray) := by
  obtain ⟨A, h1, h2⟩ := hp.perm
  have hb := (hm.ok _ hp.mem).1
  exact hm.turn h1 h2 rfl rfl rfl (by simp) (fun k _ hk => setRow_other w b k _ (by simpa [idsOf, Chunk.ids] using hk))
    (fun c hc => by simp at hc; subst hc; exact ⟨setRow_heap w b _ _ ty _ hb, hq⟩) (by simp [idsOf, Chunk.ids]) (fun i hi => by simp [idsOf, Chunk.ids] at hi ⊢; exact .inl hi)

/-- What a call leaves. -/
theorem Mem.frame {Γ S w0 w w'} {A B Δ Δ' : List Chunk} (hm : Mem Γ S w0 w) (hΓ : Γ.Perm (Δ ++ A)) (hΓ' : B.Perm (Δ' ++ A)) (h' : Mem Δ' (idsOf Δ) w w') : Mem B S w0 w' :=
  hm.turn hΓ hΓ' h'.same.os h'.same.tape h'.same.output h'.same.size h'.same.block h'.ok h'.nodup h'.own

theorem Mem.part {Γ S w0 w} {A Δ : List Chunk} (hm : Mem Γ S w0 w) (hΓ : Γ.Perm (Δ ++ A)) : Mem Δ (idsOf Δ) w w :=
  ⟨fun c hc => hm.ok c (hΓ.mem_iff.2 (by simp [hc])), by
    have := (hΓ.flatMap_right Chunk.ids).nodup_iff.1 hm.nodup
    rw [List.flatMap_append] at this
    exact (List.nodup_append.1 this).1, fun i hi => .inl hi, Same.refl _ _⟩

theorem Mem.perm {Γ Γ' S w0 w} (hm : Mem Γ S w0 w) (h : Γ.Perm Γ') : Mem Γ' S w0 w :=
  ⟨fun c hc => hm.ok c (h.mem_iff.2 hc), (h.flatMap_right Chunk.ids).nodup_iff.1 hm.nodup, fun i hi => hm.own i ((h.flatMap_right Chunk.ids).mem_iff.2 hi), hm.same⟩

/-- Knowledge let go. -/
theorem Mem.drop {Γ A Γ' S w0 w} (hm : Mem Γ S w0 w) (h : Γ.Perm (Γ' ++ A)) : Mem Γ' S w0 w := by
  have hm' := hm.perm h
  refine ⟨fun c hc => hm'.ok c (by simp [hc]), ?_, fun i hi => hm'.own i (by simp [idsOf, List.flatMap_append] at hi ⊢; exact .inl hi), hm.same⟩
  have := hm'.nodup
  simp only [idsOf, List.flatMap_append] at this
  exact (List.nodup_append.1 this).1

/-! ## Selecting chunks -/

/-- The chunks Δ are taken out of Γ; A is left. -/
inductive Take : List Chunk → List Chunk → List Chunk → Prop
  | nil {Γ : List Chunk} : Take [] Γ Γ
  | cons {c : Chunk} {Δ Γ Γ' A : List Chunk} (h : Pick c Γ Γ') (ht : Take Δ Γ' A) : Take (c :: Δ) Γ A

theorem Take.perm {Δ Γ A} (h : Take Δ Γ A) : Γ.Perm (Δ ++ A) := by
  induction h with
  | nil => exact .refl _
  | cons h _ ih => exact h.perm.trans (ih.cons _)

section rules
variable {P : Program} {Q : Exit → Act → World → Prop} {n : Nat} {e : Env} {Γ Γ' : List Chunk} {S : List Nat} {w0 : World} {ops : Array Oper} {rest : List Oper}
  {d : Nat} {dn : Option Nat} {ty : TypeId} {pos : String} {after : Array Edge} {g : Option (Nat × Bool)}

theorem WL_drop {c : Chunk} (hp : Pick c Γ Γ') (h : WL P ops Q rest n e Γ' S w0) : WL P ops Q rest n e Γ S w0 := fun a w st =>
  h a w ⟨st.fits, st.mem.drop (A := [c]) (hp.perm.trans (List.perm_append_comm (l₁ := [c])))⟩
theorem WC_drop {c : Chunk} {x : Code} (hp : Pick c Γ Γ') (h : WC P x Q n e Γ' S w0) : WC P x Q n e Γ S w0 := fun a w st =>
  h a w ⟨st.fits, st.mem.drop (A := [c]) (hp.perm.trans (List.perm_append_comm (l₁ := [c])))⟩
theorem WC_take {Δ A : List Chunk} {x : Code} (ht : Take Δ Γ A) (h : WC P x Q n e Δ S w0) : WC P x Q n e Γ S w0 := fun a w st =>
  h a w ⟨st.fits, st.mem.drop ht.perm⟩
theorem QX_take {Δ A : List Chunk} {x : Exit} (ht : Take Δ Γ A) (h : QX x Q n e Δ S w0) : QX x Q n e Γ S w0 := fun a w st =>
  h a w ⟨st.fits, st.mem.drop ht.perm⟩

theorem WL_loud {o : Oper} (hw : wantedE ops e o.guard = some true) (h : ∀ a w, St n e Γ S w0 a w → o.wp P a w (wpList P ops Q rest) Q) : WL P ops Q (o :: rest) n e Γ S w0 := fun a w st => by
  unfold wpList
  rw [if_pos (wantedE.spec st.fits hw)]
  exact .inl (h a w st)

theorem WL_alloc {t : TypeId} {q : List Seg} [hz : Zer P t q] (hw : wantedE ops e g = some true) (hd : Nat.blt d n = true)
    (h : ∀ b, WL P ops Q rest n ((d, .pointer (some ⟨b, 0, none⟩)) :: e) (.blk b q t :: Γ) S w0) : WL P ops Q (⟨some d, .alloc t, ty, pos, after, g⟩ :: rest) n e Γ S w0 :=
  WL_loud hw fun a w st => by
    have hz' := hz.h
    cases hi : P.info? t with
    | none => simp [hi] at hz'
    | some i =>
      cases hzz : i.zero with
      | none => simp [hi, hzz] at hz'
      | some z =>
        simp [hi, hzz] at hz'
        have hr : (execOp a.eval ⟨some d, .alloc t, ty, pos, after, g⟩).run P w = .ok (.value (.pointer (some ⟨w.heap.size, 0, none⟩))) (w.alloc (.cells (flat q).toArray t)) := by
          simp [execOp, Instr.alloc, zeroValue, typeInfo, hi, hzz, newVar, newRow, hz']
        unfold Oper.wp
        rw [hr, Oper.upon_value]
        exact h _ _ _ ⟨st.fits.put (Nat.le_of_ble_eq_true hd), st.mem.new q t hz.ok⟩

theorem WL_box_agg {t : TypeId} {x : Operand} {q : List Seg} (hw : wantedE ops e g = some true) (hd : Nat.blt d n = true) (hx : ev e x = some (aggS q)) (hq : SegsOk q)
    (h : ∀ b, WL P ops Q rest n ((d, .pointer (some ⟨b, 0, none⟩)) :: e) (.blk b q t :: Γ) S w0) : WL P ops Q (⟨some d, .box t x, ty, pos, after, g⟩ :: rest) n e Γ S w0 :=
  WL_loud hw fun a w st => by
    have hr : (execOp a.eval ⟨some d, .box t x, ty, pos, after, g⟩).run P w = .ok (.value (.pointer (some ⟨w.heap.size, 0, none⟩))) (w.alloc (.cells (flat q).toArray t)) := by
      simp [execOp, Instr.box, st.fits.eval hx, aggS, newVar, newRow, Value.cells]
    unfold Oper.wp
    rw [hr, Oper.upon_value]
    exact h _ _ _ ⟨st.fits.put (Nat.le_of_ble_eq_true hd), st.mem.new q t hq⟩

theorem WL_box {t : TypeId} {x : Operand} {v : Value} (hw : wantedE ops e g = some true) (hd : Nat.blt d n = true) (hx : ev e x = some v) (hv : v.oneCell' = true)
    (h : ∀ b, WL P ops Q rest n ((d, .pointer (some ⟨b, 0, none⟩)) :: e) (.blk b [(1, [v])] t :: Γ) S w0) : WL P ops Q (⟨some d, .box t x, ty, pos, after, g⟩ :: rest) n e Γ S w0 :=
  WL_loud hw fun a w st => by
    have hc : v.cells = #[v] := by cases v <;> first | rfl | cases hv
    have hr : (execOp a.eval ⟨some d, .box t x, ty, pos, after, g⟩).run P w = .ok (.value (.pointer (some ⟨w.heap.size, 0, none⟩))) (w.alloc (.cells (flat [(1, [v])]).toArray t)) := by
      simp [execOp, Instr.box, st.fits.eval hx, newVar, newRow, hc, flat]
    unfold Oper.wp
    rw [hr, Oper.upon_value]
    have : SegOk (1, [v]) := ⟨rfl, fun u hu => by simp at hu; subst hu; exact hv⟩
    exact h _ _ _ ⟨st.fits.put (Nat.le_of_ble_eq_true hd), st.mem.new [(1, [v])] t inferInstance⟩

theorem takeSpan_some : ∀ (s : List Seg) (o : Nat), o ≤ width s → ∃ q, takeSpan s o = some q
  | [], o, h => by simp [width] at h; subst h; exact ⟨[], rfl⟩
  | (l, vs) :: r, o, h => by
    unfold takeSpan
    split
    · exact ⟨_, rfl⟩
    · split
      · rename_i hb
        have : l ≤ o := Nat.le_of_ble_eq_true hb
        obtain ⟨q, hq⟩ := takeSpan_some r (o - l) (by simp [width] at h; omega)
        rw [hq]; exact ⟨_, rfl⟩
      · exact ⟨_, rfl⟩

theorem putSpan_spec {s : List Seg} {o k : Nat} {new : List Seg} (hs : SegsOk s) (hn : SegsOk new) (hw : width new = k) (hl : o + k ≤ width s) :
    SegsOk (putSpan s o k new) ∧ flat (putSpan s o k new) = (flat s).take o ++ flat new ++ (flat s).drop (o + k) ∧ width (putSpan s o k new) = width s := by
  obtain ⟨q, hq⟩ := takeSpan_some s o (by omega)
  obtain ⟨h1, h2, h3, h4⟩ := takeSpan_spec s o q hs hq
  obtain ⟨d1, d2, d3⟩ := dropSpan_spec s (o + k) hs
  have hf : flat (putSpan s o k new) = (flat s).take o ++ flat new ++ (flat s).drop (o + k) := by
    simp only [putSpan, hq, flat_append, h3, d2, List.append_assoc]
  have hok : SegsOk (putSpan s o k new) := by
    simp only [putSpan, hq]; exact h1.append (hn.append d1)
  refine ⟨hok, hf, ?_⟩
  rw [← flat_length _ hok, hf]
  simp [flat_length _ hs, flat_length _ hn]
  omega

/-- `s'` is `s`, the `k` cells from `o` on exchanged for `new`. -/
structure PutOk (s : List Seg) (o k : Nat) (new s' : List Seg) : Prop where
  ok : SegsOk s'
  eq : flat s' = (flat s).take o ++ flat new ++ (flat s).drop (o + k)
  le : o + k ≤ width s

/-- The same, by search. -/
inductive PutSeg : List Seg → Nat → Nat → List Seg → List Seg → Prop
  | one {k : Nat} {vs vs' : List Value} {r : List Seg} : PutSeg ((k, vs) :: r) 0 k [(k, vs')] ((k, vs') :: r)
  | skip {l : Nat} {vs : List Value} {r r' new : List Seg} {o k : Nat} (h : PutSeg r o k new r') : PutSeg ((l, vs) :: r) (o + l) k new ((l, vs) :: r')
  | next {l : Nat} {vs vs' : List Value} {r r' new : List Seg} {k : Nat} (h : PutSeg r 0 k new r') : PutSeg ((l, vs) :: r) 0 (k + l) ((l, vs') :: new) ((l, vs') :: r')
  | inner {l : Nat} {vs us : List Value} {r : List Seg} {o k : Nat} (h : Nat.ble (o + k) l = true) : PutSeg ((l, vs) :: r) o k [(k, us)] ((l, vs.take o ++ us ++ vs.drop (o + k)) :: r)

theorem PutSeg.spec {s new s' : List Seg} {o k : Nat} (h : PutSeg s o k new s') (hs : SegsOk s) (hn : SegsOk new) : PutOk s o k new s' ∧ width new = k := by
  induction h with
  | @one k vs vs' r =>
    have h1 := hs.head
    have h2 := hn.head
    have h3 : SegsOk r := hs.tail
    refine ⟨⟨inferInstance, ?_, by simp [width]⟩, rfl⟩
    have := h1.len
    simp only [flat, List.take_zero, List.nil_append, List.append_nil, Nat.zero_add]
    rw [List.drop_append, List.drop_eq_nil_of_le (as := vs) (by simp at this; omega)]
    simp at this
    simp [this]
  | @skip l vs r r' new o k h ih =>
    obtain ⟨⟨i1, i2, i3⟩, i4⟩ := ih hs.tail hn
    have h1 := hs.head
    have hl : vs.length = l := h1.len
    refine ⟨⟨inferInstance, ?_, by simp only [width]; omega⟩, i4⟩
    simp only [flat, i2]
    rw [List.take_append, List.drop_append, List.take_of_length_le (l := vs) (by omega), List.drop_eq_nil_of_le (as := vs) (by omega), hl,
      show o + l - l = o from by omega, show o + l + k - l = o + k from by omega]
    simp
  | @next l vs vs' r r' new k h ih =>
    obtain ⟨⟨i1, i2, i3⟩, i4⟩ := ih hs.tail hn.tail
    have h1 := hs.head
    have h2 := hn.head
    have hl : vs.length = l := h1.len
    refine ⟨⟨inferInstance, ?_, by simp only [width]; omega⟩, by simp only [width]; omega⟩
    simp only [flat, i2, List.take_zero, List.nil_append, Nat.zero_add]
    rw [List.drop_append, List.drop_eq_nil_of_le (as := vs) (by omega), hl, show k + l - l = k from by omega]
    simp
  | @inner l vs us r o k h =>
    have h1 := hs.head
    have h2 := hn.head
    have h3 : SegsOk r := hs.tail
    have hl : vs.length = l := h1.len
    have hu : us.length = k := h2.len
    have hb : o + k ≤ l := Nat.le_of_ble_eq_true h
    have : SegOk (l, vs.take o ++ us ++ vs.drop (o + k)) := ⟨by simp; omega, fun v hv => by
      simp only [List.mem_append] at hv
      rcases hv with (hv | hv) | hv
      · exact h1.one v (List.mem_of_mem_take hv)
      · exact h2.one v hv
      · exact h1.one v (List.mem_of_mem_drop hv)⟩
    refine ⟨⟨inferInstance, ?_, by simp only [width]; omega⟩, rfl⟩
    simp only [flat, List.append_nil]
    rw [List.take_append, List.drop_append, show o - vs.length = 0 from by omega, show o + k - vs.length = 0 from by omega]
    simp

theorem run_storeAt_row {w : World} {b o : Nat} {cur : List Value} {bt t : TypeId} {v : Value} {vs : List Value} (hb : w.heap[b]? = some (.cells cur.toArray bt (0, 0))) (hsz : (P.info? t).map (·.size) = some vs.length)
    (hv : v.cells = vs.toArray) (h1 : ∀ x ∈ vs, x.oneCell' = true) (hl : o + vs.length ≤ cur.length) :
    (Instr.storeAt t (.pointer (some ⟨b, o, none⟩)) v).run P w = .ok () (w.setRow b (cur.take o ++ vs ++ cur.drop (o + vs.length)).toArray) := by
  have := run_storeCells_at P b o bt vs 0 cur.toArray w hb (by simpa using hl) h1
  simp only [Nat.add_zero] at this
  cases hi : P.info? t with
  | none => simp [hi] at hsz
  | some i =>
    simp [hi] at hsz
    simp [Instr.storeAt, Instr.sureAddr, storeVar, hv, sizeOf, typeInfo, hi, hsz, this]

theorem WL_store_blk {t : TypeId} {x y : Operand} {b o k : Nat} {segs new segs' : List Seg} {bt : TypeId} {v : Value} [hsz : Sz P t k] (hw : wantedE ops e g = some true)
    (hx : ev e x = some (.pointer (some ⟨b, o, none⟩))) (hy : ev e y = some v) (hv : v.cells = (flat new).toArray) (hn : SegsOk new)
    (hp : Put (.blk b segs bt) (.blk b segs' bt) Γ Γ') (hq : PutSeg segs o k new segs') (h : WL P ops Q rest n e Γ' S w0) :
    WL P ops Q (⟨none, .store t x y, ty, pos, after, g⟩ :: rest) n e Γ S w0 :=
  WL_loud hw fun a w st => by
    obtain ⟨hb, hs⟩ := st.mem.ok _ hp.mem
    obtain ⟨⟨p1, p2, p3⟩, hk⟩ := hq.spec hs hn
    have hlen : (flat new).length = k := by rw [flat_length new hn, hk]
    have hr := run_storeAt_row (P := P) (t := t) (v := v) (vs := flat new) (o := o) hb (by rw [hlen]; exact hsz.h) hv (flat_one new hn) (by rw [hlen, flat_length segs hs]; exact p3)
    rw [hlen, ← p2] at hr
    unfold Oper.wp
    have : (execOp a.eval ⟨none, .store t x y, ty, pos, after, g⟩).run P w = .ok .skip (w.setRow b (flat segs').toArray) := by
      simp [execOp, st.fits.eval hx, st.fits.eval hy, hr]
    rw [this, Oper.upon_skip]
    exact h _ _ ⟨st.fits, st.mem.setRow hp p1⟩

/-- one cell -/
theorem WL_store {t : TypeId} {x y : Operand} {b o : Nat} {segs segs' : List Seg} {bt : TypeId} {v : Value} [hsz : Sz P t 1] (hw : wantedE ops e g = some true)
    (hx : ev e x = some (.pointer (some ⟨b, o, none⟩))) (hy : ev e y = some v) (hv : v.oneCell' = true)
    (hp : Put (.blk b segs bt) (.blk b segs' bt) Γ Γ') (hq : PutSeg segs o 1 [(1, [v])] segs') (h : WL P ops Q rest n e Γ' S w0) :
    WL P ops Q (⟨none, .store t x y, ty, pos, after, g⟩ :: rest) n e Γ S w0 := by
  have : SegOk (1, [v]) := ⟨rfl, fun u hu => by simp at hu; subst hu; exact hv⟩
  have hc : v.cells = #[v] := by cases v <;> first | rfl | cases hv
  exact WL_store_blk (new := [(1, [v])]) hw hx hy (by simp [hc, flat]) inferInstance hp hq h

theorem WL_store_agg {t : TypeId} {x y : Operand} {b o k : Nat} {segs segs' q : List Seg} {bt : TypeId} [hsz : Sz P t k] [hn : SegsOk q] (hw : wantedE ops e g = some true)
    (hx : ev e x = some (.pointer (some ⟨b, o, none⟩))) (hy : ev e y = some (aggS q))
    (hp : Put (.blk b segs bt) (.blk b segs' bt) Γ Γ') (hq : PutSeg segs o k q segs') (h : WL P ops Q rest n e Γ' S w0) :
    WL P ops Q (⟨none, .store t x y, ty, pos, after, g⟩ :: rest) n e Γ S w0 :=
  WL_store_blk hw hx hy rfl hn hp hq h

end rules
end Go.PK

/- The calculus: append, make, slice literals, copy; calls by contract; a function's end. -/
namespace Go.PK
attribute [local semireducible] Val Rd

/-! ## Leaving a function -/

/-- (Nothing is asked: a word that elder texts bear.) -/
class Outs (Q : Exit → Act → World → Prop) : Prop where
  h : True
instance {Q : Exit → Act → World → Prop} : Outs Q := ⟨trivial⟩

/-! ## Calls -/

/-- A function that is entered when it is called. -/
class CallOk (P : Program) (f : FuncId) : Prop where
  h : ((P.funcs[f]?).map fun fn => fn.name == "runtime.NumGoroutine" || fn.body.isNone) = some false

theorem CallOk.run {P : Program} {f : FuncId} [h : CallOk P f] (args : Array Value) (w : World) : (callFunc f args).run P w = .ok (.enter f args) w := by
  have hh := h.h
  cases hf : P.funcs[f]? with
  | none => simp [hf] at hh
  | some fn =>
    simp only [hf, Option.map_some, Option.some.injEq, Bool.or_eq_false_iff] at hh
    obtain ⟨h1, h2⟩ := hh
    simp only [callFunc, Sem.run_bind, run_program, Result.andThen_ok, hf, h1, h2, Bool.false_eq_true, if_false, Sem.run_pure]

def evs (e : Env) : List Operand → Option (List Value)
  | [] => some []
  | x :: r => match ev e x with
    | some v => match evs e r with
      | some vs => some (v :: vs)
      | none => none
    | none => none

theorem evs.spec {n e a} (hf : Fits n e a) : ∀ (l : List Operand) (vs : List Value), evs e l = some vs → l.map a.eval = vs
  | [], vs, h => by cases h; rfl
  | x :: r, vs, h => by
    unfold evs at h
    split at h
    · rename_i v hv
      split at h
      · rename_i us hus
        cases h
        simp only [List.map_cons, hf.eval hv, evs.spec hf r us hus]
      · cases h
    · cases h

section rules
variable {P : Program} {Q : Exit → Act → World → Prop} {n : Nat} {e : Env} {Γ Γ' : List Chunk} {S : List Nat} {w0 : World} {ops : Array Oper} {rest : List Oper}
  {d : Nat} {dn : Option Nat} {ty : TypeId} {pos : String} {after : Array Edge} {g : Option (Nat × Bool)}

theorem run_call {f : FuncId} {l : List Operand} {ts : Array TypeId} {vs : List Value} [hc : CallOk P f] {a : Act} (hf : Fits n e a) (hargs : evs e l = some vs) (w : World) :
    (execOp a.eval ⟨dn, .call ⟨.value (.func f), l.toArray, ts⟩, ty, pos, after, g⟩).run P w = .ok (.enter f vs.toArray) w := by
  have h1 := evs.spec hf l vs hargs
  have h2 := hc.run vs.toArray w
  simp only [execOp, resolve, Act.eval, Deferred.ofValue, List.map_toArray, Sem.run_bind, Sem.run_pure, Result.andThen_ok, invoke, List.append_toArray, List.nil_append, List.append_nil]
  rw [show (List.map (fun x => a.eval x) l) = vs from h1]
  exact h2

/-- A call, whatever its contract; the result goes into a slot. -/
theorem WL_callWith {f : FuncId} {l : List Operand} {ts : Array TypeId} {vs : List Value} [CallOk P f] [Outs Q] (hw : wantedE ops e g = some true) (hargs : evs e l = some vs)
    (h : ∀ w, Mem Γ S w0 w → Calls P f vs.toArray w (Ret fun v w' => ∀ a, Fits n e a → wpList P ops Q rest (a.put dn v) w')) :
    WL P ops Q (⟨dn, .call ⟨.value (.func f), l.toArray, ts⟩, ty, pos, after, g⟩ :: rest) n e Γ S w0 :=
  WL_loud hw fun a w st => by
    unfold Oper.wp
    rw [run_call st.fits hargs, Oper.upon_enter]
    refine (h w st.mem).mono fun en w' hr => ?_
    cases en with
    | returned v => exact hr a st.fits
    | panicked c => exact hr.elim
    | outgrown => exact hr.elim

/-- What a contract says of the call's end: for some ghost, this value, these chunks; else all is as it was but the chunks that were handed over. -/
abbrev Gives {G : Type} (facts : G → Prop) (V : G → Value) (Δ' : G → List Chunk) (ids : List Nat) (w : World) : Ending → World → Prop :=
  Ret fun v w' => ∃ x, facts x ∧ v = V x ∧ Mem (Δ' x) ids w w'

/-- A call by contract: the chunks Δ are handed over, A stays. -/
theorem WL_call {G : Type} {facts : G → Prop} {V : G → Value} {Δ' : G → List Chunk} {f : FuncId} {l : List Operand} {ts : Array TypeId} {vs : List Value} {Δ A : List Chunk} [CallOk P f] [Outs Q]
    (hw : wantedE ops e g = some true) (hd : Nat.blt d n = true) (hargs : evs e l = some vs) (hΔ : Take Δ Γ A)
    (hspec : ∀ w, Mem Γ S w0 w → Mem Δ (idsOf Δ) w w → Calls P f vs.toArray w (Gives facts V Δ' (idsOf Δ) w))
    (h : ∀ x, facts x → WL P ops Q rest n ((d, V x) :: e) (Δ' x ++ A) S w0) :
    WL P ops Q (⟨some d, .call ⟨.value (.func f), l.toArray, ts⟩, ty, pos, after, g⟩ :: rest) n e Γ S w0 :=
  WL_callWith hw hargs fun w hm => (hspec w hm (hm.part hΔ.perm)).mono fun en w' hr => by
    cases en with
    | returned v =>
      obtain ⟨x, hx, rfl, hm'⟩ := hr
      exact fun a hf => h x hx _ _ ⟨hf.put (Nat.le_of_ble_eq_true hd), hm.frame hΔ.perm (.refl _) hm'⟩
    | panicked c => exact hr.elim
    | outgrown => exact hr.elim

theorem Mem.away {Γ S w0 w Δ A} (hm : Mem Γ S w0 w) (hΔ : Take Δ Γ A) {i : Nat} (hi : i ∈ idsOf A) : i ∉ idsOf Δ := fun h => by
  have hn := (hΔ.perm.flatMap_right Chunk.ids).nodup_iff.1 hm.nodup
  rw [List.flatMap_append] at hn
  exact (List.nodup_append.1 hn).2.2 i h i hi rfl

theorem Mem.awayOld {Γ S w0 w Δ A} (hm : Mem Γ S w0 w) (hΔ : Take Δ Γ A) {i : Nat} (hi : i < w0.heap.size) (hS : i ∉ S) : i ∉ idsOf Δ := fun h => by
  have : i ∈ idsOf Γ := (hΔ.perm.flatMap_right Chunk.ids).mem_iff.2 (by rw [List.flatMap_append]; exact List.mem_append.2 (.inl h))
  rcases hm.own i this with h' | h'
  · exact hS h'
  · omega

/-! ## append -/

theorem Chunk.sl_ids {v : Value} {m : Nat} {xs : List Value} {ty : TypeId} {sz : Nat} : (Chunk.sl v m xs ty sz).ids = v.ownBlock.toList := by
  cases v <;> first | rfl | (rename_i a _ _; cases a <;> rfl)

theorem run_append_any {w : World} {t el : TypeId} {sz by_ : Nat} {v v' : Value} {m m' : Nat} {xs news : List Value} [hu : Und P t (.slice el)] [hz : Sz P el sz] [hb : Bts P el by_] {q : List Seg} [hze : Zer P el q] (hqw : width q = sz) (hpos : 0 < sz)
    (hown : w.ownsRow 0 el sz v m xs) (hs : SlAt w sz v' m' news) (h1 : ∀ u ∈ news, u.oneCell' = true) (hbytes : (m + m') * by_ ≤ 140737488355328) (h63 : m + m' ≤ maxLen) :
    ∃ u w', (Builtin.append_ #[t, t] ty #[v, v']).run P w = .ok u w' ∧ w'.ownsRow 0 el sz u (m + m') (xs ++ news) ∧ w.grownBy w' v.ownBlock ∧ (u.ownBlock = v.ownBlock ∨ u.ownBlock = some w.heap.size) := by
  have hu' := hu.h
  have hz' := hz.h
  have hb' := hb.h
  have hze' := hze.h
  cases hi : P.info? el with
  | none => simp [hi] at hz'
  | some i =>
    simp [hi] at hz' hb' hze'
    cases hzz : i.zero with
    | none => simp [hzz] at hze'
    | some z =>
      simp [hzz] at hze'
      have hzs : z.cells.size = sz := by rw [hze']; simp [flat_length q hze.ok, hqw]
      cases hs with
      | nil =>
        refine ⟨v, w, run_append_owned_none (P := P) (w := w) 0 t ty el i sz hu' hi v m xs hown, by simpa using hown, ⟨rfl, rfl, rfl, Nat.le_refl _, fun _ _ _ => rfl⟩, .inl rfl⟩
      | @mk b o _ c _ hc hr hl =>
        have hcells : ∀ j u, news[j]? = some u → w.cell? ((⟨b, o, none⟩ : Addr).add j) = some u := fun j u hj => by rw [Addr.add_mid]; exact hr j u hj
        obtain ⟨u, w', e1, e2, e3, e4⟩ := run_append_own (P := P) w 0 t ty el i z sz by_ hu' hi hzz hz' hb' hzs hpos v m xs hown ⟨b, o, none⟩ m' c news hl hcells h1 h63 hbytes (Nat.zero_le _)
        refine ⟨u, w', e1, e2, e3, ?_⟩
        subst hz' hb'
        have h63' : m + m' ≤ 9223372036854775807 := by simp only [maxLen] at h63; omega
        rcases hown.2 with ⟨rfl, rfl⟩ | ⟨gb, cap, cur, rfl, _, hg, hnc, _, hcs, _⟩
        · by_cases hm0 : m' = 0
          · exact .inl (by rw [e4.2 ⟨rfl, hm0⟩])
          · have hr' := run_append_nil (P := P) w t ty el i z hu' hi hzz ⟨b, o, none⟩ m' c news hl hcells (by omega) (by omega) (by simp only [Nat.zero_add] at hbytes; omega)
            rw [hr'] at e1
            injection e1 with e1 _
            subst e1
            exact .inr rfl
        · by_cases hroom : m + m' ≤ cap
          · have hfit : m * i.size + news.length ≤ cur.size := by rw [hl, hcs, ← Nat.add_mul]; exact Nat.mul_le_mul_right _ hroom
            have hr' := run_append_room (P := P) w t ty el i hu' hi gb m cap cur hg ⟨b, o, none⟩ m' c news hl hcells h1 hroom hfit
            rw [hr'] at e1
            injection e1 with e1 _
            subst e1
            exact .inl rfl
          · have holds : ∀ j u, xs[j]? = some u → w.cell? ((⟨gb, 0, none⟩ : Addr).add j) = some u := hown.cells (g := gb) rfl
            have hr' := run_append_grow (P := P) w t ty el i z hu' hi hzz ⟨gb, 0, none⟩ m cap xs hown.1 holds ⟨b, o, none⟩ m' c news hl hcells (by omega) (by omega) (growslice_fits (by omega) hbytes)
            rw [hr'] at e1
            injection e1 with e1 _
            subst e1
            exact .inr rfl

/-- `append(s, x...)`: s is the call's own. -/
theorem WL_append {t el : TypeId} {x y : Operand} {sz by_ : Nat} {v v' : Value} {m m' : Nat} {xs news : List Value} [Und P t (.slice el)] [Sz P el sz] [Bts P el by_] {q : List Seg} [Zer P el q]
    (hw : wantedE ops e g = some true) (hd : Nat.blt d n = true) (hx : ev e x = some v) (hy : ev e y = some v') (hqw : Nat.beq (width q) sz = true) (hpos : Nat.blt 0 sz = true)
    (hp : Pick (.sl v m xs el sz) Γ Γ') (hs : SlRd Γ S w0 sz v' m' news) (h1 : ∀ u ∈ news, u.oneCell' = true) (hbytes : (m + m') * by_ ≤ 140737488355328) (h63 : m + m' ≤ 140737488355328)
    (h : ∀ p c, WL P ops Q rest n ((d, .slice p (m + m') c) :: e) (.sl (.slice p (m + m') c) (m + m') (xs ++ news) el sz :: Γ') S w0) :
    WL P ops Q (⟨some d, .call ⟨.builtin .append, #[x, y], #[t, t]⟩, ty, pos, after, g⟩ :: rest) n e Γ S w0 :=
  WL_loud hw fun a w st => by
    obtain ⟨hown, hone⟩ := st.mem.ok _ hp.mem
    obtain ⟨u, w', e1, e2, e3, e4⟩ := run_append_any (P := P) (ty := ty) (t := t) (Nat.eq_of_beq_eq_true hqw) (Nat.le_of_ble_eq_true hpos) hown (hs.at st.mem) h1 hbytes (by unfold maxLen; omega)
    obtain ⟨p, c, rfl⟩ : ∃ p c, u = .slice p (m + m') c := by
      rcases e2.2 with ⟨rfl, h0⟩ | ⟨gg, cap, cur, rfl, _⟩
      · exact ⟨none, 0, by rw [h0]⟩
      · exact ⟨_, _, rfl⟩
    unfold Oper.wp
    have hr : (execOp a.eval ⟨some d, .call ⟨.builtin .append, #[x, y], #[t, t]⟩, ty, pos, after, g⟩).run P w = .ok (.value (.slice p (m + m') c)) w' := by
      simp only [execOp, resolve, Sem.run_bind, Sem.run_pure, Result.andThen_ok, invoke, builtin, List.map_toArray, List.map_cons, List.map_nil, st.fits.eval hx, st.fits.eval hy, e1]
    rw [hr, Oper.upon_value]
    refine h p c _ _ ⟨st.fits.put (Nat.le_of_ble_eq_true hd), ?_⟩
    refine st.mem.turn (Δ := [.sl v m xs el sz]) (Δ' := [.sl (.slice p (m + m') c) (m + m') (xs ++ news) el sz]) (A := Γ') hp.perm (.refl _) e3.os e3.tape e3.output e3.size (fun k hk hn => e3.block k hk fun he => hn ?_) (fun c hc => ?_) ?_ (fun i hi => ?_)
    · simp [idsOf, Chunk.sl_ids, ← he]
    · simp at hc; subst hc
      exact ⟨e2, fun z hz => (List.mem_append.1 hz).elim (hone z) (h1 z)⟩
    · simp only [idsOf, List.flatMap_cons, List.flatMap_nil, List.append_nil, Chunk.sl_ids]
      cases (Value.slice p (m + m') c).ownBlock <;> simp
    · simp only [idsOf, List.flatMap_cons, List.flatMap_nil, List.append_nil, Chunk.sl_ids, Option.mem_toList] at hi ⊢
      rcases e4 with e4 | e4
      · exact .inl (e4 ▸ hi)
      · rw [e4] at hi; cases hi; exact .inr (Nat.le_refl _)

/-! ## make, slice literals, copy -/

theorem flat_replicate (q : List Seg) : ∀ k, SegsOk q → SegsOk [(k * width q, (List.replicate k (flat q)).flatten)]
  | k, hq => by
    have : SegOk (k * width q, (List.replicate k (flat q)).flatten) := ⟨by simp [flat_length q hq], fun v hv => by
      simp only [List.mem_flatten, List.mem_replicate] at hv
      obtain ⟨l, ⟨_, rfl⟩, hv⟩ := hv
      exact flat_one q hq v hv⟩
    exact inferInstance

theorem madeCells_eq (z : Array Value) (hz : 0 < z.size) (k : Nat) : madeCells z (k * z.size) = ((List.replicate k z.toList).flatten).toArray := by
  apply Array.ext
  · simp [size_madeCells]
  · intro i h1 h2
    simp only [size_madeCells] at h1
    have hlt : i % z.size < z.size := Nat.mod_lt _ hz
    have e1 : (madeCells z (k * z.size))[i] = z[i % z.size] := by simp [madeCells, hlt]
    rw [e1]
    simp only [List.getElem_toArray]
    have key : ∀ (k i : Nat) (h : i < ((List.replicate k z.toList).flatten).length), ((List.replicate k z.toList).flatten)[i] = z[i % z.size]'(Nat.mod_lt _ hz) := by
      intro k
      induction k with
      | zero => intro i h; simp at h
      | succ k ih =>
        intro i h
        simp only [List.replicate_succ, List.flatten_cons] at h ⊢
        by_cases hi : i < z.size
        · rw [List.getElem_append_left (by simpa using hi)]
          simp [Nat.mod_eq_of_lt hi]
        · rw [List.getElem_append_right (by simpa using hi)]
          rw [ih]
          congr 1
          simp only [Array.length_toList]
          exact (Nat.mod_eq_sub_mod (by omega)).symm
    exact (key k i (by simpa using h1)).symm

theorem WL_make {t el : TypeId} {x y : Operand} {k k' : IntKind} {m sz by_ : Nat} {i j : Int} [hu : Und P t (.slice el)] [hz : Sz P el sz] [hb : Bts P el by_] {q : List Seg} [hze : Zer P el q]
    (hw : wantedE ops e g = some true) (hd : Nat.blt d n = true) (hx : ev e x = some (.int k i)) (hy : ev e y = some (.int k' j)) (hi : i = m) (hj : j = m) (hqw : Nat.beq (width q) sz = true) (hpos : Nat.blt 0 sz = true)
    (hbytes : m * by_ ≤ 281474976710656) (h63 : m ≤ 9223372036854775807)
    (h : ∀ b, WL P ops Q rest n ((d, .slice (some ⟨b, 0, none⟩) m m) :: e) (.blk b [(m * sz, (List.replicate m (flat q)).flatten)] el :: Γ) S w0) :
    WL P ops Q (⟨some d, .makeSlice t x y, ty, pos, after, g⟩ :: rest) n e Γ S w0 :=
  WL_loud hw fun a w st => by
    have hu' := hu.h
    have hz' := hz.h
    have hb' := hb.h
    have hze' := hze.h
    have hqw' := Nat.eq_of_beq_eq_true hqw
    have hpos' : 0 < sz := Nat.le_of_ble_eq_true hpos
    cases hie : P.info? el with
    | none => simp [hie] at hz'
    | some ie =>
      simp [hie] at hz' hb' hze'
      cases hzz : ie.zero with
      | none => simp [hzz] at hze'
      | some z =>
        simp [hzz] at hze'
        have hzs : z.cells.size = sz := by rw [hze']; simp [flat_length q hze.ok, hqw']
        have h9 : ((m * by_ : Nat) : Int) ≤ 281474976710656 := by omega
        have hr := run_make (P := P) w t el ie z hu' hie hzz k k' i j (by omega) (by omega) (by rw [hb', hj, Int.mul_comm]; rwa [Int.natCast_mul] at h9) (by omega)
        have hm : j.toNat = m := by omega
        have hm' : i.toNat = m := by omega
        rw [hm, hm', hz', ← hzs, madeCells_eq _ (by omega), hze'] at hr
        unfold Oper.wp
        have hr' : (execOp a.eval ⟨some d, .makeSlice t x y, ty, pos, after, g⟩).run P w = .ok (.value (.slice (some ⟨w.heap.size, 0, none⟩) m m)) (w.alloc (.cells (flat [(m * sz, (List.replicate m (flat q)).flatten)]).toArray el)) := by
          simp only [execOp, st.fits.eval hx, st.fits.eval hy, Sem.run_bind, hr, Result.andThen_ok, Sem.run_pure, flat, List.append_nil]
        rw [hr', Oper.upon_value]
        have hok := flat_replicate q m hze.ok
        rw [hqw'] at hok
        exact h _ _ _ ⟨st.fits.put (Nat.le_of_ble_eq_true hd), st.mem.new _ el hok⟩

theorem fill_seq {s : Nat} (hs : 0 < s) (vs : List Value) (z : Array Value) (h1 : ∀ v ∈ vs, v.cells.size = s) :
    Instr.fill (fun i => some (i * s, s)) ((Array.range (vs.length * s)).map (z[· % z.size]!)) ((vs.zipIdx 0).map fun x => (x.2, x.1)) = some (vs.flatMap fun v => v.cells.toList).toArray :=
  Great.fill_whole hs vs _ h1 (by simp)

/-- the cells of these values, side by side -/
def segsOf : List Value → List Seg
  | [] => []
  | v :: r => (v.cells.size, v.cells.toList) :: segsOf r

def partsOf : Nat → List Operand → List (Nat × Operand)
  | _, [] => []
  | k, x :: r => (k, x) :: partsOf (k + 1) r

theorem partsOf_eval (f : Operand → Value) : ∀ (l : List Operand) (k : Nat), (partsOf k l).map (fun p => (p.1, f p.2)) = ((l.map f).zipIdx k).map fun x => (x.2, x.1)
  | [], _ => rfl
  | x :: r, k => by simp [partsOf, partsOf_eval f r (k + 1), List.zipIdx_cons]

/-- `[]T{x, y, ..}`, all elements told -/
theorem WL_buildSlice {t el : TypeId} {l : List Operand} {vs : List Value} {q : List Seg} {len sz : Nat} [hu : Und P t (.slice el)] [hz : Sz P el sz] {qz : List Seg} [hze : Zer P el qz]
    (hw : wantedE ops e g = some true) (hd : Nat.blt d n = true) (hargs : evs e l = some vs) (hlen : Nat.beq vs.length len = true) (hqw : Nat.beq (width qz) sz = true) (hpos : Nat.blt 0 (len * sz) = true) (hsmall : Nat.ble (len * sz) 16777216 = true)
    (hq : (vs.flatMap fun v => v.cells.toList) = flat q) (hok : SegsOk q) (hsz : ∀ v ∈ vs, v.cells.size = sz)
    (h : ∀ b, WL P ops Q rest n ((d, .slice (some ⟨b, 0, none⟩) len len) :: e) (.blk b q el :: Γ) S w0) :
    WL P ops Q (⟨some d, .buildSlice t len (partsOf 0 l).toArray, ty, pos, after, g⟩ :: rest) n e Γ S w0 :=
  WL_loud hw fun a w st => by
    have hu' := hu.h
    have hz' := hz.h
    have hze' := hze.h
    have hqw' := Nat.eq_of_beq_eq_true hqw
    have hlen' := Nat.eq_of_beq_eq_true hlen
    have hpos' : 0 < len * sz := Nat.le_of_ble_eq_true hpos
    have hsmall' : len * sz ≤ 16777216 := Nat.le_of_ble_eq_true hsmall
    have hsp : 0 < sz := Nat.pos_of_ne_zero fun h0 => by subst h0; simp at hpos'
    cases hie : P.info? el with
    | none => simp [hie] at hz'
    | some ie =>
      simp [hie] at hz' hze'
      cases hzz : ie.zero with
      | none => simp [hzz] at hze'
      | some z =>
        simp [hzz] at hze'
        have hzs : z.cells.size = sz := by rw [hze']; simp [flat_length qz hze.ok, hqw']
        have hfill := fill_seq hsp vs z.cells hsz
        rw [hlen'] at hfill
        have hparts : ((partsOf 0 l).toArray.map fun (p : Nat × Operand) => (p.1, a.eval p.2)).toList = (vs.zipIdx 0).map fun x => (x.2, x.1) := by
          rw [List.map_toArray, partsOf_eval a.eval l 0, evs.spec st.fits l vs hargs]
        have hr : (Instr.buildSlice t len ((partsOf 0 l).toArray.map fun (p : Nat × Operand) => (p.1, a.eval p.2))).run P w = .ok (.slice (some ⟨w.heap.size, 0, none⟩) len len) (w.alloc (.cells (flat q).toArray el)) := by
          have n1 : ¬ (16777216 < len * ie.size) := by rw [hz']; omega
          have n2 : ¬ (len * ie.size = 0) := by rw [hz']; omega
          unfold Instr.buildSlice
          simp only [hparts]
          rw [hq] at hfill
          rw [← hz'] at hfill
          simp [run_underlying hu', sizeOf, typeInfo, zeroValue, hie, hzz, n1, n2, hfill, newRow]
        unfold Oper.wp
        have hr' : (execOp a.eval ⟨some d, .buildSlice t len (partsOf 0 l).toArray, ty, pos, after, g⟩).run P w = .ok (.value (.slice (some ⟨w.heap.size, 0, none⟩) len len)) (w.alloc (.cells (flat q).toArray el)) := by
          simp only [execOp, Sem.run_bind, hr, Result.andThen_ok, Sem.run_pure]
        rw [hr', Oper.upon_value]
        exact h _ _ _ ⟨st.fits.put (Nat.le_of_ble_eq_true hd), st.mem.new q el hok⟩

theorem run_firstCells_sl {w : World} {sz m k : Nat} {v : Value} {vs : List Value} (hs : SlAt w sz v m vs) (hk : k ≤ m) : (Builtin.firstCells sz k v).run P w = .ok (vs.take (k * sz)).toArray w := by
  cases hs with
  | nil => simp [Builtin.firstCells]
  | @mk b o _ c _ hc hr hl =>
    have h1 : (vs.take (k * sz)).length = k * sz := by
      have : k * sz ≤ m * sz := Nat.mul_le_mul_right _ hk
      simp; omega
    have := run_loadCells_list (P := P) w ⟨b, o, none⟩ (vs.take (k * sz)) (fun j u hj => by
      rw [Addr.add_mid]
      rw [List.getElem?_take] at hj
      split at hj
      · exact hr j u hj
      · cases hj)
    rw [h1] at this
    simpa [Builtin.firstCells] using this

/-- `copy(dst, src)`, dst a part of a block that is known whole; the result is let go or kept -/
theorem WL_copy {t t' el : TypeId} {x y : Operand} {sz b o dl dc m k : Nat} {v : Value} {vs : List Value} {segs segs' new : List Seg} {bt : TypeId} {kk : Nat} [hu : Und P t (.slice el)] [hz : Sz P el sz] [hn : SegsOk new]
    (hw : wantedE ops e g = some true) (hd : Nat.blt d n = true) (hx : ev e x = some (.slice (some ⟨b, o, none⟩) dl dc)) (hy : ev e y = some v) (hs : SlRd Γ S w0 sz v m vs)
    (hk : k = min m dl) (hnew : flat new = vs.take (k * sz))
    (hp : Put (.blk b segs bt) (.blk b segs' bt) Γ Γ') (hq : PutSeg segs o kk new segs') (h : WL P ops Q rest n ((d, .int .i64 k) :: e) Γ' S w0) :
    WL P ops Q (⟨some d, .call ⟨.builtin .copy, #[x, y], #[t, t']⟩, ty, pos, after, g⟩ :: rest) n e Γ S w0 :=
  WL_loud hw fun a w st => by
    obtain ⟨hb, hsg⟩ := st.mem.ok _ hp.mem
    obtain ⟨⟨p1, p2, p3⟩, hkk⟩ := hq.spec hsg hn
    have hfc := run_firstCells_sl (P := P) (k := k) (hs.at st.mem) (by omega)
    have hlen : (Builtin.lenOf v).run P w = .ok m w := by cases hs <;> simp [Builtin.lenOf]
    have hmin : Nat.min m dl = k := hk.symm
    have hst := run_storeCells_at P b o bt (flat new) 0 (flat segs).toArray w hb (by simp [flat_length new hn, flat_length segs hsg]; omega) (flat_one new hn)
    simp only [Nat.add_zero] at hst
    rw [flat_length new hn, hkk, ← p2] at hst
    have hr : (Builtin.copy_ #[t, t'] ty #[.slice (some ⟨b, o, none⟩) dl dc, v]).run P w = .ok (goInt k) (w.setRow b (flat segs').toArray) := by
      simp only [Builtin.copy_]
      simp [hu.run, hlen, hmin, hz.run, hfc, ← hnew, hst]
    unfold Oper.wp
    have hr' : (execOp a.eval ⟨some d, .call ⟨.builtin .copy, #[x, y], #[t, t']⟩, ty, pos, after, g⟩).run P w = .ok (.value (.int .i64 k)) (w.setRow b (flat segs').toArray) := by
      simp only [execOp, resolve, Sem.run_bind, Sem.run_pure, Result.andThen_ok, invoke, builtin, List.map_toArray, List.map_cons, List.map_nil, st.fits.eval hx, st.fits.eval hy, hr, goInt]
    rw [hr', Oper.upon_value]
    exact h _ _ ⟨st.fits.put (Nat.le_of_ble_eq_true hd), st.mem.setRow hp p1⟩

/-! ## The end of a function -/

def rv (tmps : Array Value) : ResultVar → Sem Value
  | .tmp t => pure (tmps.getD t undef)
  | .cell x t => do loadVar t (← asAddr (tmps.getD x undef))

theorem results_rv (fn : Func) (tmps : Array Value) : results fn tmps = (do
    let vs ← fn.results.mapM (rv tmps)
    pure (if h : vs.size = 1 then vs[0] else .tuple vs)) := rfl

/-- What the result variables hold. -/
inductive ResV (P : Program) (e : Env) (Γ : List Chunk) (S : List Nat) (w0 : World) : List ResultVar → List Value → Prop
  | nil : ResV P e Γ S w0 [] []
  | tmp {t : Tmp} {v : Value} {l : List ResultVar} {vs : List Value} (h : lk e t = some v) (r : ResV P e Γ S w0 l vs) : ResV P e Γ S w0 (.tmp t :: l) (v :: vs)
  | cell {x : Tmp} {t : TypeId} {b o : Nat} {v : Value} {l : List ResultVar} {vs : List Value} (hx : lk e x = some (.pointer (some ⟨b, o, none⟩)))
      (hl : ∀ w, Mem Γ S w0 w → (loadVar t ⟨b, o, none⟩).run P w = .ok v w) (r : ResV P e Γ S w0 l vs) : ResV P e Γ S w0 (.cell x t :: l) (v :: vs)

theorem load_blk {t : TypeId} {b o : Nat} {segs : List Seg} {bt : TypeId} {v : Value} [IsPlain P t] (hp : Pick (.blk b segs bt) Γ Γ') (hq : spanAt segs o 1 = some [(1, [v])]) :
    ∀ w, Mem Γ S w0 w → (loadVar t ⟨b, o, none⟩).run P w = .ok v w := fun w hm => by
  have hc := Rd.blk (S := S) (w0 := w0) 1 hp hq w hm 0 v rfl
  simp only [Nat.add_zero] at hc
  simp [loadVar, IsPlain.run (P := P) (t := t), hc]

theorem load_blk_agg {t : TypeId} {z b o : Nat} {segs q : List Seg} {bt : TypeId} [hA : IsAgg P t] [hz : Sz P t z] (hp : Pick (.blk b segs bt) Γ Γ') (hq : spanAt segs o z = some q) :
    ∀ w, Mem Γ S w0 w → (loadVar t ⟨b, o, none⟩).run P w = .ok (aggS q) w := fun w hm => by
  obtain ⟨h1, h2⟩ := hm.ok _ hp.mem
  obtain ⟨h3, h4, _, _⟩ := spanAt_spec h2 hq
  have hc := Rd.blk (S := S) (w0 := w0) z hp hq w hm
  have hA' := hA.h
  cases hu : P.underlying t with
  | none => simp [hu] at hA'
  | some dd =>
    have hd : dd.isRow = true := by simp only [hu, Option.map_some, Option.some.injEq] at hA'; cases dd <;> simp_all
    exact run_loadVar_mid (P := P) w b o t (flat q) dd hc hu hd (by rw [flat_length q h3, h4]; exact hz.h)

def packed : List Value → Value
  | [v] => v
  | vs => .tuple vs.toArray

theorem ResV.run {a : Act} {w : World} (hf : Fits n e a) (hm : Mem Γ S w0 w) {l : List ResultVar} {vs : List Value} (h : ResV P e Γ S w0 l vs) : (l.mapM (rv a.tmps)).run P w = .ok vs w := by
  induction h with
  | nil => simp
  | tmp h _ ih => simp only [List.mapM_cons, Sem.run_bind, rv, Sem.run_pure, Result.andThen_ok, ih]; simp [hf.at_ _ _ h]
  | cell hx hl _ ih => simp only [List.mapM_cons, Sem.run_bind, rv]; simp [hf.at_ _ _ hx, asAddr, hl w hm, ih]

theorem run_results {fn : Func} {a : Act} {w : World} {vs : List Value} (h : (fn.results.toList.mapM (rv a.tmps)).run P w = .ok vs w) :
    (results fn a.tmps).run P w = .ok (packed vs) w := by
  rw [results_rv, Sem.run_bind, Array.mapM_eq_mapM_toList, Sem.run_map, h]
  simp only [Result.andThen_ok, Sem.run_pure]
  congr 1
  match vs with
  | [] => rfl
  | [v] => rfl
  | v :: u :: r => simp [packed]

theorem QX_ret {fn : Func} {R : Value → World → Prop} {l : List ResultVar} {vs : List Value} (hl : fn.results = l.toArray) (hv : ResV P e Γ S w0 l vs) (h : ∀ w, Mem Γ S w0 w → R (packed vs) w) :
    QX .ret (bodyPost P fn (Ret R)) n e Γ S w0 := fun a w st =>
  ⟨st.fits.defers, _, run_results (by rw [hl]; exact hv.run st.fits st.mem), h w st.mem⟩

theorem QX_end {fn : Func} {R : Value → World → Prop} {l : List ResultVar} {vs : List Value} (hl : fn.results = l.toArray) (hv : ResV P e Γ S w0 l vs) (h : ∀ w, Mem Γ S w0 w → R (packed vs) w) :
    QX .normal (bodyPost P fn (Ret R)) n e Γ S w0 := fun a w st =>
  ⟨st.fits.defers, _, run_results (by rw [hl]; exact hv.run st.fits st.mem), h w st.mem⟩

end rules

end Go.PK

/- The calculus: segments of everyday make. -/
namespace Go.PK

instance {k : IntKind} {i : Int} : SegOk (1, [.int k i]) := ⟨rfl, by simp [Value.oneCell']⟩
instance {b : Bool} : SegOk (1, [.bool b]) := ⟨rfl, by simp [Value.oneCell']⟩
instance {a : Option Addr} {n c : Nat} : SegOk (1, [.slice a n c]) := ⟨rfl, by simp [Value.oneCell']⟩
instance {a : Option Addr} : SegOk (1, [.pointer a]) := ⟨rfl, by simp [Value.oneCell']⟩
instance {s : ByteArray} : SegOk (1, [.string s]) := ⟨rfl, by simp [Value.oneCell']⟩
instance {n : Nat} {k : IntKind} {i : Int} : SegOk (n, List.replicate n (.int k i)) := ⟨by simp, fun v hv => by rw [(List.mem_replicate.1 hv).2]; rfl⟩
instance {n : Nat} {b : Bool} : SegOk (n, List.replicate n (.bool b)) := ⟨by simp, fun v hv => by rw [(List.mem_replicate.1 hv).2]; rfl⟩

/-- a byte -/
abbrev by8 (b : UInt8) : Value := .int .u8 b.toNat
/-- bytes -/
def bs (l : List UInt8) : List Value := l.map by8
@[simp] theorem bs_length (l : List UInt8) : (bs l).length = l.length := by simp [bs]
theorem bs_one (l : List UInt8) : ∀ v ∈ bs l, v.oneCell' = true := fun v hv => by
  obtain ⟨b, _, rfl⟩ := List.mem_map.1 hv; rfl
@[simp] theorem bs_append (a b : List UInt8) : bs (a ++ b) = bs a ++ bs b := by simp [bs]
@[simp] theorem bs_nil : bs [] = [] := rfl
theorem bs_take (l : List UInt8) (k : Nat) : (bs l).take k = bs (l.take k) := by simp [bs, List.map_take]
theorem bs_drop (l : List UInt8) (k : Nat) : (bs l).drop k = bs (l.drop k) := by simp [bs, List.map_drop]

/-- an array of bytes -/
def bv {n : Nat} (r : Vector UInt8 n) : List Value := bs r.toList
instance {n : Nat} {r : Vector UInt8 n} : SegOk (n, bv r) := ⟨by simp [bv], bs_one _⟩

theorem take_len {α : Type} {n : Nat} (l : List α) (h : l.length = n) : l.take n = l := by subst h; exact List.take_length
end Go.PK

/- The calculus: regions that draw their order. The quiet operations may be taken in the text's order, each yielding its value in every world of a class; the loud ones are each alone when their turn comes. -/
namespace Go.PK
attribute [local semireducible] Val Rd

/-- p: quiet, whatever memory holds; q: quiet, in the class of worlds; g: loud, and leaves a world of the class; t: loud, behind all that are quiet in the class -/
inductive Kd where
  | p | q | g | t
  deriving DecidableEq

section
variable {P : Program} {ops : Array Oper} {Q : Exit → Act → World → Prop} {md : Region.Mode} {C D : World → Prop}

def wpAnyT (P : Program) (ops : Array Oper) (Q : Exit → Act → World → Prop) (C D : World → Prop) (tail : Nat → Bool) : Nat → Array Bool → Act → World → Prop
  | 0, listed, a, w => Region.ready .any ops listed = [] ∧ Q .normal a w
  | fuel + 1, listed, a, w =>
    (Region.ready .any ops listed = [] → Q .normal a w) ∧
    ∀ i ∈ Region.ready .any ops listed, wpOp P ops Q i (fun a' w' => ((tail i = false → C w → C w') ∧ D w') ∧ wpAnyT P ops Q C D tail fuel (listed.setIfInBounds i true) a' w') a w

theorem wpAny_of_T {tail : Nat → Bool} : ∀ (fuel : Nat) (listed : Array Bool) (a : Act) (w : World), wpAnyT P ops Q C D tail fuel listed a w → wpAny P .any ops Q fuel listed a w
  | 0, _, _, _, h => h
  | fuel + 1, _, _, _, h => ⟨h.1, fun i hi => wpOp_mono (fun a' w' h' => wpAny_of_T fuel _ a' w' h'.2) (h.2 i hi)⟩

def Closed (ops : Array Oper) (listed : Array Bool) : Prop := ∀ j oj, ops[j]? = some oj → listed.getD j false = true → ∀ e ∈ oj.after, Region.binds .any e = true → listed.getD e.on false = true

theorem Closed.set {listed : Array Bool} {i : Nat} (h : Closed ops listed) (hi : i ∈ Region.ready .any ops listed) : Closed ops (listed.setIfInBounds i true) := fun j oj hj hl e he hb => by
  obtain ⟨_, oi, hoi, hall⟩ := mem_ready.1 hi
  by_cases hij : i = j
  · subst hij
    rw [hj] at hoi; cases hoi
    exact getD_set_true (hall e he hb)
  · rw [getD_set_ne false hij] at hl
    exact getD_set_true (h j oj hj hl e he hb)

def anc (ops : Array Oper) : Nat → Nat → Nat → Bool
  | 0, _, _ => false
  | n + 1, j, i => match ops[j]? with
    | some oj => oj.after.any fun e => Region.binds .any e && (e.on == i || anc ops n e.on i)
    | none => false

theorem anc.spec {listed : Array Bool} (h : Closed ops listed) : ∀ (n j i : Nat), (∀ oj, ops[j]? = some oj → ∀ e ∈ oj.after, Region.binds .any e = true → listed.getD e.on false = true) → anc ops n j i = true → listed.getD i false = true
  | 0, _, _, _, ha => by simp [anc] at ha
  | n + 1, j, i, hd, ha => by
    unfold anc at ha
    split at ha
    · rename_i oj hoj
      obtain ⟨e, he, hb⟩ := Array.any_eq_true'.1 ha
      simp only [Bool.and_eq_true, Bool.or_eq_true, beq_iff_eq] at hb
      have h1 := hd oj hoj e he hb.1
      rcases hb.2 with h2 | h2
      · exact h2 ▸ h1
      · exact anc.spec h n e.on i (fun ok hok e' he' hb' => h e.on ok hok h1 e' he' hb') h2
    · cases ha

/-- What is quiet in the class E may be taken first, where whatever comes before it leaves a world of E. -/
theorem wpAnyT_first {E : World → Prop} {tail : Nat → Bool} {i : Nat} {oi : Oper} {v : Value} (hi : ops[i]? = some oi) (hsel : ∀ (j : Nat) (o : Oper) cs b, ops[j]? = some o → o.op ≠ .select cs b)
    (hQ : ∀ c a w, Q (.panic c) (a.put oi.dst v) w → Q (.panic c) a w)
    (hE : ∀ listed j w w', Closed ops listed → j ∈ Region.ready .any ops listed → i ∈ Region.ready .any ops listed → E w → ((tail j = false → C w → C w') ∧ D w') → E w')
    (hED : ∀ w, E w → D w) :
    ∀ (fuel : Nat) (listed : Array Bool) (a : Act) (w : World), Closed ops listed →
      (∀ j oj, ops[j]? = some oj → j ≠ i → listed.getD j true = false → (∀ e ∈ oj.after, Region.binds .any e = true → e.on ≠ i) → oi.apart ops oj = true) →
      i ∈ Region.ready .any ops listed → YieldsIf P ops E oi v a → E w →
      wpAnyT P ops Q C D tail fuel (listed.setIfInBounds i true) (a.put oi.dst v) w → wpAnyT P ops Q C D tail (fuel + 1) listed a w := by
  intro fuel
  induction fuel with
  | zero =>
    intro listed a w _ _ hr hy hS H
    refine ⟨fun h => (by rw [h] at hr; cases hr), fun j hj => ?_⟩
    by_cases hji : j = i
    · subst hji; exact hy.wpOp hi hS ⟨⟨fun _ h => h, hED _ hS⟩, H⟩
    · have := ready_mono hj hji
      rw [H.1] at this
      cases this
  | succ fuel ih =>
    intro listed a w hcl hfree hr hy hS H
    refine ⟨fun h => (by rw [h] at hr; cases hr), fun j hj => ?_⟩
    by_cases hji : j = i
    · subst hji; exact hy.wpOp hi hS ⟨⟨fun _ h => h, hED _ hS⟩, H⟩
    · have h1 := H.2 j (ready_mono hj hji)
      obtain ⟨hjun, oj, hoj, hall⟩ := mem_ready.1 hj
      have hnot : ∀ e ∈ oj.after, Region.binds .any e = true → e.on ≠ i := fun e he hb heq => by
        have h1 := hall e he hb
        have h0 := (mem_ready.1 hr).1
        rw [heq] at h1
        rcases Nat.lt_or_ge i listed.size with h' | h'
        · simp [h'] at h0 h1; rw [h0] at h1; cases h1
        · simp [Array.getElem?_eq_none h'] at h1
      have h2 := wpOp_putIf hoj (hfree j oj hoj hji hjun hnot) (fun cs b => hsel i oi cs b hi) (fun cs b => hsel j oj cs b hoj) hQ hy h1
      have hfree' : ∀ k ok, ops[k]? = some ok → k ≠ i → (listed.setIfInBounds j true).getD k true = false →
          (∀ e ∈ ok.after, Region.binds .any e = true → e.on ≠ i) → oi.apart ops ok = true := fun k ok hk hki hun hno => by
        refine hfree k ok hk hki ?_ hno
        by_cases hjk : j = k
        · subst hjk; exact hjun
        · rw [getD_set_ne true hjk] at hun; exact hun
      refine wpOp_mono (fun a' w' h3 => ⟨h3.2.1, ih (listed.setIfInBounds j true) a' w' (hcl.set hj) hfree' (ready_mono hr (Ne.symm hji)) h3.1 (hE listed j w w' hcl hj hr hS h3.2.1) ?_⟩) h2
      rw [Array.setIfInBounds_comm _ _ hji]
      exact h3.2.2

theorem not_tail {tail : Nat → Bool} {i j : Nat} {listed : Array Bool} (htail : ∀ j, tail j = true → anc ops ops.size j i = true) (hcl : Closed ops listed) (hj : j ∈ Region.ready .any ops listed) (hr : i ∈ Region.ready .any ops listed) : tail j = false := by
  cases ht : tail j with
  | false => rfl
  | true =>
    obtain ⟨hjun, oj, hoj, hall⟩ := mem_ready.1 hj
    have := anc.spec hcl _ j i (fun ok hok e he hb => by rw [hoj] at hok; cases hok; exact hall e he hb) (htail j ht)
    have h0 := (mem_ready.1 hr).1
    rcases Nat.lt_or_ge i listed.size with h' | h'
    · simp [h'] at h0 this; rw [h0] at this; cases this
    · simp [Array.getElem?_eq_none h'] at this

/-! ### The plan of a region: its operations in the text's order -/

def planFrom (ops : Array Oper) : Nat → Array Bool → Bool → List Kd → Bool
  | _, listed, _, [] => (Region.ready .any ops listed).isEmpty
  | k, listed, s, .p :: r => Region.free .any ops listed k && (Region.ready .any ops listed).contains k && planFrom ops (k + 1) (listed.setIfInBounds k true) s r
  | k, listed, false, .q :: r => Region.free .any ops listed k && (Region.ready .any ops listed).contains k && planFrom ops (k + 1) (listed.setIfInBounds k true) false r
  | _, _, true, .q :: _ => false
  | k, listed, s, .g :: r => (Region.ready .any ops listed == [k]) && !s && planFrom ops (k + 1) (listed.setIfInBounds k true) s r
  | k, listed, _, .t :: r => (Region.ready .any ops listed == [k]) && planFrom ops (k + 1) (listed.setIfInBounds k true) true r

def tailOf (ks : List Kd) (j : Nat) : Bool := ks[j]? == some .t

def headsOk (ops : Array Oper) (ks : List Kd) : Bool :=
  (List.range ks.length).all fun j => !tailOf ks j || (List.range ks.length).all fun i => !(ks[i]? == some .q) || anc ops ops.size j i

def planOk (ops : Array Oper) (ks : List Kd) : Bool :=
  Region.noSelect ops && (ks.length == ops.size) && headsOk ops ks && planFrom ops 0 (Array.replicate ops.size false) false ks

/-- No panic is let out. -/
class NoPan (Q : Exit → Act → World → Prop) : Prop where
  h : ∀ c a w, ¬ Q (.panic c) a w

def wpO (P : Program) (ops : Array Oper) (Q : Exit → Act → World → Prop) (o : Oper) (K : Act → World → Prop) (a : Act) (w : World) : Prop :=
  if Region.wanted o (yielded ops a.tmps) then o.wp P a w K Q ∨ (o.asks P a w ∧ LetsOut Q) else K (a.put o.dst undef) w

def WDl (P : Program) (ops : Array Oper) (Q : Exit → Act → World → Prop) (C D : World → Prop) : List Kd → List Oper → Act → World → Prop
  | .p :: ks, o :: r, a, w => ∃ v, YieldsIf P ops D o v a ∧ WDl P ops Q C D ks r (a.put o.dst v) w
  | .q :: ks, o :: r, a, w => ∃ v, YieldsIf P ops C o v a ∧ WDl P ops Q C D ks r (a.put o.dst v) w
  | .g :: ks, o :: r, a, w => wpO P ops Q o (fun a' w' => (C w' ∧ D w') ∧ WDl P ops Q C D ks r a' w') a w
  | .t :: ks, o :: r, a, w => wpO P ops Q o (fun a' w' => D w' ∧ WDl P ops Q C D ks r a' w') a w
  | [], [], a, w => Q .normal a w
  | _, _, _, _ => False

theorem wpOp_of_O {i : Nat} {o : Oper} {K K' : Act → World → Prop} {a : Act} {w : World} (hi : ops[i]? = some o) (hK : ∀ a w, K a w → K' a w) (h : wpO P ops Q o K a w) : wpOp P ops Q i K' a w := by
  unfold wpOp
  unfold wpO at h
  simp only [hi]
  split
  · rename_i hw; simp only [hw, if_true] at h; exact h.imp (Oper.wp_mono hK) id
  · rename_i hw; simp only [hw] at h; exact hK _ _ h

theorem wpAnyT_of_plan [hp : NoPan Q] (hCD : ∀ w, C w → D w) (ks : List Kd) (hs : Region.noSelect ops = true) (hheads : headsOk ops ks = true) :
    ∀ (r : List Oper) (kr : List Kd) (k : Nat) (listed : Array Bool) (s : Bool) (a : Act) (w : World), (∀ j, r[j]? = ops[k + j]?) → (∀ j, kr[j]? = ks[k + j]?) → k + r.length = ops.size →
      Closed ops listed → planFrom ops k listed s kr = true → (s = false → C w) → D w → WDl P ops Q C D kr r a w → wpAnyT P ops Q C D (tailOf ks) r.length listed a w := by
  intro r
  induction r with
  | nil =>
    intro kr k listed s a w _ _ _ _ hpl _ _ h
    cases kr with
    | nil => exact ⟨by simpa [planFrom] using hpl, h⟩
    | cons x kr => cases x <;> exact h.elim
  | cons o r ih =>
    intro kr k listed s a w hr hk hlen hcl hpl hC hD h
    cases kr with
    | nil => exact h.elim
    | cons x kr =>
      have h0 : ops[k]? = some o := by simpa using (hr 0).symm
      have hr' : ∀ j, r[j]? = ops[k + 1 + j]? := fun j => by have := hr (j + 1); simpa [Nat.add_assoc, Nat.add_comm 1 j] using this
      have hk' : ∀ j, kr[j]? = ks[k + 1 + j]? := fun j => by have := hk (j + 1); simpa [Nat.add_assoc, Nat.add_comm 1 j] using this
      have hk0 : ks[k]? = some x := by simpa using (hk 0).symm
      have hlen' : k + 1 + r.length = ops.size := by simp at hlen; omega
      cases x with
      | p =>
        have hpl' : (Region.free .any ops listed k = true ∧ k ∈ Region.ready .any ops listed) ∧ planFrom ops (k + 1) (listed.setIfInBounds k true) s kr = true := by
          cases s <;> simpa [planFrom] using hpl
        obtain ⟨⟨hf, hrd'⟩, hpl⟩ := hpl'
        obtain ⟨v, hy, h⟩ := h
        refine wpAnyT_first (E := D) h0 (Region.noSelect_spec hs) (fun c a w h => (hp.h c _ w h).elim) (fun _ _ _ _ _ _ _ _ h => h.2) (fun _ h => h) r.length listed a w hcl (Region.free_spec h0 hf) hrd' hy hD ?_
        exact ih kr (k + 1) _ s _ _ hr' hk' hlen' (hcl.set hrd') hpl hC hD h
      | q =>
        cases s with
        | true => simp [planFrom] at hpl
        | false =>
          simp only [planFrom, Bool.and_eq_true] at hpl
          obtain ⟨⟨hf, hrd⟩, hpl⟩ := hpl
          have hrd' : k ∈ Region.ready .any ops listed := by simpa using hrd
          obtain ⟨v, hy, h⟩ := h
          have hhead : ∀ j, tailOf ks j = true → anc ops ops.size j k = true := fun j hj => by
            have hjl : j < ks.length := by
              rcases Nat.lt_or_ge j ks.length with h' | h'
              · exact h'
              · simp [tailOf, List.getElem?_eq_none h'] at hj
            have hkl : k < ks.length := by
              rcases Nat.lt_or_ge k ks.length with h' | h'
              · exact h'
              · simp [List.getElem?_eq_none h'] at hk0
            have h1 := List.all_eq_true.1 hheads j (List.mem_range.2 hjl)
            simp only [hj, Bool.not_true, Bool.false_or] at h1
            have h2 := List.all_eq_true.1 h1 k (List.mem_range.2 hkl)
            simpa [hk0] using h2
          refine wpAnyT_first (E := C) h0 (Region.noSelect_spec hs) (fun c a w h => (hp.h c _ w h).elim) (fun listed j w w' hc hj hi hw h => h.1 (not_tail hhead hc hj hi) hw) hCD r.length listed a w hcl (Region.free_spec h0 hf) hrd' hy (hC rfl) ?_
          exact ih kr (k + 1) _ false _ _ hr' hk' hlen' (hcl.set hrd') hpl (fun _ => hC rfl) hD h
      | g =>
        cases s with
        | true => simp [planFrom] at hpl
        | false =>
          simp only [planFrom, Bool.and_eq_true, beq_iff_eq] at hpl
          obtain ⟨⟨hrd, _⟩, hpl⟩ := hpl
          have hrd' : k ∈ Region.ready .any ops listed := by rw [hrd]; simp
          refine ⟨fun h' => (by rw [hrd] at h'; cases h'), fun i hi => ?_⟩
          rw [hrd] at hi
          simp at hi
          subst hi
          exact wpOp_of_O h0 (fun a' w' h' => ⟨⟨fun _ _ => h'.1.1, h'.1.2⟩, ih kr (i + 1) _ false _ _ hr' hk' hlen' (hcl.set hrd') hpl (fun _ => h'.1.1) h'.1.2 h'.2⟩) h
      | t =>
        have hpl' : (Region.ready .any ops listed == [k]) = true ∧ planFrom ops (k + 1) (listed.setIfInBounds k true) true kr = true := by
          cases s <;> simpa [planFrom] using hpl
        obtain ⟨hrd, hpl⟩ := hpl'
        simp only [beq_iff_eq] at hrd
        have hrd' : k ∈ Region.ready .any ops listed := by rw [hrd]; simp
        refine ⟨fun h' => (by rw [hrd] at h'; cases h'), fun i hi => ?_⟩
        rw [hrd] at hi
        simp at hi
        subst hi
        refine wpOp_of_O h0 (fun a' w' h' => ⟨⟨fun ht => (by simp [tailOf, hk0] at ht), h'.1⟩, ih kr (i + 1) _ true _ _ hr' hk' hlen' (hcl.set hrd') hpl (fun h => by cases h) h'.1 h'.2⟩) h

theorem wp_region_plan [NoPan Q] {id : Nat} {l : List Oper} {a : Act} {w : World} (hCD : ∀ w, C w → D w) (hm : P.follows .mixedOrders = true) (ks : List Kd) (hpl : planOk l.toArray ks = true)
    (hC : C w.drew) (h : WDl P l.toArray Q C D ks l a w.drew) : (Code.region id l.toArray true).wp P Q a w := by
  simp only [planOk, Bool.and_eq_true, beq_iff_eq] at hpl
  obtain ⟨⟨⟨h1, h2⟩, h3⟩, h4⟩ := hpl
  refine wp_region_any hm (wpAny_of_T (C := C) (D := D) (tail := tailOf ks) _ _ _ _ ?_)
  have := wpAnyT_of_plan (P := P) (C := C) (D := D) hCD ks h1 h3 l ks 0 (Array.replicate l.toArray.size false) false a w.drew (by simp) (by simp) (by simp)
    (fun j oj _ hl => by simp [Array.getElem?_replicate] at hl; split at hl <;> simp_all) h4 (fun _ => hC) (hCD _ hC) h
  simpa using this
end

instance {K : Act → World → Prop} {Q : Exit → Act → World → Prop} [h : NoPan Q] : NoPan (Exit.then K Q) := ⟨fun c a w hq => h.h c a w hq⟩
instance {i : Nat} {Q : Exit → Act → World → Prop} [h : NoPan Q] : NoPan (Exit.inBlock i Q) := ⟨fun c a w hq => h.h c a w hq⟩
instance {P : Program} {fn : Func} {R : Value → World → Prop} : NoPan (bodyPost P fn (Ret R)) := ⟨fun _ _ _ hq => hq.2⟩

/-! ### In the calculus -/

def WD (P : Program) (ops : Array Oper) (Q : Exit → Act → World → Prop) (Γc : List Chunk) (ks : List Kd) (rest : List Oper) (n : Nat) (e : Env) (Γ : List Chunk) (S : List Nat) (w0 : World) : Prop :=
  ∀ a w, St n e Γ S w0 a w → WDl P ops Q (Mem Γc S w0) (Mem [] S w0) ks rest a w

/-- The chunks Δ stand in Γ. -/
inductive Sel : List Chunk → List Chunk → Prop
  | nil {Γ : List Chunk} : Sel [] Γ
  | cons {c : Chunk} {Δ Γ Γ' : List Chunk} (h : Pick c Γ Γ') (ht : Sel Δ Γ') : Sel (c :: Δ) Γ

theorem Sel.take {Δ Γ : List Chunk} (h : Sel Δ Γ) : ∃ A, Take Δ Γ A := by
  induction h with
  | nil => exact ⟨_, .nil⟩
  | cons h _ ih => obtain ⟨A, hA⟩ := ih; exact ⟨A, .cons h hA⟩

theorem Mem.sel {Γ Δ S w0 w} (hm : Mem Γ S w0 w) (h : Sel Δ Γ) : Mem Δ S w0 w := by
  obtain ⟨A, hA⟩ := h.take
  exact hm.drop hA.perm

theorem WC_sel {P : Program} {c : Code} {Q : Exit → Act → World → Prop} {n e Γ Δ S w0} (h : Sel Δ Γ) (hc : WC P c Q n e Δ S w0) : WC P c Q n e Γ S w0 := fun a w st => hc a w ⟨st.fits, st.mem.sel h⟩
theorem WL_sel {P : Program} {ops : Array Oper} {r : List Oper} {Q : Exit → Act → World → Prop} {n e Γ Δ S w0} (h : Sel Δ Γ) (hc : WL P ops Q r n e Δ S w0) : WL P ops Q r n e Γ S w0 := fun a w st => hc a w ⟨st.fits, st.mem.sel h⟩
theorem QX_sel {x : Exit} {Q : Exit → Act → World → Prop} {n e Γ Δ S w0} (h : Sel Δ Γ) (hc : QX x Q n e Δ S w0) : QX x Q n e Γ S w0 := fun a w st => hc a w ⟨st.fits, st.mem.sel h⟩

section rules
variable {P : Program} {Q : Exit → Act → World → Prop} {n : Nat} {e : Env} {Γ Γc : List Chunk} {S : List Nat} {w0 : World} {ops : Array Oper} {rest : List Oper} {o : Oper} {ks : List Kd}

theorem WC_draw {id : Nat} {l : List Oper} [NoPan Q] (Γc : List Chunk) (ks : List Kd) (hm : P.follows .mixedOrders = true) (hpl : planOk l.toArray ks = true) (hs : Sel Γc Γ)
    (h : WD P l.toArray Q Γc ks l n e Γ S w0) : WC P (.region id l.toArray true) Q n e Γ S w0 := fun a w st =>
  wp_region_plan (C := Mem Γc S w0) (D := Mem [] S w0) (fun _ h => h.sel .nil) hm ks hpl (st.mem.sel hs).drew (h a w.drew ⟨st.fits, st.mem.drew⟩)

/-- The kinds of a region's operations, by their make: a call is loud and last. -/
def kindOf (seen : Bool) : Op → Kd
  | .load .. => if seen then .t else .q
  | .alloc _ | .box .. | .buildSlice .. | .makeSlice .. => if seen then .t else .g
  | .move _ | .assign _ | .pick .. | .nilCheck _ | .binOp .. | .unOp .. | .convert .. | .fieldAddr .. | .field .. | .indexAddr .. | .index .. | .extract .. | .slice .. | .build .. | .sliceToArrayPointer .. => .p
  | .call ⟨.builtin .len, _, _⟩ => .p
  | _ => .t

def kindsFrom : Bool → List Oper → List Kd
  | _, [] => []
  | s, o :: r => match kindOf s o.op with
    | .t => .t :: kindsFrom true r
    | k => k :: kindsFrom s r

theorem WC_drawA {id : Nat} {l : List Oper} [NoPan Q] (Γc : List Chunk) (hm : P.follows .mixedOrders = true) (hpl : planOk l.toArray (kindsFrom false l) = true) (hs : Sel Γc Γ)
    (h : WD P l.toArray Q Γc (kindsFrom false l) l n e Γ S w0) : WC P (.region id l.toArray true) Q n e Γ S w0 := WC_draw Γc _ hm hpl hs h

theorem WD_q {d : Nat} {v : Value} (hw : wantedE ops e o.guard = some true) (hd : o.dst = some d) (hdn : Nat.blt d n = true) (hv : Val P o n e Γc S w0 v)
    (h : WD P ops Q Γc ks rest n ((d, v) :: e) Γ S w0) : WD P ops Q Γc (.q :: ks) (o :: rest) n e Γ S w0 := fun a w st =>
  ⟨v, .inl ⟨wantedE.spec st.fits hw, fun w' hw' => hv a w' st.fits hw'⟩, by
    rw [hd]; exact h _ _ ⟨st.fits.put (Nat.le_of_ble_eq_true hdn), st.mem⟩⟩

theorem WD_p {d : Nat} {v : Value} (hw : wantedE ops e o.guard = some true) (hd : o.dst = some d) (hdn : Nat.blt d n = true) (hv : Val P o n e [] S w0 v)
    (h : WD P ops Q Γc ks rest n ((d, v) :: e) Γ S w0) : WD P ops Q Γc (.p :: ks) (o :: rest) n e Γ S w0 := fun a w st =>
  ⟨v, .inl ⟨wantedE.spec st.fits hw, fun w' hw' => hv a w' st.fits hw'⟩, by
    rw [hd]; exact h _ _ ⟨st.fits.put (Nat.le_of_ble_eq_true hdn), st.mem⟩⟩

theorem WD_poff {d : Nat} (hw : wantedE ops e o.guard = some false) (hd : o.dst = some d) (hdn : Nat.blt d n = true)
    (h : WD P ops Q Γc ks rest n ((d, undef) :: e) Γ S w0) : WD P ops Q Γc (.p :: ks) (o :: rest) n e Γ S w0 := fun a w st =>
  ⟨undef, .inr ⟨wantedE.spec st.fits hw, rfl⟩, by
    rw [hd]; exact h _ _ ⟨st.fits.put (Nat.le_of_ble_eq_true hdn), st.mem⟩⟩

theorem WD_off {d : Nat} (hw : wantedE ops e o.guard = some false) (hd : o.dst = some d) (hdn : Nat.blt d n = true)
    (h : WD P ops Q Γc ks rest n ((d, undef) :: e) Γ S w0) : WD P ops Q Γc (.q :: ks) (o :: rest) n e Γ S w0 := fun a w st =>
  ⟨undef, .inr ⟨wantedE.spec st.fits hw, rfl⟩, by
    rw [hd]; exact h _ _ ⟨st.fits.put (Nat.le_of_ble_eq_true hdn), st.mem⟩⟩

theorem WD_bool (t : Nat) {b : Bool} (ht : lk e t = some (.bool b)) (h1 : b = true → WD P ops Q Γc ks rest n ((t, .bool true) :: e) Γ S w0)
    (h2 : b = false → WD P ops Q Γc ks rest n ((t, .bool false) :: e) Γ S w0) : WD P ops Q Γc ks rest n e Γ S w0 := fun a w st => by
  cases b with
  | true => exact h1 rfl a w ⟨st.fits.again ht, st.mem⟩
  | false => exact h2 rfl a w ⟨st.fits.again ht, st.mem⟩

theorem WD_nil (h : QX .normal Q n e Γ S w0) : WD P ops Q Γc [] [] n e Γ S w0 := fun a w st => h a w st

theorem wpO_of_wpList {K : Act → World → Prop} {a : Act} {w : World} (h : wpList P ops (Exit.then K Q) [o] a w) : wpO P ops Q o K a w := by
  unfold wpList at h
  unfold wpO
  have key : o.wp P a w (wpList P ops (Exit.then K Q) []) (Exit.then K Q) → o.wp P a w K Q := fun h => by
    unfold Oper.wp at *
    generalize (execOp a.eval o).run P w = r at *
    cases r with
    | ok x w' =>
      cases x <;> simp only [Oper.upon] at h ⊢
      case value => exact h
      case skip => exact h
      case defer => exact h
      case enter => exact h.mono fun en w'' he => by cases en <;> exact he
      case row => exact h.mono fun _ _ he => he
    | halt x w' => cases x <;> simp only [Oper.upon] at h ⊢; exact h
  split
  · rename_i hw; rw [if_pos hw] at h; exact h.imp key id
  · rename_i hw; rw [if_neg hw] at h; exact h

/-- A loud operation: it is walked as any; then the region goes on. -/
theorem WD_t (h : WL P ops (Exit.then (fun a' w' => Mem [] S w0 w' ∧ WDl P ops Q (Mem Γc S w0) (Mem [] S w0) ks rest a' w') Q) [o] n e Γ S w0) : WD P ops Q Γc (.t :: ks) (o :: rest) n e Γ S w0 := fun a w st => wpO_of_wpList (h a w st)
theorem WD_g (h : WL P ops (Exit.then (fun a' w' => (Mem Γc S w0 w' ∧ Mem [] S w0 w') ∧ WDl P ops Q (Mem Γc S w0) (Mem [] S w0) ks rest a' w') Q) [o] n e Γ S w0) : WD P ops Q Γc (.g :: ks) (o :: rest) n e Γ S w0 := fun a w st => wpO_of_wpList (h a w st)

theorem WL_t (h : WD P ops Q Γc ks rest n e Γ S w0) : WL P ops (Exit.then (fun a' w' => Mem [] S w0 w' ∧ WDl P ops Q (Mem Γc S w0) (Mem [] S w0) ks rest a' w') Q) [] n e Γ S w0 := fun a w st =>
  wpList_nil (show _ ∧ _ from ⟨st.mem.sel .nil, h a w st⟩)
theorem WL_g (hs : Sel Γc Γ) (h : WD P ops Q Γc ks rest n e Γ S w0) : WL P ops (Exit.then (fun a' w' => (Mem Γc S w0 w' ∧ Mem [] S w0 w') ∧ WDl P ops Q (Mem Γc S w0) (Mem [] S w0) ks rest a' w') Q) [] n e Γ S w0 := fun a w st =>
  wpList_nil (show _ ∧ _ from ⟨⟨st.mem.sel hs, st.mem.sel .nil⟩, h a w st⟩)

/-- A contract's end: the ghost, the value, the chunks. -/
theorem gives {G : Type} {facts : G → Prop} {V : G → Value} {Δ' : G → List Chunk} {ids : List Nat} {w0 w : World} {v : Value} {Γ : List Chunk} (x : G) (hm : Mem Γ ids w0 w) (hx : facts x) (hv : v = V x) (hΔ : Sel (Δ' x) Γ) :
    Gives facts V Δ' ids w0 (.returned v) w := ⟨x, hx, hv, hm.sel hΔ⟩

theorem QX_againS {G : Type} {facts : G → Prop} {env : G → Env} {Δ : G → List Chunk} {μ : G → Nat} {g : G} (g' : G) (hf : facts g') (hμ : μ g' < μ g) (hs : Sub (env g') e) (hΔ : Sel (Δ g') Γ) :
    QX .normal (Exit.then (Again facts env Δ μ n S w0 g) Q) n e Γ S w0 := fun _ _ st => ⟨g', ⟨hf, st.fits.sub hs, st.mem.sel hΔ⟩, hμ⟩

theorem WC_loopS {G : Type} {c : Code} (facts : G → Prop) (env : G → Env) (Δ : G → List Chunk) (μ : G → Nat) (g₀ : G) (hf : facts g₀) (hs : Sub (env g₀) e) (hΔ : Sel (Δ g₀) Γ)
    (round : ∀ g, facts g → WC P c (Exit.then (Again facts env Δ μ n S w0 g) Q) n (env g) (Δ g) S w0) : WC P (.loop c) Q n e Γ S w0 := fun _ _ st =>
  wp_loop_ghost (Round facts env Δ n S w0) μ g₀ ⟨hf, st.fits.sub hs, st.mem.sel hΔ⟩ fun g _ _ ⟨hg, sg⟩ => round g hg _ _ sg
end rules
end Go.PK

/- The calculus: numbers that are Nats, and small helps. -/
namespace Go.PK
attribute [local semireducible] Val Rd

theorem mem0 (w : World) : Mem [] [] w w := ⟨by simp, by simp [idsOf], by simp [idsOf], Same.refl _ _⟩

/-! ## A nil slice is at hand at any time -/
section rules
variable {P : Program} {Q : Exit → Act → World → Prop} {n : Nat} {e : Env} {Γ Γ' : List Chunk} {S : List Nat} {w0 : World} {ops : Array Oper} {rest : List Oper}
  {d : Nat} {dn : Option Nat} {ty : TypeId} {pos : String} {after : Array Edge} {g : Option (Nat × Bool)}

theorem Mem.nilSl {w : World} (hm : Mem Γ S w0 w) (ty : TypeId) (sz : Nat) : Mem (.sl (.slice none 0 0) 0 [] ty sz :: Γ) S w0 w :=
  ⟨fun c hc => by
    rcases List.mem_cons.1 hc with rfl | hc
    · exact ⟨World.ownsRow_nil _ _ _ _, fun x hx => by simp at hx⟩
    · exact hm.ok c hc, by simpa [idsOf, Chunk.ids] using hm.nodup, fun i hi => hm.own i (by simpa [idsOf, Chunk.ids] using hi), hm.same⟩

theorem WC_nil {c : Code} (ty : TypeId) (sz : Nat) (h : WC P c Q n e (.sl (.slice none 0 0) 0 [] ty sz :: Γ) S w0) : WC P c Q n e Γ S w0 := fun a w st => h a w ⟨st.fits, st.mem.nilSl ty sz⟩
theorem WL_nilSl (t : TypeId) (sz : Nat) (h : WL P ops Q rest n e (.sl (.slice none 0 0) 0 [] t sz :: Γ) S w0) : WL P ops Q rest n e Γ S w0 := fun a w st => h a w ⟨st.fits, st.mem.nilSl t sz⟩

/-! ## Slices that lie in known blocks -/

theorem SlRd.blk {b o m c sz k : Nat} {segs : List Seg} {bt : TypeId} {vs : List Value} (hp : Pick (.blk b segs bt) Γ Γ') (hq : spanAt segs o k = some [(k, vs)]) (hk : k = m * sz) (hc : m ≤ c) (hl : vs.length = k) :
    SlRd Γ S w0 sz (.slice (some ⟨b, o, none⟩) m c) m vs :=
  .mk hc (by have := Rd.blk (S := S) (w0 := w0) k hp hq; simpa [flat] using this) (by rw [hl, hk])

theorem SlRd.blkS {b o m c sz k : Nat} {segs q : List Seg} {bt : TypeId} (hp : Pick (.blk b segs bt) Γ Γ') (hq : spanAt segs o k = some q) (hk : k = m * sz) (hc : m ≤ c) (hl : (flat q).length = k) :
    SlRd Γ S w0 sz (.slice (some ⟨b, o, none⟩) m c) m (flat q) := .mk hc (Rd.blk k hp hq) (by rw [hl, hk])

theorem SlRd.sl {p : Option Addr} {m c sz : Nat} {xs : List Value} {el : TypeId} (hp : Pick (.sl (.slice p m c) m xs el sz) Γ Γ') : ∀ w, Mem Γ S w0 w → SlAt w sz (.slice p m c) m xs := fun w hm => by
  obtain ⟨⟨hl, h | ⟨b, cap, cur, h3, _, h4, h5, _, h6, h7⟩⟩, _⟩ := hm.ok _ hp.mem
  · simp at h
    obtain ⟨⟨rfl, _, rfl⟩, rfl⟩ := h
    have : xs = [] := List.eq_nil_of_length_eq_zero (by simpa using hl)
    subst this; exact .nil
  · simp at h3
    obtain ⟨rfl, rfl⟩ := h3
    refine .mk h5 (fun j u hj => ?_) hl
    have hc : cur[j]? = some u := by
      rw [← h7, List.getElem?_take] at hj
      split at hj
      · simpa using hj
      · cases hj
    simp [World.cell?, h4, hc]

theorem Sep.blk {w : World} {b o m c : Nat} {vs : List Value} {segs : List Seg} {bt : TypeId} {Δ A A' : List Chunk} (hm : Mem Γ S w0 w) (hΔ : Take Δ Γ A) (hp : Pick (.blk b segs bt) A A') :
    Sep (.slice (some ⟨b, o, none⟩) m c) vs (idsOf Δ) := .inr fun i hi => by
  simp [vIds] at hi; subst hi
  exact hm.away hΔ (List.mem_flatMap.2 ⟨_, hp.mem, by simp [Chunk.ids]⟩)

theorem Sep.sl {w : World} {v : Value} {m : Nat} {vs xs : List Value} {el : TypeId} {sz : Nat} {Δ A A' : List Chunk} (hm : Mem Γ S w0 w) (hΔ : Take Δ Γ A) (hp : Pick (.sl v m xs el sz) A A') :
    Sep v vs (idsOf Δ) := .inr fun i hi => hm.away hΔ (List.mem_flatMap.2 ⟨_, hp.mem, by
  cases v <;> simp [vIds] at hi
  rename_i p _ _
  cases p <;> simp at hi
  simp [Chunk.ids, hi]⟩)

theorem Sep.old {w : World} {v : Value} {m sz : Nat} {vs : List Value} {Δ A : List Chunk} (hm : Mem Γ S w0 w) (hΔ : Take Δ Γ A) (hs : SlAt w0 sz v m vs) (h : Sep v vs S) : Sep v vs (idsOf Δ) := by
  rcases h with h | h
  · exact .inl h
  · by_cases hv : vs = []
    · exact .inl hv
    · refine .inr fun i hi => hm.awayOld hΔ ?_ (h i hi)
      cases hs with
      | nil => simp [vIds] at hi
      | mk hc hr hl => simp [vIds] at hi; subst hi; exact rangeAt_lt hr hv

theorem Sep.none {v : Value} {vs : List Value} : Sep v vs [] := .inr fun _ _ h => by cases h

/-! ## Stores at a reckoned place -/

theorem WL_storeP {t : TypeId} {x y : Operand} {b o k : Nat} {segs new segs' : List Seg} {bt : TypeId} {v : Value} [hsz : Sz P t k] (hw : wantedE ops e g = some true)
    (hx : ev e x = some (.pointer (some ⟨b, o, none⟩))) (hy : ev e y = some v) (hv : v.cells = (flat new).toArray) (hn : SegsOk new) (hk : width new = k)
    (hp : Put (.blk b segs bt) (.blk b segs' bt) Γ Γ') (hq : SegsOk segs → PutOk segs o k new segs') (h : WL P ops Q rest n e Γ' S w0) :
    WL P ops Q (⟨none, .store t x y, ty, pos, after, g⟩ :: rest) n e Γ S w0 :=
  WL_loud hw fun a w st => by
    obtain ⟨hb, hs⟩ := st.mem.ok _ hp.mem
    obtain ⟨p1, p2, p3⟩ := hq hs
    have hlen : (flat new).length = k := by rw [flat_length new hn, hk]
    have hr := run_storeAt_row (P := P) (t := t) (v := v) (vs := flat new) (o := o) hb (by rw [hlen]; exact hsz.h) hv (flat_one new hn) (by rw [hlen, flat_length segs hs]; exact p3)
    rw [hlen, ← p2] at hr
    unfold Oper.wp
    have : (execOp a.eval ⟨none, .store t x y, ty, pos, after, g⟩).run P w = .ok .skip (w.setRow b (flat segs').toArray) := by
      simp [execOp, st.fits.eval hx, st.fits.eval hy, hr]
    rw [this, Oper.upon_skip]
    exact h _ _ ⟨st.fits, st.mem.setRow hp p1⟩

theorem put_set {l : Nat} {vs : List Value} {r : List Seg} {i : Nat} {v : Value} (hi : i < l) (hv : v.oneCell' = true) (hs : SegsOk ((l, vs) :: r)) : PutOk ((l, vs) :: r) i 1 [(1, [v])] ((l, vs.set i v) :: r) := by
  have h1 := hs.head
  have h3 : SegsOk r := hs.tail
  have hl : vs.length = l := h1.len
  have : SegOk (l, vs.set i v) := ⟨by simp [hl], fun u hu => by
    rcases List.mem_or_eq_of_mem_set hu with h | h
    · exact h1.one u h
    · subst h; exact hv⟩
  refine ⟨inferInstance, ?_, by simp only [width]; omega⟩
  simp only [flat, List.append_nil]
  rw [List.take_append, List.drop_append, show i - vs.length = 0 from by omega, show i + 1 - vs.length = 0 from by omega, List.set_eq_take_append_cons_drop, if_pos (by omega)]
  simp

/-- one cell at place i of the block's first segment -/
theorem WL_store_at {t : TypeId} {x y : Operand} {b i l : Nat} {vs : List Value} {r : List Seg} {bt : TypeId} {v : Value} [Sz P t 1] (hw : wantedE ops e g = some true)
    (hx : ev e x = some (.pointer (some ⟨b, i, none⟩))) (hy : ev e y = some v) (hv : v.oneCell' = true) (hi : i < l)
    (hp : Put (.blk b ((l, vs) :: r) bt) (.blk b ((l, vs.set i v) :: r) bt) Γ Γ') (h : WL P ops Q rest n e Γ' S w0) :
    WL P ops Q (⟨none, .store t x y, ty, pos, after, g⟩ :: rest) n e Γ S w0 := by
  have : SegOk (1, [v]) := ⟨rfl, fun u hu => by simp at hu; subst hu; exact hv⟩
  have hc : v.cells = #[v] := by cases v <;> first | rfl | cases hv
  exact WL_storeP (new := [(1, [v])]) hw hx hy (by simp [hc, flat]) inferInstance rfl hp (put_set hi hv) h

/-- A block's content in another spelling. -/
theorem WL_blkAs {b : Nat} {segs : List Seg} (segs' : List Seg) {bt : TypeId} (hp : Put (.blk b segs bt) (.blk b segs' bt) Γ Γ') (hs : segs = segs') (h : WL P ops Q rest n e Γ' S w0) : WL P ops Q rest n e Γ S w0 := by
  subst hs
  have key : ∀ {c : Chunk} {A B : List Chunk}, Put c c A B → A = B := fun hp => by
    obtain ⟨A, B, rfl, rfl⟩ := hp.split
    rfl
  exact key hp ▸ h

/-! ## Slice literals -/

/-- `[]T{x, ..}`, elements of one cell -/
theorem WL_build1 {t el : TypeId} {ps : List (Nat × Operand)} {vs : List Value} {len : Nat} [Und P t (.slice el)] [Sz P el 1] {qz : List Seg} [Zer P el qz]
    (hw : wantedE ops e g = some true) (hd : Nat.blt d n = true) (hargs : evs e (ps.map (·.2)) = some vs) (hps : partsOf 0 (ps.map (·.2)) = ps) (hlen : Nat.beq vs.length len = true) (hqw : Nat.beq (width qz) 1 = true)
    (hpos : Nat.blt 0 len = true) (hsmall : Nat.ble len 16777216 = true) (hone : vs.all (·.oneCell') = true) (hll : vs.length = len)
    (h : ∀ b, WL P ops Q rest n ((d, .slice (some ⟨b, 0, none⟩) len len) :: e) (.blk b [(len, vs)] el :: Γ) S w0) :
    WL P ops Q (⟨some d, .buildSlice t len ps.toArray, ty, pos, after, g⟩ :: rest) n e Γ S w0 := by
  have h1 : ∀ v ∈ vs, v.oneCell' = true := List.all_eq_true.1 hone
  have hc : ∀ v ∈ vs, v.cells = #[v] := fun v hv => by
    have := h1 v hv
    cases v <;> first | rfl | cases this
  have hok : SegOk (len, vs) := ⟨hll, h1⟩
  have := WL_buildSlice (P := P) (Q := Q) (ops := ops) (rest := rest) (ty := ty) (pos := pos) (after := after) (t := t) (l := ps.map (·.2)) (q := [(len, vs)]) (sz := 1) hw hd hargs hlen hqw (by simpa using hpos) (by simpa using hsmall)
    (by
      have key : ∀ l : List Value, (∀ v ∈ l, v.cells = #[v]) → (l.flatMap fun v => v.cells.toList) = l := fun l => by
        induction l with
        | nil => intro _; rfl
        | cons a l ih => intro hl; rw [List.flatMap_cons, hl a (by simp), ih (fun v hv => hl v (by simp [hv]))]; rfl
      rw [key vs hc]; simp [flat]) inferInstance (fun v hv => by rw [hc v hv]; rfl) h
  rwa [hps] at this

/-- `[]T{x}`, the element an aggregate -/
theorem WL_buildA {t el : TypeId} {x : Operand} {q : List Seg} {sz : Nat} [Und P t (.slice el)] [Sz P el sz] {qz : List Seg} [Zer P el qz] [hq : SegsOk q]
    (hw : wantedE ops e g = some true) (hd : Nat.blt d n = true) (hx : ev e x = some (aggS q)) (hqw : Nat.beq (width qz) sz = true) (hqw' : Nat.beq (width q) sz = true)
    (hpos : Nat.blt 0 sz = true) (hsmall : Nat.ble sz 16777216 = true)
    (h : ∀ b, WL P ops Q rest n ((d, .slice (some ⟨b, 0, none⟩) 1 1) :: e) (.blk b q el :: Γ) S w0) :
    WL P ops Q (⟨some d, .buildSlice t 1 #[(0, x)], ty, pos, after, g⟩ :: rest) n e Γ S w0 :=
  WL_buildSlice (P := P) (Q := Q) (ops := ops) (rest := rest) (ty := ty) (pos := pos) (after := after) (t := t) (l := [x]) (q := q) (sz := sz) (vs := [aggS q]) hw hd (by simp [evs, hx]) rfl hqw (by simpa using hpos) (by simpa using hsmall)
    (by simp [aggS, Value.cells]) hq (fun v hv => by
      simp at hv; subst hv
      simp [aggS, Value.cells, flat_length q hq, Nat.eq_of_beq_eq_true hqw']) h

/-! ## Numbers -/
section ints
variable {t t' : TypeId} {x y : Operand} {o : Option Nat} {a b : Nat}

theorem wrap_i64 {i : Int} (h0 : -9223372036854775808 ≤ i) (h : i < 9223372036854775808) : IntKind.i64.wrap i = i := by rw [IntKind.wrap_i64]; omega
theorem wrap_u64 {i : Int} (h0 : 0 ≤ i) (h : i < 18446744073709551616) : IntKind.u64.wrap i = i := by rw [IntKind.wrap_u64]; omega

theorem val_addI {i j : Int} (hx : ev e x = some (.int .i64 i)) (hy : ev e y = some (.int .i64 j)) (h0 : -9223372036854775808 ≤ i + j) (h : i + j < 9223372036854775808) :
    Val P ⟨o, .binOp .add t x y t', ty, pos, after, g⟩ n e Γ S w0 (.int .i64 (i + j)) := by
  have := val_add (P := P) (n := n) (Γ := Γ) (S := S) (w0 := w0) (d := o) (ty := ty) (pos := pos) (after := after) (g := g) (t := t) (t' := t') hx hy
  rwa [wrap_i64 h0 h] at this

theorem val_subI {i j : Int} (hx : ev e x = some (.int .i64 i)) (hy : ev e y = some (.int .i64 j)) (h0 : -9223372036854775808 ≤ i - j) (h : i - j < 9223372036854775808) :
    Val P ⟨o, .binOp .sub t x y t', ty, pos, after, g⟩ n e Γ S w0 (.int .i64 (i - j)) := by
  have := val_sub (P := P) (n := n) (Γ := Γ) (S := S) (w0 := w0) (d := o) (ty := ty) (pos := pos) (after := after) (g := g) (t := t) (t' := t') hx hy
  rwa [wrap_i64 h0 h] at this

theorem val_mulI {i j : Int} (hx : ev e x = some (.int .i64 i)) (hy : ev e y = some (.int .i64 j)) (h0 : -9223372036854775808 ≤ i * j) (h : i * j < 9223372036854775808) :
    Val P ⟨o, .binOp .mul t x y t', ty, pos, after, g⟩ n e Γ S w0 (.int .i64 (i * j)) := by
  have := val_mul (P := P) (n := n) (Γ := Γ) (S := S) (w0 := w0) (d := o) (ty := ty) (pos := pos) (after := after) (g := g) (t := t) (t' := t') hx hy
  rwa [wrap_i64 h0 h] at this

theorem val_quoI {i j : Int} (hx : ev e x = some (.int .i64 i)) (hy : ev e y = some (.int .i64 j)) (hj : 0 < j) (h0 : 0 ≤ i) (h : i < 9223372036854775808) :
    Val P ⟨o, .binOp .quo t x y t', ty, pos, after, g⟩ n e Γ S w0 (.int .i64 (i / j)) := by
  have := val_quo (P := P) (n := n) (Γ := Γ) (S := S) (w0 := w0) (d := o) (ty := ty) (pos := pos) (after := after) (g := g) (t := t) (t' := t') hx hy (by omega)
  have h1 : 0 ≤ i / j := Int.ediv_nonneg h0 (by omega)
  have h2 : i / j ≤ i := Int.ediv_le_self _ h0
  rwa [Int.tdiv_eq_ediv_of_nonneg h0, wrap_i64 (by omega) (by omega)] at this

theorem val_remI {k : IntKind} {i j : Int} (hx : ev e x = some (.int k i)) (hy : ev e y = some (.int k j)) (hj : 0 < j) (h0 : 0 ≤ i) :
    Val P ⟨o, .binOp .rem t x y t', ty, pos, after, g⟩ n e Γ S w0 (.int k (i % j)) := by
  have := val_rem (P := P) (n := n) (Γ := Γ) (S := S) (w0 := w0) (d := o) (ty := ty) (pos := pos) (after := after) (g := g) (t := t) (t' := t') hx hy (by omega)
  rwa [Int.tmod_eq_emod_of_nonneg h0] at this

theorem val_quoU {i j : Int} (hx : ev e x = some (.int .u64 i)) (hy : ev e y = some (.int .u64 j)) (hj : 0 < j) (h0 : 0 ≤ i) (h : i < 18446744073709551616) :
    Val P ⟨o, .binOp .quo t x y t', ty, pos, after, g⟩ n e Γ S w0 (.int .u64 (i / j)) := by
  have := val_quo (P := P) (n := n) (Γ := Γ) (S := S) (w0 := w0) (d := o) (ty := ty) (pos := pos) (after := after) (g := g) (t := t) (t' := t') hx hy (by omega)
  have h1 : 0 ≤ i / j := Int.ediv_nonneg h0 (by omega)
  have h2 : i / j ≤ i := Int.ediv_le_self _ h0
  rwa [Int.tdiv_eq_ediv_of_nonneg h0, wrap_u64 (by omega) (by omega)] at this

theorem val_addU (hx : ev e x = some (.int .u64 (a : Int))) (hy : ev e y = some (.int .u64 (b : Int))) :
    Val P ⟨o, .binOp .add t x y t', ty, pos, after, g⟩ n e Γ S w0 (.int .u64 (((a + b) % 18446744073709551616 : Nat) : Int)) := by
  have := val_add (P := P) (n := n) (Γ := Γ) (S := S) (w0 := w0) (d := o) (ty := ty) (pos := pos) (after := after) (g := g) (t := t) (t' := t') hx hy
  rwa [IntKind.wrap_u64, show ((a : Int) + b) % 18446744073709551616 = (((a + b) % 18446744073709551616 : Nat) : Int) from by omega] at this

theorem val_shrU {k : IntKind} {s : Nat} (hx : ev e x = some (.int .u64 (a : Int))) (hy : ev e y = some (.int k (s : Int))) (hs : s ≤ 64) :
    Val P ⟨o, .binOp .shr t x y t', ty, pos, after, g⟩ n e Γ S w0 (.int .u64 ((a / 2 ^ s : Nat) : Int)) := by
  have := val_shr (P := P) (n := n) (Γ := Γ) (S := S) (w0 := w0) (d := o) (ty := ty) (pos := pos) (after := after) (g := g) (t := t) (t' := t') hx hy (by omega)
  have e1 : (a : Int).fdiv (2 ^ min (s : Int).toNat IntKind.u64.bits) = ((a / 2 ^ s : Nat) : Int) := by
    have : min (s : Int).toNat IntKind.u64.bits = s := by simp [IntKind.bits]; omega
    rw [this, Int.fdiv_eq_ediv_of_nonneg _ (Int.le_of_lt (Int.pow_pos (by decide)))]
    simp
  rwa [e1] at this

theorem val_byte {src dst : TypeId} {k : IntKind} {ds : TypeDesc} [Und P src ds] [Und P dst (.int .u8)] (hx : ev e x = some (.int k (a : Int))) :
    Val P ⟨o, .convert src dst x, ty, pos, after, g⟩ n e Γ S w0 (by8 (UInt8.ofNat a)) := by
  have := val_convert (P := P) (n := n) (Γ := Γ) (S := S) (w0 := w0) (d := o) (ty := ty) (pos := pos) (after := after) (g := g) (src := src) (dst := dst) hx
  rw [IntKind.wrap_u8] at this
  have e1 : by8 (UInt8.ofNat a) = .int .u8 ((a : Int) % 256) := by simp [by8]
  rwa [e1]
end ints
end rules
end Go.PK

/- The data of the chain as plain Lean, and how it lies in cells. Nothing of any program stands here. -/
namespace Go.PK

abbrev Root := Vector UInt8 32
abbrev Key := Vector UInt8 48
abbrev Sig := Vector UInt8 96
abbrev Ver := Vector UInt8 4

/-- a number of 64 bits as a value -/
abbrev u64 (n : UInt64) : Value := .int .u64 (n.toNat : Int)

structure Fork where
  prev : Ver
  cur : Ver
  epoch : UInt64
structure Checkpoint where
  epoch : UInt64
  root : Root
structure Validator where
  key : Key
  cred : Root
  eff : UInt64
  slashed : Bool
  elig : UInt64
  act : UInt64
  exit : UInt64
  wd : UInt64
structure Eth1 where
  deposits : Root
  count : UInt64
  block : Root
structure Header where
  slot : UInt64
  proposer : UInt64
  parent : Root
  state : Root
  body : Root
structure Committee where
  keys : Vector Key 8
  sum : Key

/-- a state, as plain data -/
structure StateD where
  genesis : UInt64
  groot : Root
  slot : UInt64
  fork : Fork
  header : Header
  blockRoots : Vector Root 8
  stateRoots : Vector Root 8
  history : List Root
  eth1 : Eth1
  votes : List Eth1
  deposits : UInt64
  validators : List Validator
  balances : List UInt64
  mixes : Vector Root 8
  slashings : Vector UInt64 8
  previous : List UInt8
  current : List UInt8
  bits : Vector Bool 4
  oldJust : Checkpoint
  just : Checkpoint
  final : Checkpoint
  scores : List UInt64
  sync : Committee
  nextSync : Committee

/-- a slice's address and room -/
structure PC where
  p : Option Addr
  c : Nat
abbrev PC.sl (a : PC) (n : Nat) : Value := .slice a.p n a.c

/-- where a state's lists lie -/
structure Addrs where
  history : PC
  votes : PC
  validators : PC
  balances : PC
  previous : PC
  current : PC
  scores : PC

/-! ## Cells -/

def rootsV {n k : Nat} (l : Vector (Vector UInt8 n) k) : List Value := l.toList.flatMap bv
def u64sV {k : Nat} (l : Vector UInt64 k) : List Value := l.toList.map u64
def boolsV {k : Nat} (l : Vector Bool k) : List Value := l.toList.map .bool

theorem flatMap_length_const {α β : Type} (f : α → List β) (n : Nat) : ∀ (l : List α), (∀ x ∈ l, (f x).length = n) → (l.flatMap f).length = l.length * n
  | [], _ => by simp
  | x :: r, h => by
    rw [List.flatMap_cons, List.length_append, h x (by simp), flatMap_length_const f n r (fun y hy => h y (by simp [hy])), List.length_cons, Nat.add_mul]; omega

@[simp] theorem bv_length {n : Nat} (r : Vector UInt8 n) : (bv r).length = n := by simp [bv]
theorem bv_one {n : Nat} (r : Vector UInt8 n) : ∀ v ∈ bv r, v.oneCell' = true := bs_one _

theorem rootsV_length {n k : Nat} (l : Vector (Vector UInt8 n) k) : (rootsV l).length = k * n := by
  rw [rootsV, flatMap_length_const _ n _ (fun x _ => bv_length x)]; simp
theorem rootsV_one {n k : Nat} (l : Vector (Vector UInt8 n) k) : ∀ v ∈ rootsV l, v.oneCell' = true := fun v hv => by
  obtain ⟨x, _, hx⟩ := List.mem_flatMap.1 hv
  exact bv_one x v hx

instance {l : Vector Root 8} : SegOk (256, rootsV l) := ⟨rootsV_length l, rootsV_one l⟩
instance {l : Vector Key 8} : SegOk (384, rootsV l) := ⟨rootsV_length l, rootsV_one l⟩
instance {l : Vector UInt64 8} : SegOk (8, u64sV l) := ⟨by simp [u64sV], fun v hv => by obtain ⟨x, _, rfl⟩ := List.mem_map.1 hv; rfl⟩
instance {l : Vector Bool 4} : SegOk (4, boolsV l) := ⟨by simp [boolsV], fun v hv => by obtain ⟨x, _, rfl⟩ := List.mem_map.1 hv; rfl⟩

abbrev forkS (f : Fork) : List Seg := [(4, bv f.prev), (4, bv f.cur), (1, [u64 f.epoch])]
abbrev ckS (c : Checkpoint) : List Seg := [(1, [u64 c.epoch]), (32, bv c.root)]
abbrev valS (v : Validator) : List Seg := [(48, bv v.key), (32, bv v.cred), (1, [u64 v.eff]), (1, [.bool v.slashed]), (1, [u64 v.elig]), (1, [u64 v.act]), (1, [u64 v.exit]), (1, [u64 v.wd])]
abbrev eth1S (x : Eth1) : List Seg := [(32, bv x.deposits), (1, [u64 x.count]), (32, bv x.block)]
abbrev headerS (h : Header) : List Seg := [(1, [u64 h.slot]), (1, [u64 h.proposer]), (32, bv h.parent), (32, bv h.state), (32, bv h.body)]
abbrev commS (c : Committee) : List Seg := [(384, rootsV c.keys), (48, bv c.sum)]

abbrev stateS (x : StateD) (a : Addrs) : List Seg :=
  [(1, [u64 x.genesis]), (32, bv x.groot), (1, [u64 x.slot]),
   (4, bv x.fork.prev), (4, bv x.fork.cur), (1, [u64 x.fork.epoch]),
   (1, [u64 x.header.slot]), (1, [u64 x.header.proposer]), (32, bv x.header.parent), (32, bv x.header.state), (32, bv x.header.body),
   (256, rootsV x.blockRoots), (256, rootsV x.stateRoots), (1, [a.history.sl x.history.length]),
   (32, bv x.eth1.deposits), (1, [u64 x.eth1.count]), (32, bv x.eth1.block),
   (1, [a.votes.sl x.votes.length]), (1, [u64 x.deposits]), (1, [a.validators.sl x.validators.length]), (1, [a.balances.sl x.balances.length]), (256, rootsV x.mixes), (8, u64sV x.slashings),
   (1, [a.previous.sl x.previous.length]), (1, [a.current.sl x.current.length]), (4, boolsV x.bits),
   (1, [u64 x.oldJust.epoch]), (32, bv x.oldJust.root), (1, [u64 x.just.epoch]), (32, bv x.just.root), (1, [u64 x.final.epoch]), (32, bv x.final.root),
   (1, [a.scores.sl x.scores.length]), (384, rootsV x.sync.keys), (48, bv x.sync.sum), (384, rootsV x.nextSync.keys), (48, bv x.nextSync.sum)]

def valC (v : Validator) : List Value := flat (valS v)
def eth1C (x : Eth1) : List Value := flat (eth1S x)
theorem valC_length (v : Validator) : (valC v).length = 86 := by simp [valC, flat]
theorem eth1C_length (v : Eth1) : (eth1C v).length = 65 := by simp [eth1C, flat]
theorem valC_one (x : Validator) : ∀ v ∈ valC x, v.oneCell' = true := flat_one (valS x) inferInstance
theorem eth1C_one (x : Eth1) : ∀ v ∈ eth1C x, v.oneCell' = true := flat_one (eth1S x) inferInstance

theorem SlV.posP {R sz p m c vs} (h : SlV R sz (.slice p m c) m vs) (h0 : 0 < m) : ∃ b o, p = some ⟨b, o, none⟩ ∧ R b o vs ∧ vs.length = m * sz := by
  cases h with
  | nil => cases h0
  | mk hc hr hl => exact ⟨_, _, rfl, hr, hl⟩

/-- The slice v holds these cells in w, and lies in none of these blocks. -/
abbrev Old (w : World) (S : List Nat) (sz : Nat) (v : Value) (m : Nat) (vs : List Value) : Prop := SlAt w sz v m vs ∧ Sep v vs S

theorem Old.pass {Γ S w0 w Δ A sz v m vs} (hm : Mem Γ S w0 w) (hΔ : Take Δ Γ A) (h : Old w0 S sz v m vs) : Old w (idsOf Δ) sz v m vs :=
  ⟨(SlV.old h.1 h.2).at hm, Sep.old hm hΔ h.1 h.2⟩
theorem Old.rd {w0 S sz v m vs} (h : Old w0 S sz v m vs) {Γ : List Chunk} : SlRd Γ S w0 sz v m vs := SlV.old h.1 h.2

/-- The state's lists as they lie in memory, each behind its slice. -/
structure ListsAt (w : World) (S : List Nat) (x : StateD) (a : Addrs) : Prop where
  history : Old w S 32 (a.history.sl x.history.length) x.history.length (x.history.flatMap bv)
  votes : Old w S 65 (a.votes.sl x.votes.length) x.votes.length (x.votes.flatMap eth1C)
  validators : Old w S 86 (a.validators.sl x.validators.length) x.validators.length (x.validators.flatMap valC)
  balances : Old w S 1 (a.balances.sl x.balances.length) x.balances.length (x.balances.map u64)
  previous : Old w S 1 (a.previous.sl x.previous.length) x.previous.length (bs x.previous)
  current : Old w S 1 (a.current.sl x.current.length) x.current.length (bs x.current)
  scores : Old w S 1 (a.scores.sl x.scores.length) x.scores.length (x.scores.map u64)

theorem ListsAt.pass {Γ S w0 w Δ A x a} (hm : Mem Γ S w0 w) (hΔ : Take Δ Γ A) (h : ListsAt w0 S x a) : ListsAt w (idsOf Δ) x a :=
  ⟨h.history.pass hm hΔ, h.votes.pass hm hΔ, h.validators.pass hm hΔ, h.balances.pass hm hΔ, h.previous.pass hm hΔ, h.current.pass hm hΔ, h.scores.pass hm hΔ⟩

/-! ## Elements of lists in cells -/

theorem drop_take_flatMap {α β : Type} (f : α → List β) (n : Nat) : ∀ (l : List α) (i : Nat) (h : i < l.length), (∀ x ∈ l, (f x).length = n) → ((l.flatMap f).drop (i * n)).take n = f l[i]
  | [], _, h, _ => by simp at h
  | x :: r, 0, _, hf => by
    have := hf x (by simp)
    simp [List.flatMap_cons, ← this]
  | x :: r, i + 1, h, hf => by
    have h1 := hf x (by simp)
    rw [List.flatMap_cons, Nat.add_mul, Nat.one_mul, List.drop_append, List.drop_eq_nil_of_le (by omega), h1, show i * n + n - n = i * n from by omega]
    simp only [List.nil_append, List.getElem_cons_succ]
    exact drop_take_flatMap f n r i (by simpa using h) (fun y hy => hf y (by simp [hy]))

theorem rootsV_at {n k : Nat} (l : Vector (Vector UInt8 n) k) (i : Nat) (h : i < k) : ((rootsV l).drop (i * n)).take n = bv l[i] := by
  have := drop_take_flatMap bv n l.toList i (by simpa using h) (fun x _ => bv_length x)
  simpa [rootsV] using this
end Go.PK

/- The calculus: handy forms; slices whose cells are read and written one by one. -/
namespace Go.PK
attribute [local semireducible] Val Rd

theorem Pick.erase {c : Chunk} : ∀ {Γ : List Chunk} {i : Nat}, Γ[i]? = some c → Pick c Γ (Γ.eraseIdx i)
  | [], i, h => by simp at h
  | x :: r, 0, h => by simp at h; subst h; exact .head
  | x :: r, i+1, h => by simpa using Pick.tail (Pick.erase (by simpa using h))

theorem SlV.pos {R sz v m vs} (h : SlV R sz v m vs) (h0 : 0 < m) : ∃ b o c, v = .slice (some ⟨b, o, none⟩) m c ∧ m ≤ c ∧ R b o vs ∧ vs.length = m * sz := by
  cases h with
  | nil => cases h0
  | mk hc hr hl => exact ⟨_, _, _, rfl, hc, hr, hl⟩

/-- A slice's shape. -/
theorem SlV.shape {R sz v m vs} (h : SlV R sz v m vs) : ∃ p c, v = .slice p m c := by
  cases h with
  | nil => exact ⟨_, _, rfl⟩
  | mk hc hr hl => exact ⟨_, _, rfl⟩

theorem take_mid {α : Type} {l vs : List α} {i M : Nat} (h : i + vs.length ≤ M) (hM : M ≤ l.length) :
    (l.take i ++ vs ++ l.drop (i + vs.length)).take M = (l.take M).take i ++ vs ++ (l.take M).drop (i + vs.length) := by
  have e : (l.take i ++ vs).length = i + vs.length := by simp; omega
  rw [List.take_append, List.take_of_length_le (by rw [e]; exact h), e, List.take_take, Nat.min_eq_left (by omega), List.drop_take]

section rules
variable {P : Program} {Q : Exit → Act → World → Prop} {n : Nat} {e : Env} {Γ Γ' Γc : List Chunk} {S : List Nat} {w0 : World} {ops : Array Oper} {rest : List Oper} {o : Oper} {ks : List Kd}
variable {ty : TypeId} {d : Option Nat} {pos : String} {after : Array Edge} {g : Option (Nat × Bool)} {t el : TypeId} {x y ix : Operand}

/-- A drawn region whose quiet operations read but the chunk at one place. -/
theorem WC_draw1 {id : Nat} {l : List Oper} [NoPan Q] (i : Nat) {c : Chunk} (hc : Γ[i]? = some c) (hm : P.follows .mixedOrders = true) (hpl : planOk l.toArray (kindsFrom false l) = true)
    (h : WD P l.toArray Q [c] (kindsFrom false l) l n e Γ S w0) : WC P (.region id l.toArray true) Q n e Γ S w0 :=
  WC_drawA [c] hm hpl (.cons (Pick.erase hc) .nil) h

theorem WC_draw2 {id : Nat} {l : List Oper} [NoPan Q] (i j : Nat) {c c' : Chunk} (hc : Γ[i]? = some c) (hc' : (Γ.eraseIdx i)[j]? = some c') (hm : P.follows .mixedOrders = true) (hpl : planOk l.toArray (kindsFrom false l) = true)
    (h : WD P l.toArray Q [c, c'] (kindsFrom false l) l n e Γ S w0) : WC P (.region id l.toArray true) Q n e Γ S w0 :=
  WC_drawA [c, c'] hm hpl (.cons (Pick.erase hc) (.cons (Pick.erase hc') .nil)) h

theorem Mem.slPos {w : World} {p : Option Addr} {m c sz : Nat} {xs : List Value} {el : TypeId} (hm : Mem Γ S w0 w) (hp : Pick (.sl (.slice p m c) m xs el sz) Γ Γ') (h0 : 0 < m) : ∃ b, p = some ⟨b, 0, none⟩ := by
  obtain ⟨⟨_, h | ⟨b, cap, cur, h3, _⟩⟩, _⟩ := hm.ok _ hp.mem
  · omega
  · simp at h3; exact ⟨b, h3.1⟩

theorem WC_slPos {c' : Code} {p : Option Addr} {m c sz : Nat} {xs : List Value} {el : TypeId} (hp : Pick (.sl (.slice p m c) m xs el sz) Γ Γ') (h0 : 0 < m) (h : ∀ b, p = some ⟨b, 0, none⟩ → WC P c' Q n e Γ S w0) : WC P c' Q n e Γ S w0 := fun a w st => by
  obtain ⟨b, hb⟩ := st.mem.slPos hp h0
  exact h b hb a w st
theorem WL_slPos {p : Option Addr} {m c sz : Nat} {xs : List Value} {el : TypeId} (hp : Pick (.sl (.slice p m c) m xs el sz) Γ Γ') (h0 : 0 < m) (h : ∀ b, p = some ⟨b, 0, none⟩ → WL P ops Q rest n e Γ S w0) : WL P ops Q rest n e Γ S w0 := fun a w st => by
  obtain ⟨b, hb⟩ := st.mem.slPos hp h0
  exact h b hb a w st

theorem Mem.slRd {w : World} {p : Option Addr} {m c sz : Nat} {xs : List Value} {el : TypeId} (hm : Mem Γ S w0 w) (hp : Pick (.sl (.slice p m c) m xs el sz) Γ Γ') : SlRd Γ S w0 sz (.slice p m c) m xs := by
  obtain ⟨⟨hl, h | ⟨b, cap, cur, h3, _, _, hmc, _⟩⟩, _⟩ := hm.ok _ hp.mem
  · obtain ⟨h, rfl⟩ := h
    simp at h
    obtain ⟨rfl, rfl⟩ := h
    have : xs = [] := by simpa using hl
    subst this
    exact .nil
  · simp at h3
    obtain ⟨rfl, rfl⟩ := h3
    exact .mk hmc (Rd.sl xs.length hp (by simp)) hl

/-- A slice of one's own may be read. -/
theorem WL_slRd {p : Option Addr} {m c sz : Nat} {xs : List Value} {el : TypeId} (hp : Pick (.sl (.slice p m c) m xs el sz) Γ Γ') (h : SlRd Γ S w0 sz (.slice p m c) m xs → WL P ops Q rest n e Γ S w0) : WL P ops Q rest n e Γ S w0 :=
  fun a w st => h (st.mem.slRd hp) a w st

theorem val_indexAddrN {k : IntKind} {z b o m c i : Nat} [hu : Und P t (.slice el)] [hz : Sz P el z] (hx : ev e x = some (.slice (some ⟨b, o, none⟩) m c)) (hi : ev e ix = some (.int k (i : Int))) (h1 : i < m) :
    Val P ⟨d, .indexAddr t x ix, ty, pos, after, g⟩ n e Γ S w0 (.pointer (some ⟨b, o + i * z, none⟩)) := val_indexAddr hx hi (by omega) (by omega)
theorem val_indexAddrN1 {k : IntKind} {b o m c i : Nat} [hu : Und P t (.slice el)] [hz : Sz P el 1] (hx : ev e x = some (.slice (some ⟨b, o, none⟩) m c)) (hi : ev e ix = some (.int k (i : Int))) (h1 : i < m) :
    Val P ⟨d, .indexAddr t x ix, ty, pos, after, g⟩ n e Γ S w0 (.pointer (some ⟨b, o + i, none⟩)) := by
  have := val_indexAddrN (z := 1) (d := d) (ty := ty) (pos := pos) (after := after) (g := g) (P := P) (t := t) (n := n) (Γ := Γ) (S := S) (w0 := w0) hx hi h1
  rwa [Nat.mul_one] at this
theorem val_indexAddr01 {k : IntKind} {b m c i : Nat} [hu : Und P t (.slice el)] [hz : Sz P el 1] (hx : ev e x = some (.slice (some ⟨b, 0, none⟩) m c)) (hi : ev e ix = some (.int k (i : Int))) (h1 : i < m) :
    Val P ⟨d, .indexAddr t x ix, ty, pos, after, g⟩ n e Γ S w0 (.pointer (some ⟨b, i, none⟩)) := by
  have := val_indexAddrN1 (d := d) (ty := ty) (pos := pos) (after := after) (g := g) (P := P) (t := t) (n := n) (Γ := Γ) (S := S) (w0 := w0) hx hi h1
  rwa [Nat.zero_add] at this

/-- a cell of a row that is known -/
theorem val_load_at {b o i : Nat} {vs : List Value} {v : Value} [IsPlain P t] (h : ev e x = some (.pointer (some ⟨b, o + i, none⟩))) (hr : Rd Γ S w0 b o vs) (hv : vs[i]? = some v) :
    Val P ⟨d, .load t x, ty, pos, after, g⟩ n e Γ S w0 v := val_load h (hr.sub 1 (i := i) (by
      have : i < vs.length := by rcases Nat.lt_or_ge i vs.length with h | h; exact h; rw [List.getElem?_eq_none h] at hv; cases hv
      rw [List.getElem?_eq_getElem this] at hv; cases hv
      rw [List.drop_eq_getElem_cons this]; rfl))
theorem val_load_sl {b i m c : Nat} {xs : List Value} {bt : TypeId} {sz : Nat} {v : Value} [IsPlain P t] (h : ev e x = some (.pointer (some ⟨b, i, none⟩))) (hp : Pick (.sl (.slice (some ⟨b, 0, none⟩) m c) m xs bt sz) Γ Γ') (hv : xs[i]? = some v) :
    Val P ⟨d, .load t x, ty, pos, after, g⟩ n e Γ S w0 v := by
  refine val_load_at (o := 0) (i := i) (vs := xs) (by rw [Nat.zero_add]; exact h) (Rd.sl xs.length hp (by simp)) hv

/-- Cells of a slice of one's own are written. -/
theorem WL_store_slk {b i m c k sz : Nat} {xs vs xs' : List Value} {bt : TypeId} {v : Value} [hsz : Sz P t k] (hw : wantedE ops e g = some true)
    (hx : ev e x = some (.pointer (some ⟨b, i, none⟩))) (hy : ev e y = some v) (hv : v.cells = vs.toArray) (hv1 : ∀ u ∈ vs, u.oneCell' = true) (hk : vs.length = k) (hi : i + k ≤ m * sz) (hxs : xs' = xs.take i ++ vs ++ xs.drop (i + k))
    {Γ' : List Chunk} (hp : Put (.sl (.slice (some ⟨b, 0, none⟩) m c) m xs bt sz) (.sl (.slice (some ⟨b, 0, none⟩) m c) m xs' bt sz) Γ Γ')
    (h : WL P ops Q rest n e Γ' S w0) : WL P ops Q (⟨none, .store t x y, ty, pos, after, g⟩ :: rest) n e Γ S w0 :=
  WL_loud hw fun a w st => by
    obtain ⟨⟨hl, hn | ⟨b', cap, cur, h3, hb0, h4, hmc, hcm, hcs, h5⟩⟩, hone⟩ := st.mem.ok _ hp.mem
    · simp at hn
    simp at h3
    obtain ⟨rfl, rfl⟩ := h3
    have hcur : w.heap[b]? = some (.cells cur.toList.toArray bt (0, 0)) := by simpa using h4
    have hms : m * sz ≤ c * sz := Nat.mul_le_mul_right _ hmc
    have hcl : cur.toList.length = c * sz := by simpa using hcs
    have hrun := run_storeAt_row (P := P) (w := w) (b := b) (o := i) (cur := cur.toList) (bt := bt) (t := t) (v := v) (vs := vs) hcur (by rw [hk]; exact hsz.h) hv hv1 (by omega)
    unfold Oper.wp
    have : (execOp a.eval ⟨none, .store t x y, ty, pos, after, g⟩).run P w = .ok .skip (w.setRow b (cur.toList.take i ++ vs ++ cur.toList.drop (i + vs.length)).toArray) := by
      simp [execOp, st.fits.eval hx, st.fits.eval hy, hrun]
    rw [this, Oper.upon_skip]
    refine h _ _ ⟨st.fits, ?_⟩
    obtain ⟨A, h1, h2⟩ := hp.perm
    refine st.mem.turn h1 h2 rfl rfl rfl (by simp) (fun k _ hk => setRow_other w b k _ (by simpa [idsOf, Chunk.ids] using hk)) (fun ch hc => ?_) (by simp [idsOf, Chunk.ids]) (fun i hi => by simp [idsOf, Chunk.ids] at hi ⊢; exact .inl hi)
    simp at hc; subst hc
    have hxl : xs'.length = m * sz := by rw [hxs]; simp; omega
    refine ⟨⟨hxl, .inr ⟨b, c, _, rfl, hb0, setRow_heap w b _ _ bt _ h4, hmc, hcm, ?_, ?_⟩⟩, fun u hu => ?_⟩
    · simp; omega
    · rw [hxs, ← h5, ← hk]
      exact take_mid (l := cur.toList) (by omega) (by omega)
    · rw [hxs] at hu
      rcases List.mem_append.1 hu with hu | hu
      · rcases List.mem_append.1 hu with hu | hu
        · exact hone u (List.mem_of_mem_take hu)
        · exact hv1 u hu
      · exact hone u (List.mem_of_mem_drop hu)

/-- A cell of a slice of one's own is written. -/
theorem WL_store_sl {b i m c : Nat} {xs : List Value} {bt : TypeId} {v : Value} [hsz : Sz P t 1] (hw : wantedE ops e g = some true)
    (hx : ev e x = some (.pointer (some ⟨b, i, none⟩))) (hy : ev e y = some v) (hv : v.oneCell' = true) (hi : i < m) (hl : xs.length = m)
    {Γ' : List Chunk} (hp : Put (.sl (.slice (some ⟨b, 0, none⟩) m c) m xs bt 1) (.sl (.slice (some ⟨b, 0, none⟩) m c) m (xs.set i v) bt 1) Γ Γ')
    (h : WL P ops Q rest n e Γ' S w0) : WL P ops Q (⟨none, .store t x y, ty, pos, after, g⟩ :: rest) n e Γ S w0 :=
  WL_store_slk (vs := [v]) hw hx hy (by cases v <;> first | rfl | cases hv) (fun u hu => by simp at hu; subst hu; exact hv) (k := 1) (sz := 1) rfl (by omega) (by rw [List.set_eq_take_append_cons_drop, if_pos (by omega)]; simp) hp h

theorem val_addN {t' : TypeId} {a b : Nat} (hx : ev e x = some (.int .i64 (a : Int))) (hy : ev e y = some (.int .i64 (b : Int))) (h : a + b < 9223372036854775808) :
    Val P ⟨d, .binOp .add t x y t', ty, pos, after, g⟩ n e Γ S w0 (.int .i64 ((a + b : Nat) : Int)) := by
  have := val_addI (P := P) (n := n) (Γ := Γ) (S := S) (w0 := w0) (o := d) (ty := ty) (pos := pos) (after := after) (g := g) (t := t) (t' := t') hx hy (by omega) (by omega)
  rwa [show (a : Int) + b = ((a + b : Nat) : Int) from by omega] at this

theorem val_shrN {t' : TypeId} {k : IntKind} {a s : Nat} (hx : ev e x = some (.int .i64 (a : Int))) (hy : ev e y = some (.int k (s : Int))) (hs : s ≤ 64) :
    Val P ⟨d, .binOp .shr t x y t', ty, pos, after, g⟩ n e Γ S w0 (.int .i64 ((a / 2 ^ s : Nat) : Int)) := by
  have := val_shr (P := P) (n := n) (Γ := Γ) (S := S) (w0 := w0) (d := d) (ty := ty) (pos := pos) (after := after) (g := g) (t := t) (t' := t') hx hy (by omega)
  have e1 : (a : Int).fdiv (2 ^ min (s : Int).toNat IntKind.i64.bits) = ((a / 2 ^ s : Nat) : Int) := by
    have : min (s : Int).toNat IntKind.i64.bits = s := by simp [IntKind.bits]; omega
    rw [this, Int.fdiv_eq_ediv_of_nonneg _ (Int.le_of_lt (Int.pow_pos (by decide)))]
    simp
  rwa [e1] at this

theorem QX_nil {z : Exit} (ty : TypeId) (sz : Nat) (h : QX z Q n e (.sl (.slice none 0 0) 0 [] ty sz :: Γ) S w0) : QX z Q n e Γ S w0 := fun a w st => h a w ⟨st.fits, st.mem.nilSl ty sz⟩

end rules
end Go.PK

/- The calculus: bits of numbers; a made slice as one's own. -/
namespace Go.PK
attribute [local semireducible] Val Rd

theorem wraps_i64' (n : Int) (h₀ : 0 ≤ n) (h₁ : n < 2 ^ 63) : IntKind.i64.wrap n = n := wrap_i64 (by omega) (by omega)
theorem wraps_u64' (n : Int) (h₀ : 0 ≤ n) (h₁ : n < 2 ^ 64) : IntKind.u64.wrap n = n := wrap_u64 (by omega) (by omega)

/-- The block of a fresh slice, as a slice of one's own. -/
theorem Chunk.ok.toSl {w : World} {b m sz : Nat} {vs : List Value} {el : TypeId} (h : (Chunk.blk b [(m * sz, vs)] el).ok w) (hm : m ≤ 9223372036854775807) : (Chunk.sl (.slice (some ⟨b, 0, none⟩) m m) m vs el sz).ok w := by
  obtain ⟨h1, h2⟩ := h
  have hl : vs.length = m * sz := h2.head.len
  simp only [flat, List.append_nil] at h1
  exact ⟨⟨hl, .inr ⟨b, m, _, rfl, Nat.zero_le _, h1, Nat.le_refl _, by unfold maxLen; omega, by simp [hl], by rw [List.take_of_length_le (by simp [hl])]⟩⟩, by
    have := flat_one _ h2
    simpa [flat] using this⟩

section rules
variable {P : Program} {Q : Exit → Act → World → Prop} {n : Nat} {e : Env} {Γ Γ' Γc : List Chunk} {S : List Nat} {w0 : World} {ops : Array Oper} {rest : List Oper} {o : Oper} {ks : List Kd}
variable {ty : TypeId} {d : Option Nat} {pos : String} {after : Array Edge} {g : Option (Nat × Bool)} {t t' el : TypeId} {x y ix : Operand}

theorem WL_toSl {b m sz : Nat} {vs : List Value} {el : TypeId} (hp : Put (.blk b [(m * sz, vs)] el) (.sl (.slice (some ⟨b, 0, none⟩) m m) m vs el sz) Γ Γ') (hm : m ≤ 9223372036854775807) (h : WL P ops Q rest n e Γ' S w0) : WL P ops Q rest n e Γ S w0 := fun a w st => by
  refine h a w ⟨st.fits, ?_⟩
  obtain ⟨A, h1, h2⟩ := hp.perm
  exact st.mem.turn h1 h2 rfl rfl rfl (Nat.le_refl _) (fun _ _ _ => rfl) (fun c hc => by simp at hc; subst hc; exact (st.mem.ok _ hp.mem).toSl hm) (by simp [idsOf, Chunk.ids]) (fun i hi => by simp [idsOf, Chunk.ids] at hi ⊢; exact .inl hi)

theorem val_and7 {a : Nat} (hx : ev e x = some (.int .i64 (a : Int))) (hy : ev e y = some (.int .i64 7)) (h : a < 9223372036854775808) :
    Val P ⟨d, .binOp .and t x y t', ty, pos, after, g⟩ n e Γ S w0 (.int .i64 ((a % 8 : Nat) : Int)) := by
  have := val_and (P := P) (n := n) (Γ := Γ) (S := S) (w0 := w0) (d := d) (ty := ty) (pos := pos) (after := after) (g := g) (t := t) (t' := t') hx hy
  rwa [show bits .and .i64 (a : Int) 7 = ((a % 8 : Nat) : Int) from (bits_mask .i64 63 (by decide) wraps_i64' 3 (by decide) a (by omega) (by omega)).trans (by simp)] at this

theorem val_orN {a b : Nat} (hx : ev e x = some (.int .i64 (a : Int))) (hy : ev e y = some (.int .i64 (b : Int))) (ha : a < 9223372036854775808) (hb : b < 9223372036854775808) :
    Val P ⟨d, .binOp .or t x y t', ty, pos, after, g⟩ n e Γ S w0 (.int .i64 ((a ||| b : Nat) : Int)) := by
  have := val_or (P := P) (n := n) (Γ := Γ) (S := S) (w0 := w0) (d := d) (ty := ty) (pos := pos) (after := after) (g := g) (t := t) (t' := t') hx hy
  rwa [(bits_nat .i64 63 (by decide) wraps_i64' a b ha hb).2] at this

theorem val_orU {a b : Nat} (hx : ev e x = some (.int .u64 (a : Int))) (hy : ev e y = some (.int .u64 (b : Int))) (ha : a < 18446744073709551616) (hb : b < 18446744073709551616) :
    Val P ⟨d, .binOp .or t x y t', ty, pos, after, g⟩ n e Γ S w0 (.int .u64 ((a ||| b : Nat) : Int)) := by
  have := val_or (P := P) (n := n) (Γ := Γ) (S := S) (w0 := w0) (d := d) (ty := ty) (pos := pos) (after := after) (g := g) (t := t) (t' := t') hx hy
  rwa [(bits_nat .u64 64 (by decide) wraps_u64' a b ha hb).2] at this

theorem val_orB {a b : UInt8} (hx : ev e x = some (by8 a)) (hy : ev e y = some (by8 b)) :
    Val P ⟨d, .binOp .or t x y t', ty, pos, after, g⟩ n e Γ S w0 (by8 (a ||| b)) := by
  have := val_or (P := P) (n := n) (Γ := Γ) (S := S) (w0 := w0) (d := d) (ty := ty) (pos := pos) (after := after) (g := g) (t := t) (t' := t') hx hy
  rwa [(bits_nat .u8 8 (by decide) wraps_u8 a.toNat b.toNat a.toNat_lt b.toNat_lt).2, ← UInt8.toNat_or] at this

theorem val_shlB1 {k : IntKind} {s : Nat} (hx : ev e x = some (.int .u8 1)) (hy : ev e y = some (.int k (s : Int))) (hs : s < 8) :
    Val P ⟨d, .binOp .shl t x y t', ty, pos, after, g⟩ n e Γ S w0 (by8 (UInt8.ofNat (2 ^ s))) := by
  have := val_shl (P := P) (n := n) (Γ := Γ) (S := S) (w0 := w0) (d := d) (ty := ty) (pos := pos) (after := after) (g := g) (t := t) (t' := t') hx hy (by omega)
  have e1 : IntKind.u8.wrap (1 * 2 ^ min (s : Int).toNat IntKind.u8.bits) = ((UInt8.ofNat (2 ^ s)).toNat : Int) := by
    match s, hs with
    | 0, _ => rfl
    | 1, _ => rfl
    | 2, _ => rfl
    | 3, _ => rfl
    | 4, _ => rfl
    | 5, _ => rfl
    | 6, _ => rfl
    | 7, _ => rfl
  rwa [e1] at this

theorem val_shlN {k : IntKind} {a s : Nat} (hx : ev e x = some (.int .i64 (a : Int))) (hy : ev e y = some (.int k (s : Int))) (hs : s ≤ 63) (h : a * 2 ^ s < 9223372036854775808) :
    Val P ⟨d, .binOp .shl t x y t', ty, pos, after, g⟩ n e Γ S w0 (.int .i64 ((a * 2 ^ s : Nat) : Int)) := by
  have := val_shl (P := P) (n := n) (Γ := Γ) (S := S) (w0 := w0) (d := d) (ty := ty) (pos := pos) (after := after) (g := g) (t := t) (t' := t') hx hy (by omega)
  have e1 : IntKind.i64.wrap ((a : Int) * 2 ^ min (s : Int).toNat IntKind.i64.bits) = ((a * 2 ^ s : Nat) : Int) := by
    have : min (s : Int).toNat IntKind.i64.bits = s := by simp [IntKind.bits]; omega
    rw [this, show (a : Int) * 2 ^ s = ((a * 2 ^ s : Nat) : Int) from by simp]
    exact wrap_i64 (by omega) (by omega)
  rwa [e1] at this

theorem val_shlU {k : IntKind} {a s : Nat} (hx : ev e x = some (.int .u64 (a : Int))) (hy : ev e y = some (.int k (s : Int))) (hs : s ≤ 63) (h : a * 2 ^ s < 18446744073709551616) :
    Val P ⟨d, .binOp .shl t x y t', ty, pos, after, g⟩ n e Γ S w0 (.int .u64 ((a * 2 ^ s : Nat) : Int)) := by
  have := val_shl (P := P) (n := n) (Γ := Γ) (S := S) (w0 := w0) (d := d) (ty := ty) (pos := pos) (after := after) (g := g) (t := t) (t' := t') hx hy (by omega)
  have e1 : IntKind.u64.wrap ((a : Int) * 2 ^ min (s : Int).toNat IntKind.u64.bits) = ((a * 2 ^ s : Nat) : Int) := by
    have : min (s : Int).toNat IntKind.u64.bits = s := by simp [IntKind.bits]; omega
    rw [this, show (a : Int) * 2 ^ s = ((a * 2 ^ s : Nat) : Int) from by simp]
    exact wrap_u64 (by omega) (by omega)
  rwa [e1] at this

theorem val_shrB {k : IntKind} {a : UInt8} {s : Nat} (hx : ev e x = some (by8 a)) (hy : ev e y = some (.int k (s : Int))) (hs : s ≤ 8) :
    Val P ⟨d, .binOp .shr t x y t', ty, pos, after, g⟩ n e Γ S w0 (by8 (UInt8.ofNat (a.toNat / 2 ^ s))) := by
  have := val_shr (P := P) (n := n) (Γ := Γ) (S := S) (w0 := w0) (d := d) (ty := ty) (pos := pos) (after := after) (g := g) (t := t) (t' := t') hx hy (by omega)
  have e1 : (a.toNat : Int).fdiv (2 ^ min (s : Int).toNat IntKind.u8.bits) = ((UInt8.ofNat (a.toNat / 2 ^ s)).toNat : Int) := by
    have : min (s : Int).toNat IntKind.u8.bits = s := by simp [IntKind.bits]; omega
    rw [this, Int.fdiv_eq_ediv_of_nonneg _ (Int.le_of_lt (Int.pow_pos (by decide)))]
    have h1 := a.toNat_lt
    have h2 : a.toNat / 2 ^ s ≤ a.toNat := Nat.div_le_self _ _
    rw [UInt8.toNat_ofNat_of_lt' (Nat.lt_of_le_of_lt h2 h1)]
    simp
  rwa [e1] at this

theorem val_convU8 {src dst : TypeId} {a : UInt8} {ds : TypeDesc} [Und P src ds] [Und P dst (.int .i64)] (hx : ev e x = some (by8 a)) :
    Val P ⟨d, .convert src dst x, ty, pos, after, g⟩ n e Γ S w0 (.int .i64 (a.toNat : Int)) := by
  have := val_convert (P := P) (n := n) (Γ := Γ) (S := S) (w0 := w0) (d := d) (ty := ty) (pos := pos) (after := after) (g := g) (src := src) (dst := dst) hx
  have h1 := a.toNat_lt
  rwa [wrap_i64 (by omega) (by omega)] at this

theorem val_convU8u {src dst : TypeId} {a : UInt8} {ds : TypeDesc} [Und P src ds] [Und P dst (.int .u64)] (hx : ev e x = some (by8 a)) :
    Val P ⟨d, .convert src dst x, ty, pos, after, g⟩ n e Γ S w0 (.int .u64 (a.toNat : Int)) := by
  have := val_convert (P := P) (n := n) (Γ := Γ) (S := S) (w0 := w0) (d := d) (ty := ty) (pos := pos) (after := after) (g := g) (src := src) (dst := dst) hx
  have h1 := a.toNat_lt
  rwa [wrap_u64 (by omega) (by omega)] at this

end rules
end Go.PK

/- The calculus: rows of arrays and of slices; chunks moved. -/
namespace Go.PK
attribute [local semireducible] Val Rd

theorem flatMap_take_succ {α β : Type} (f : α → List β) (l : List α) (i : Nat) (h : i < l.length) : (l.take (i + 1)).flatMap f = (l.take i).flatMap f ++ f l[i] := by
  rw [List.take_succ_eq_append_getElem h, List.flatMap_append]; simp

section rules
variable {P : Program} {Q : Exit → Act → World → Prop} {n : Nat} {e : Env} {Γ Γ' Γc Δ A : List Chunk} {S : List Nat} {w0 : World} {ops : Array Oper} {rest : List Oper} {o : Oper} {ks : List Kd} {c : Chunk}
variable {ty : TypeId} {d : Option Nat} {pos : String} {after : Array Edge} {g : Option (Nat × Bool)} {t t' el : TypeId} {x y ix : Operand}

theorem WL_mid (h : WL P ops Q rest n e (Δ ++ c :: A) S w0) : WL P ops Q rest n e (c :: (Δ ++ A)) S w0 := fun a w st => h a w ⟨st.fits, st.mem.perm List.perm_middle.symm⟩
theorem WC_mid {z : Code} (h : WC P z Q n e (Δ ++ c :: A) S w0) : WC P z Q n e (c :: (Δ ++ A)) S w0 := fun a w st => h a w ⟨st.fits, st.mem.perm List.perm_middle.symm⟩

/-- a row of a slice, as a whole -/
theorem val_load_row {b o i z : Nat} {vs : List Value} {q : List Seg} [IsAgg P t] [Sz P t z] (h : ev e x = some (.pointer (some ⟨b, o + i * z, none⟩))) (hr : Rd Γ S w0 b o vs) (hv : (vs.drop (i * z)).take z = flat q) (hl : (flat q).length = z) :
    Val P ⟨d, .load t x, ty, pos, after, g⟩ n e Γ S w0 (aggS q) := val_load_agg h (hr.sub z hv.symm) hl

theorem val_indexRow {k : IntKind} {len z i : Nat} {vs us : List Value} [Und P t (.array len el)] [Sz P el z] [IsAgg P el] {l : Nat} (hx : ev e x = some (aggS [(l, vs)])) (hi : ev e ix = some (.int k (i : Int))) (h1 : i < len)
    (hv : (vs.drop (i * z)).take z = us) : Val P ⟨d, .index t x ix, ty, pos, after, g⟩ n e Γ S w0 (aggS [(z, us)]) :=
  val_index hx hi (by omega) (by omega) (by simpa [flat] using hv.symm)

theorem val_indexCell {k : IntKind} {len i : Nat} {vs : List Value} {v : Value} [Und P t (.array len el)] [Sz P el 1] [IsPlain P el] {l : Nat} (hx : ev e x = some (aggS [(l, vs)])) (hi : ev e ix = some (.int k (i : Int))) (h1 : i < len)
    (hv : vs[i]? = some v) : Val P ⟨d, .index t x ix, ty, pos, after, g⟩ n e Γ S w0 v :=
  val_index1 hx hi (by omega) (by omega) (by simpa [flat] using hv)
/-- What is known where two ways meet. -/
def Joins {G : Type} (facts : G → Prop) (env : G → Env) (Δ : G → List Chunk) (n : Nat) (S : List Nat) (w0 : World) : Act → World → Prop := fun a w => ∃ g, facts g ∧ St n (env g) (Δ g) S w0 a w

theorem WC_cut {G : Type} {c c2 : Code} {Q' : Exit → Act → World → Prop} (facts : G → Prop) (env : G → Env) (Δ : G → List Chunk)
    (h1 : WC P c (Exit.then (Joins facts env Δ n S w0) Q) n e Γ S w0) (h2 : ∀ g, facts g → WC P c2 Q' n (env g) (Δ g) S w0) : WC P c (Exit.then (Code.wp P c2 Q') Q) n e Γ S w0 := fun a w st =>
  Code.wp_mono (fun ex a' w' h => by
    cases ex with
    | normal => obtain ⟨g, hg, sg⟩ := h; exact h2 g hg a' w' sg
    | _ => exact h) (h1 a w st)

theorem QX_join {G : Type} {facts : G → Prop} {env : G → Env} {Δ : G → List Chunk} (g : G) (hf : facts g) (hs : Sub (env g) e) (hΔ : Sel (Δ g) Γ) : QX .normal (Exit.then (Joins facts env Δ n S w0) Q) n e Γ S w0 :=
  fun _ _ st => ⟨g, hf, st.fits.sub hs, st.mem.sel hΔ⟩

theorem val_indexAddrP {k : IntKind} {z b o m c i : Nat} {p : Option Addr} (hp : p = some ⟨b, o, none⟩) [Und P t (.slice el)] [Sz P el z] (hx : ev e x = some (.slice p m c)) (hi : ev e ix = some (.int k (i : Int))) (h1 : i < m) :
    Val P ⟨d, .indexAddr t x ix, ty, pos, after, g⟩ n e Γ S w0 (.pointer (some ⟨b, o + i * z, none⟩)) := by subst hp; exact val_indexAddrN hx hi h1
theorem val_indexAddrP1 {k : IntKind} {b o m c i : Nat} {p : Option Addr} (hp : p = some ⟨b, o, none⟩) [Und P t (.slice el)] [Sz P el 1] (hx : ev e x = some (.slice p m c)) (hi : ev e ix = some (.int k (i : Int))) (h1 : i < m) :
    Val P ⟨d, .indexAddr t x ix, ty, pos, after, g⟩ n e Γ S w0 (.pointer (some ⟨b, o + i, none⟩)) := by subst hp; exact val_indexAddrN1 hx hi h1

end rules

theorem SlV.posOld {w0 S sz p m c vs} (h : SlAt w0 sz (.slice p m c) m vs) (hs : Sep (.slice p m c) vs S) (h0 : 0 < m) (hz : 0 < sz) : ∃ b o, p = some ⟨b, o, none⟩ ∧ (∀ Γ, Rd Γ S w0 b o vs) := by
  cases h with
  | nil => cases h0
  | @mk b o m c vs hc hr hl =>
    have hne : vs ≠ [] := by
      intro h; subst h
      have : 0 < m * sz := Nat.mul_pos h0 hz
      simp at hl; omega
    refine ⟨b, o, rfl, fun Γ => Rd.old hr (rangeAt_lt hr hne) ?_⟩
    rcases hs with h | h
    · exact absurd h hne
    · exact h _ (by simp [vIds])
end Go.PK

/- The calculus: slices of slices. -/
namespace Go.PK
attribute [local semireducible] Val Rd

section rules
variable {P : Program} {Q : Exit → Act → World → Prop} {n : Nat} {e : Env} {Γ Γ' Γc Δ A : List Chunk} {S : List Nat} {w0 : World} {ops : Array Oper} {rest : List Oper} {o : Oper} {ks : List Kd}
variable {ty : TypeId} {d : Option Nat} {pos : String} {after : Array Edge} {g : Option (Nat × Bool)} {t t' el : TypeId} {x y ix lo hi : Operand}

/-- the address of a slice's part -/
abbrev subA (b o l c : Nat) : Option Addr := some ⟨b, if c = l then o else o + l, none⟩

theorem val_sliceN {b o m c l h : Nat} {k k' : IntKind} [Und P t (.slice el)] [Sz P el 1] (hx : ev e x = some (.slice (some ⟨b, o, none⟩) m c)) (hl : ev e lo = some (.int k (l : Int))) (hh : ev e hi = some (.int k' (h : Int)))
    (h1 : l ≤ h) (h2 : h ≤ c) : Val P ⟨d, .slice t x (some lo) (some hi) none, ty, pos, after, g⟩ n e Γ S w0 (.slice (subA b o l c) (h - l) (c - l)) := by
  have := val_slice (P := P) (d := d) (ty := ty) (pos := pos) (after := after) (g := g) (t := t) (n := n) (Γ := Γ) (S := S) (w0 := w0) hx hl hh (by omega) (by omega) (by omega)
  simp only [Int.toNat_natCast, Nat.mul_one] at this
  split at this <;> simp_all [subA]

theorem val_slicePart {b o m c l h j : Nat} {k k' : IntKind} [Und P t (.slice el)] [Sz P el 1] (hx : ev e x = some (.slice (some ⟨b, o, none⟩) m c)) (hl : ev e lo = some (.int k (l : Int))) (hh : ev e hi = some (.int k' (h : Int)))
    (hj : h = l + j) (h1 : 0 < j) (h2 : h ≤ c) : Val P ⟨d, .slice t x (some lo) (some hi) none, ty, pos, after, g⟩ n e Γ S w0 (.slice (some ⟨b, o + l, none⟩) j (c - l)) := by
  have := val_sliceN (P := P) (d := d) (ty := ty) (pos := pos) (after := after) (g := g) (t := t) (n := n) (Γ := Γ) (S := S) (w0 := w0) hx hl hh (by omega) h2
  rw [subA, if_neg (by omega), show h - l = j from by omega] at this
  exact this
end rules

theorem Old.sub {w S b o m c vs l k} (h : Old w S 1 (.slice (some ⟨b, o, none⟩) m c) m vs) (hk : l + k ≤ m) : Old w S 1 (.slice (subA b o l c) k (c - l)) k ((vs.drop l).take k) := by
  obtain ⟨h1, h2⟩ := h
  cases h1 with
  | mk hc hr hl =>
    refine ⟨.mk (by omega) (fun j v hj => ?_) (by simp; omega), ?_⟩
    · have hjk : j < k := by
        rcases Nat.lt_or_ge j k with h | h
        · exact h
        · rw [List.getElem?_eq_none (by simp; omega)] at hj; cases hj
      have hv : vs[l + j]? = some v := by rw [List.getElem?_take, if_pos hjk, List.getElem?_drop] at hj; exact hj
      have := hr (l + j) v hv
      rw [if_neg (by omega), Nat.add_assoc]
      exact this
    · rcases h2 with h | h
      · left; subst h; simp
      · right; intro i hi; simp [vIds] at hi; exact h i (by simp [vIds, hi])

theorem Old.part {w S b o m c vs l k} (h : Old w S 1 (.slice (some ⟨b, o, none⟩) m c) m vs) (hk : l + k ≤ m) (h0 : 0 < k) : Old w S 1 (.slice (some ⟨b, o + l, none⟩) k (c - l)) k ((vs.drop l).take k) := by
  have hc : m ≤ c := by cases h.1 with | mk hc _ _ => exact hc
  have := h.sub hk
  rw [subA, if_neg (by omega)] at this
  exact this
end Go.PK

/- The calculus: struct literals; slices held against nil; numbers taken back. -/
namespace Go.PK
attribute [local semireducible] Val Rd

/-- where a struct's fields lie -/
def placesOf (P : Program) (t : TypeId) : Option (List (Nat × Nat)) :=
  match P.underlying t with
  | some (.struct fs) => fs.toList.mapM fun f => (P.info? f.type).map fun i => (f.offset, i.size)
  | _ => none

theorem run_places {P : Program} {w : World} : ∀ (l : List Field) (r : List (Nat × Nat)), (l.mapM fun f => (P.info? f.type).map fun i => (f.offset, i.size)) = some r →
    (l.mapM fun f => (do pure (f.offset, ← sizeOf f.type) : Sem (Nat × Nat))).run P w = .ok r w
  | [], r, h => by simp at h; subst h; simp
  | f :: l, r, h => by
    simp only [List.mapM_cons, Option.bind_eq_bind, Option.bind_eq_some_iff] at h
    obtain ⟨a, ha, b, hb, hr⟩ := h
    cases hi : P.info? f.type with
    | none => simp [hi] at ha
    | some i =>
      simp [hi] at ha
      subst ha
      simp at hr
      subst hr
      have ih := run_places (w := w) l b hb
      simp only [List.mapM_cons, Sem.run_bind, sizeOf, typeInfo, run_program, Result.andThen_ok, hi, Sem.run_pure] at ih ⊢
      rw [ih]; rfl

section rules
variable {P : Program} {Q : Exit → Act → World → Prop} {n : Nat} {e : Env} {Γ Γ' Γc Δ A : List Chunk} {S : List Nat} {w0 : World} {ops : Array Oper} {rest : List Oper} {o : Oper} {ks : List Kd}
variable {ty : TypeId} {d : Option Nat} {pos : String} {after : Array Edge} {g : Option (Nat × Bool)} {t t' el : TypeId} {x y ix lo hi : Operand}

/-- `T{f: x, ..}` -/
theorem val_build {ps : List (Nat × Operand)} {vs : List (Nat × Value)} {pl : List (Nat × Nat)} {q : List Seg} {cells : List Value} [hze : Zer P t q] (hpl : placesOf P t = some pl)
    (hargs : ps.map (fun p => (p.1, ev e p.2)) = vs.map (fun p => (p.1, some p.2))) (hfill : Instr.fill (pl.toArray[·]?) (flat q).toArray vs = some cells.toArray) :
    Val P ⟨d, .build t ps.toArray, ty, pos, after, g⟩ n e Γ S w0 (.agg cells.toArray) := fun a w hf _ => by
  unfold placesOf at hpl
  split at hpl
  · rename_i fs hu
    have hr := run_places (P := P) (w := w) _ _ hpl
    have hze' := hze.h
    have hv : (ps.toArray.map fun (p : Nat × Operand) => (p.1, a.eval p.2)).toList = vs := by
      have key : ∀ (ps : List (Nat × Operand)) (vs : List (Nat × Value)), ps.map (fun p => (p.1, ev e p.2)) = vs.map (fun p => (p.1, some p.2)) → ps.map (fun p => (p.1, a.eval p.2)) = vs := by
        intro ps
        induction ps with
        | nil => intro vs h; cases vs with
          | nil => rfl
          | cons b r => simp at h
        | cons p ps ih => intro vs h; cases vs with
          | nil => simp at h
          | cons b r =>
            simp only [List.map_cons, List.cons.injEq, Prod.mk.injEq] at h ⊢
            obtain ⟨⟨h1, h2⟩, h3⟩ := h
            rw [ih r h3, hf.eval h2, h1]
            exact ⟨rfl, rfl⟩
      simpa using key ps vs hargs
    cases hie : P.info? t with
    | none => simp [hie] at hze'
    | some ie =>
      simp [hie] at hze'
      obtain ⟨z, hzz, hze'⟩ : ∃ z, ie.zero = some z ∧ z.cells = (flat q).toArray := by
        cases hzz : ie.zero with
        | none => simp [hzz] at hze'
        | some z => simp [hzz] at hze'; exact ⟨z, rfl, hze'⟩
      have hrun : (Instr.build t (ps.toArray.map fun (p : Nat × Operand) => (p.1, a.eval p.2))).run P w = .ok (.agg cells.toArray) w := by
        unfold Instr.build
        simp only [Sem.run_bind, zeroValue, typeInfo, run_program, Result.andThen_ok, hie, Sem.run_pure, hzz, run_underlying hu, hv, hze', Array.mapM_eq_mapM_toList, Sem.run_map, hr, hfill]
      rw [List.map_toArray] at hrun
      simp [execOp, hrun]
  · cases hpl

theorem val_eqlNil {p : Option Addr} {m c : Nat} [hu : Und P t (.slice el)] (hx : ev e x = some (.slice p m c)) (hy : ev e y = some (.slice none 0 0)) :
    Val P ⟨d, .binOp .eql t x y t', ty, pos, after, g⟩ n e Γ S w0 (.bool p.isNone) := fun a w hf _ => by
  have h := Lib.run_eql_slice_nil w t el p m c 0 0 hu.h
  simp [execOp, hf.eval hx, hf.eval hy, eqGuard, h]

theorem val_subN {a b : Nat} (hx : ev e x = some (.int .i64 (a : Int))) (hy : ev e y = some (.int .i64 (b : Int))) (h : b ≤ a) (h63 : a < 9223372036854775808) :
    Val P ⟨d, .binOp .sub t x y t', ty, pos, after, g⟩ n e Γ S w0 (.int .i64 ((a - b : Nat) : Int)) := by
  have := val_subI (P := P) (n := n) (Γ := Γ) (S := S) (w0 := w0) (o := d) (ty := ty) (pos := pos) (after := after) (g := g) (t := t) (t' := t') hx hy (by omega) (by omega)
  rwa [show (a : Int) - b = ((a - b : Nat) : Int) from by omega] at this
end rules
end Go.PK

/- The calculus: rows written into an array, one behind the other. -/
namespace Go.PK
attribute [local semireducible] Val Rd

theorem drop_take_append {α : Type} {a b : List α} {j k : Nat} (h : j + k ≤ a.length) : ((a ++ b).drop j).take k = (a.drop j).take k := by
  rw [List.drop_append_of_le_length (by omega), List.take_append_of_le_length (by simp; omega)]

/-- the first i rows written, zeros behind -/
def rowsTo {n k : Nat} (l : Vector (Vector UInt8 n) k) (i : Nat) : List Value := (l.toList.take i).flatMap bv ++ List.replicate ((k - i) * n) (.int .u8 0)
theorem rowsTo_zero {n k : Nat} (l : Vector (Vector UInt8 n) k) : rowsTo l 0 = List.replicate (k * n) (.int .u8 0) := by simp [rowsTo]
theorem rowsTo_len {n k : Nat} (l : Vector (Vector UInt8 n) k) (i : Nat) (h : i ≤ k) : (rowsTo l i).length = k * n := by
  rw [rowsTo, List.length_append, flatMap_length_const bv n _ (fun x _ => bv_length x), List.length_take, List.length_replicate, ← Nat.add_mul]
  congr 1; simp; omega
theorem rowsTo_succ {n k : Nat} (l : Vector (Vector UInt8 n) k) (i : Nat) (h : i < k) : (rowsTo l i).take (i * n) ++ bv l[i] ++ (rowsTo l i).drop (i * n + n) = rowsTo l (i + 1) := by
  have hl : ((l.toList.take i).flatMap bv).length = i * n := by
    rw [flatMap_length_const bv n _ (fun x _ => bv_length x), List.length_take]; congr 1; simp; omega
  rw [rowsTo, rowsTo, List.take_left' hl, List.drop_append, List.drop_eq_nil_of_le (by omega), hl, flatMap_take_succ bv l.toList i (by simpa using h)]
  simp only [List.nil_append, List.append_assoc, Vector.getElem_toList]
  congr 2
  rw [List.drop_replicate]
  congr 1
  rw [show k - i = (k - (i + 1)) + 1 from by omega, Nat.add_mul]; omega
theorem rowsTo_all {n k : Nat} (l : Vector (Vector UInt8 n) k) : rowsTo l k = rootsV l := by
  simp [rowsTo, rootsV, List.take_of_length_le]

section rules
variable {P : Program} {Q : Exit → Act → World → Prop} {n : Nat} {e : Env} {Γ Γ' Γc Δ A : List Chunk} {S : List Nat} {w0 : World} {ops : Array Oper} {rest : List Oper} {o : Oper} {ks : List Kd}
variable {ty : TypeId} {d : Option Nat} {pos : String} {after : Array Edge} {g : Option (Nat × Bool)} {t t' el : TypeId} {x y ix lo hi : Operand}

theorem val_indexAddr_arrC {k : IntKind} {z b o len i : Nat} [hu : Und P t (.array len el)] [hz : Sz P el z] (hx : ev e x = some (.pointer (some ⟨b, o, none⟩))) (hi : ev e ix = some (.int k (i : Int))) (h1 : i < len) :
    Val P ⟨d, .indexAddr t x ix, ty, pos, after, g⟩ n e Γ S w0 (.pointer (some ⟨b, i * z + o, none⟩)) := by
  have := val_indexAddr_arr (P := P) (d := d) (ty := ty) (pos := pos) (after := after) (g := g) (t := t) (n := n) (Γ := Γ) (S := S) (w0 := w0) hx hi (by omega) (by omega)
  rwa [Int.toNat_natCast, Nat.add_comm] at this
end rules
end Go.PK

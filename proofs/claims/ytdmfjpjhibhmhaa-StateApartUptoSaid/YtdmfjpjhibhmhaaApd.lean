/- StateApart: states that differ have unlike bytes. (Part 4: Open.) -/
import Derived.Test.YtdmfjpjhibhmhaaApc
import Derived.OpenShut
import Derived.Deep.Slices

/- What an argument reads as: its cells as plain data. Nothing of any program's text stands here. -/
namespace Go.PK
open Go.Deep

section
variable {H : Type} {enc : TypeId × Value → H} {P : Program} {w : World} {sp : Nat → Bool} {t e : TypeId}

/-- The cells read at this type, as this datum. -/
def Reads (enc : TypeId × Value → H) (P : Program) (w : World) (sp : Nat → Bool) (t : TypeId) (cs : List Value) (d : DataW H) : Prop := ∃ n ps, DataW.trod enc P w 0 sp true n t cs = some (d, ps)

theorem Sz.cells {t z : Nat} [h : Sz P t z] : P.cellsOf t = z := by
  have := h.h
  simp [Program.cellsOf, this]

theorem Reads.num64 [h : Und P t (.int .u64)] {cs : List Value} {d : DataW H} (hr : Reads enc P w sp t cs d) : ∃ n : UInt64, cs = [u64 n] := by
  obtain ⟨m, ps, hr⟩ := hr
  obtain ⟨n, rfl, _, hw⟩ := DataW.trod_int h.h hr
  have hx : 0 ≤ n ∧ n ≤ 18446744073709551615 := by simpa [Lit.wf, IntKind.min, IntKind.max, IntKind.signed, IntKind.bits] using hw
  refine ⟨UInt64.ofNat n.toNat, ?_⟩
  have : (UInt64.ofNat n.toNat).toNat = n.toNat := UInt64.toNat_ofNat_of_lt' (by show n.toNat < 2 ^ 64; omega)
  simp only [u64, this]
  congr 2; omega
theorem Reads.num8 [h : Und P t (.int .u8)] {cs : List Value} {d : DataW H} (hr : Reads enc P w sp t cs d) : ∃ n : UInt8, cs = [by8 n] := by
  obtain ⟨m, ps, hr⟩ := hr
  obtain ⟨n, rfl, _, hw⟩ := DataW.trod_int h.h hr
  have hx : 0 ≤ n ∧ n ≤ 255 := by simpa [Lit.wf, IntKind.min, IntKind.max, IntKind.signed, IntKind.bits] using hw
  refine ⟨UInt8.ofNat n.toNat, ?_⟩
  have : (UInt8.ofNat n.toNat).toNat = n.toNat := UInt8.toNat_ofNat_of_lt' (by show n.toNat < 2 ^ 8; omega)
  simp only [by8, this]
  congr 2; omega
theorem Reads.numI [h : Und P t (.int .i64)] {cs : List Value} {d : DataW H} (hr : Reads enc P w sp t cs d) : ∃ n : Int, cs = [.int .i64 n] ∧ -9223372036854775808 ≤ n ∧ n ≤ 9223372036854775807 := by
  obtain ⟨m, ps, hr⟩ := hr
  obtain ⟨n, rfl, _, hw⟩ := DataW.trod_int h.h hr
  have hx : -9223372036854775808 ≤ n ∧ n ≤ 9223372036854775807 := by simpa [Lit.wf, IntKind.min, IntKind.max, IntKind.signed, IntKind.bits] using hw
  exact ⟨n, rfl, hx⟩
theorem Reads.flag [h : Und P t .bool] {cs : List Value} {d : DataW H} (hr : Reads enc P w sp t cs d) : ∃ b : Bool, cs = [.bool b] := by
  obtain ⟨m, ps, hr⟩ := hr
  obtain ⟨n, rfl, _⟩ := DataW.trod_bool h.h hr
  exact ⟨n, rfl⟩

/-- Pieces that are each the cells of something. -/
theorem list_of_pieces {α : Type} (f : α → List Value) (z : Nat) : ∀ (n : Nat) (cs : List Value), cs.length = n * z → (∀ i, i < n → ∃ a, (cs.drop (i * z)).take z = f a) → ∃ l : List α, l.length = n ∧ cs = l.flatMap f
  | 0, cs, h, _ => by
    have : cs = [] := by simpa using h
    subst this; exact ⟨[], rfl, rfl⟩
  | n + 1, cs, h, hp => by
    obtain ⟨a, ha⟩ := hp 0 (by omega)
    obtain ⟨l, hl, he⟩ := list_of_pieces f z n (cs.drop z) (by rw [List.length_drop, h, Nat.add_mul]; omega) (fun i hi => by
      obtain ⟨b, hb⟩ := hp (i + 1) (by omega)
      exact ⟨b, by rw [List.drop_drop, ← hb]; congr 2; rw [Nat.add_mul]; omega⟩)
    refine ⟨a :: l, by simp [hl], ?_⟩
    rw [List.flatMap_cons, ← he, ← ha]
    simp
theorem vec_of_pieces {α : Type} (f : α → List Value) (n z : Nat) (cs : List Value) (hl : cs.length = n * z) (h : ∀ i, i < n → ∃ a, (cs.drop (i * z)).take z = f a) : ∃ l : Vector α n, cs = l.toList.flatMap f := by
  obtain ⟨l, h1, h2⟩ := list_of_pieces f z n cs hl h
  exact ⟨⟨l.toArray, by simp [h1]⟩, by simpa using h2⟩

theorem Reads.arr {n z : Nat} [h : Und P t (.array n e)] [hz : Sz P e z] [ht : Sz P t (n * z)] {cs : List Value} {d : DataW H} (hr : Reads enc P w sp t cs d) :
    cs.length = n * z ∧ ∀ i, i < n → ∃ d', Reads enc P w sp e ((cs.drop (i * z)).take z) d' := by
  obtain ⟨m, ps, hr⟩ := hr
  obtain ⟨xs, k, _, _, hl, hx, hi⟩ := DataW.trod_array h.h hr
  rw [ht.cells] at hl
  refine ⟨hl, fun i hin => ?_⟩
  have := hi i hin
  rw [hz.cells, List.getElem?_eq_getElem (by omega)] at this
  exact ⟨_, _, _, this⟩

theorem Reads.vec {α : Type} (f : α → List Value) {n z : Nat} [h : Und P t (.array n e)] [hz : Sz P e z] [ht : Sz P t (n * z)] (hf : ∀ cs d, Reads enc P w sp e cs d → ∃ a, cs = f a) {cs : List Value} {d : DataW H}
    (hr : Reads enc P w sp t cs d) : ∃ l : Vector α n, cs = l.toList.flatMap f := by
  obtain ⟨hl, hp⟩ := hr.arr
  exact vec_of_pieces f n z cs hl fun i hi => by
    obtain ⟨d', hd⟩ := hp i hi
    exact hf _ _ hd

theorem flatMap_single {α β : Type} (f : α → β) (l : List α) : l.flatMap (fun a => [f a]) = l.map f := by
  induction l with
  | nil => rfl
  | cons a l ih => simp [List.flatMap_cons, ih]

theorem Reads.bytes {n : Nat} [Und P t (.array n e)] [Und P e (.int .u8)] [Sz P e 1] [ht : Sz P t n] {cs : List Value} {d : DataW H} (hr : Reads enc P w sp t cs d) : ∃ r : Vector UInt8 n, cs = bv r := by
  have : Sz P t (n * 1) := ⟨by rw [Nat.mul_one]; exact ht.h⟩
  obtain ⟨l, hl⟩ := hr.vec (fun b => [by8 b]) (fun cs d h => h.num8)
  exact ⟨l, by rw [hl, flatMap_single]; rfl⟩
theorem Reads.nums {n : Nat} [Und P t (.array n e)] [Und P e (.int .u64)] [Sz P e 1] [ht : Sz P t n] {cs : List Value} {d : DataW H} (hr : Reads enc P w sp t cs d) : ∃ r : Vector UInt64 n, cs = u64sV r := by
  have : Sz P t (n * 1) := ⟨by rw [Nat.mul_one]; exact ht.h⟩
  obtain ⟨l, hl⟩ := hr.vec (fun b => [u64 b]) (fun cs d h => h.num64)
  exact ⟨l, by rw [hl, flatMap_single]; rfl⟩
theorem Reads.flags {n : Nat} [Und P t (.array n e)] [Und P e .bool] [Sz P e 1] [ht : Sz P t n] {cs : List Value} {d : DataW H} (hr : Reads enc P w sp t cs d) : ∃ r : Vector Bool n, cs = boolsV r := by
  have : Sz P t (n * 1) := ⟨by rw [Nat.mul_one]; exact ht.h⟩
  obtain ⟨l, hl⟩ := hr.vec (fun b => [Value.bool b]) (fun cs d h => h.flag)
  exact ⟨l, by rw [hl, flatMap_single]; rfl⟩
theorem Reads.rows {b : TypeId} {n k : Nat} [Und P t (.array k e)] [Und P e (.array n b)] [Und P b (.int .u8)] [Sz P b 1] [Sz P e n] [Sz P t (k * n)] {cs : List Value} {d : DataW H} (hr : Reads enc P w sp t cs d) :
    ∃ r : Vector (Vector UInt8 n) k, cs = rootsV r := hr.vec bv (fun _ _ h => h.bytes)

/-- A field of a struct. -/
theorem Reads.field {k z : Nat} {ft : TypeId} (i : Nat) [hF : Fld P t i k ft z] {cs : List Value} {d : DataW H} (hr : Reads enc P w sp t cs d) :
    ∃ (ds : List (DataW H)) (d' : DataW H), d = .agg ds ∧ ds[i]? = some d' ∧ Reads enc P w sp ft ((cs.drop k).take (z + 1)) d' := by
  obtain ⟨fs, fd, h1, h2, h3, h4, h5⟩ := hF.spec
  obtain ⟨m, ps, hr⟩ := hr
  obtain ⟨xs, n, _, hx, hl, hxl, hi⟩ := DataW.trod_struct h1 hr
  have := hi i fd h2
  have hlt : i < xs.length := by
    rw [hxl]
    rcases Nat.lt_or_ge i fs.size with h | h
    · exact h
    · rw [Array.getElem?_eq_none h] at h2; cases h2
  rw [List.getElem?_eq_getElem hlt, h3, h4, show P.cellsOf ft = z + 1 from by simp [Program.cellsOf, h5]] at this
  simp only [Prod.mk.injEq] at hx
  exact ⟨_, xs[i].1, hx.1, by simp [hlt], n, _, this⟩
theorem Reads.len {z : Nat} [hA : IsAgg P t] [ht : Sz P t z] {cs : List Value} {d : DataW H} (hr : Reads enc P w sp t cs d) : cs.length = z := by
  obtain ⟨m, ps, hr⟩ := hr
  have hA' := hA.h
  cases hu : P.underlying t with
  | none => simp [hu] at hA'
  | some dd =>
    cases dd <;> simp [hu] at hA'
    · obtain ⟨xs, n, _, hx, hl, _⟩ := DataW.trod_array hu hr
      rw [hl, ht.cells]
    · obtain ⟨xs, n, _, hx, hl, _⟩ := DataW.trod_struct hu hr
      rw [hl, ht.cells]

/-- the pieces of these sizes, one behind the other -/
def chops {α : Type} : List Nat → Nat → List α → List (List α)
  | [], _, _ => []
  | s :: r, o, cs => (cs.drop o).take s :: chops r (o + s) cs
theorem chops_eq {α : Type} : ∀ (l : List Nat) (o : Nat) (cs : List α), cs.length = o + l.sum → cs.drop o = (chops l o cs).flatten
  | [], o, cs, h => by simp [chops]; simp at h; omega
  | s :: r, o, cs, h => by
    have := chops_eq r (o + s) cs (by simp at h; omega)
    rw [chops, List.flatten_cons, ← this, ← List.drop_drop, List.take_append_drop]

/-- A slice: nil, or so many elements. -/
theorem Reads.slice {z : Nat} [h : Und P t (.slice e)] [hz : Sz P e z] {cs : List Value} {d : DataW H} (hr : Reads enc P w (fun _ => true) t cs d) :
    (cs = [.slice none 0 0] ∧ d = .nil) ∨ ∃ (a : Addr) (len cap : Nat) (els spare : List (DataW H)), cs = [.slice (some a) len cap] ∧ len ≤ cap ∧ d = .slice els spare ∧ els.length = len ∧
      ∀ i, i < len → ∃ cs' d', w.cells? 0 (a.add (i * z)) z = some cs' ∧ els[i]? = some d' ∧ Reads enc P w (fun _ => true) e cs' d' := by
  obtain ⟨m, ps, hr⟩ := hr
  rcases open_slice h.h hr with ⟨h1, h2⟩ | ⟨a, len, cap, m, n, D, Pl, h1, _, h2, h3, h4, h5, h6⟩
  · simp only [Prod.mk.injEq] at h2
    exact .inl ⟨h1, h2.1⟩
  · simp only [Prod.mk.injEq] at h5
    simp only [if_true] at h4
    refine .inr ⟨a, len, cap, _, _, h1, h2, h5.1, by simp, fun i hi => ?_⟩
    obtain ⟨cs', e1, e2⟩ := h6 i (by omega)
    rw [hz.cells] at e1
    exact ⟨cs', D i, e1, by simp [hi], n, _, e2⟩

theorem cells?_get {b o k : Nat} {cs : List Value} (h : w.cells? 0 ⟨b, o, none⟩ k = some cs) : cs.length = k ∧ ∀ j, j < k → w.cell? ⟨b, o + j, none⟩ = cs[j]? := by
  unfold World.cells? at h
  rw [if_pos (Nat.zero_le _)] at h
  have key : ∀ (l : List Nat) (r : List Value), l.mapM (fun i => w.cell? ((⟨b, o, none⟩ : Addr).add i)) = some r → r.length = l.length ∧ ∀ j (hj : j < l.length), w.cell? ⟨b, o + l[j], none⟩ = r[j]? := by
    intro l
    induction l with
    | nil => intro r h; simp at h; subst h; simp
    | cons x l ih =>
      intro r h
      simp only [List.mapM_cons, Option.bind_eq_bind, Option.bind_eq_some_iff] at h
      obtain ⟨v, hv, r', hr', hr⟩ := h
      simp at hr
      subst hr
      obtain ⟨i1, i2⟩ := ih r' hr'
      refine ⟨by simp [i1], fun j hj => ?_⟩
      cases j with
      | zero => rw [Addr.add_mid] at hv; simpa using hv
      | succ j => simpa using i2 j (by simpa using hj)
  obtain ⟨k1, k2⟩ := key _ _ h
  simp at k1 k2
  exact ⟨k1, k2⟩

/-- A slice whose elements are each the cells of something. -/
theorem Reads.list {α : Type} (f : α → List Value) {z : Nat} (_ : 0 < z) [h : Und P t (.slice e)] [hz : Sz P e z] (hf : ∀ cs d, Reads enc P w (fun _ => true) e cs d → ∃ a, cs = f a) {cs : List Value} {d : DataW H}
    (hr : Reads enc P w (fun _ => true) t cs d) (hspot : ∀ a len cap, cs = [.slice (some a) len cap] → a.spot = none) :
    ∃ (l : List α) (q : PC), cs = [q.sl l.length] ∧ SlAt w z (q.sl l.length) l.length (l.flatMap f) ∧ (d = .nil ∧ l = [] ∨ ∃ els spare, d = .slice els spare ∧ els.length = l.length) := by
  rcases hr.slice with ⟨rfl, rfl⟩ | ⟨a, len, cap, els, spare, rfl, h2, h3, h4, h5⟩
  · exact ⟨[], ⟨none, 0⟩, rfl, .nil, .inl ⟨rfl, rfl⟩⟩
  · obtain ⟨b, o, s⟩ := a
    obtain rfl : s = none := hspot _ _ _ rfl
    have key : ∀ n, n ≤ len → ∃ l : List α, l.length = n ∧ (∀ a ∈ l, (f a).length = z) ∧ w.rangeAt b o (l.flatMap f) := by
      intro n
      induction n with
      | zero => intro _; exact ⟨[], rfl, by simp, fun j v hj => by simp at hj⟩
      | succ n ih =>
        intro hn
        obtain ⟨l, l1, l2, l3⟩ := ih (by omega)
        obtain ⟨cs', d', c1, _, c3⟩ := h5 n (by omega)
        obtain ⟨x, rfl⟩ := hf cs' d' c3
        rw [Addr.add_mid] at c1
        obtain ⟨c4, c5⟩ := cells?_get c1
        have hll : (l.flatMap f).length = n * z := by rw [flatMap_length_const f z l l2, l1]
        refine ⟨l ++ [x], by simp [l1], ?_, fun j v hj => ?_⟩
        · intro a ha
          rcases List.mem_append.1 ha with h | h
          · exact l2 a h
          · simp at h; subst h; exact c4
        · simp only [List.flatMap_append, List.flatMap_cons, List.flatMap_nil, List.append_nil] at hj
          rcases Nat.lt_or_ge j (n * z) with hlt | hge
          · rw [List.getElem?_append_left (by omega)] at hj; exact l3 j v hj
          · rw [List.getElem?_append_right (by omega), hll] at hj
            have hjz : j - n * z < z := by
              rcases Nat.lt_or_ge (j - n * z) z with h | h
              · exact h
              · rw [List.getElem?_eq_none (by omega)] at hj; cases hj
            have := c5 (j - n * z) hjz
            rw [hj, show o + n * z + (j - n * z) = o + j from by omega] at this
            exact this
    obtain ⟨l, l1, l2, l3⟩ := key len (Nat.le_refl _)
    subst l1
    exact ⟨l, ⟨some ⟨b, o, none⟩, cap⟩, rfl, .mk h2 l3 (flatMap_length_const f z l l2), .inr ⟨els, spare, h3, h4⟩⟩

theorem okCell_spot {r : Reach} {base : Nat} {u : TypeId} {a : Addr} {len cap : Nat} (h : Cell.okWide P w r base u (.slice (some a) len cap)) : a.spot = none := by
  unfold Cell.okWide at h
  cases hu : P.underlying u with
  | none => simp [hu, Cell.ok] at h
  | some dd =>
    cases dd <;> simp [hu, Cell.ok] at h
    exact h.2.2.2.1

/-- No cell of an argument is a slice with a spot. -/
theorem okWide_spot {r : Reach} {base : Nat} {v : Value} [hA : IsAgg P t] (h : Value.okWide P w r base t v) : ∃ cs : List Value, v = .agg cs.toArray ∧ ∀ (i : Nat) a len cap, cs[i]? = some (.slice (some a) len cap) → a.spot = none := by
  have hA' := hA.h
  cases hu : P.underlying t with
  | none => simp [hu] at hA'
  | some dd =>
    have key : ∃ cs, v = .agg cs ∧ cs.size = P.cellsOf t ∧ Row.okWide P w r base t cs := by
      cases dd <;> simp [hu] at hA' <;> simpa [Value.okWide, hu] using h
    obtain ⟨cs, rfl, _, ts, _, _, hc⟩ := key
    refine ⟨cs.toList, by simp, fun i a len cap hi => ?_⟩
    obtain ⟨u, _, hu⟩ := hc i _ (by simpa using hi)
    exact okCell_spot hu

end
end Go.PK

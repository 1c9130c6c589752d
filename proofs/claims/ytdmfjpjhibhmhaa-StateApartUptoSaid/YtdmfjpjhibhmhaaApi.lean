/- StateApart of layer 10's laws returns true for every state and two numbers, and leaves them as they were, where they are of bulk at most 1048576 together (no other condition). (Part 9: K21, Apart.) -/
import Derived.Test.YtdmfjpjhibhmhaaAph
import Derived.Laws.IdiomStrings
import Derived.Laws.BytesArg
import Derived.Laws.Strings

/- The calculus: bytes as strings; truth values compared; numbers' bits turned. -/
namespace Go.PK
attribute [local semireducible] Val Rd

/-- bytes as a string -/
abbrev strV (l : List UInt8) : Value := .string ⟨l.toArray⟩

theorem bits_xorB (a b : UInt8) : bits .xor .u8 (a.toNat : Int) (b.toNat : Int) = ((a ^^^ b).toNat : Int) := by
  have ha := a.toNat_lt
  have hb := b.toNat_lt
  have hx : a.toNat ^^^ b.toNat < 2 ^ 8 := Nat.xor_lt_two_pow ha hb
  have h1 : (BitVec.ofInt 8 (a.toNat : Int)).toNat = a.toNat := by
    rw [BitVec.ofInt_natCast, BitVec.toNat_ofNat]; exact Nat.mod_eq_of_lt ha
  have h2 : (BitVec.ofInt 8 (b.toNat : Int)).toNat = b.toNat := by
    rw [BitVec.ofInt_natCast, BitVec.toNat_ofNat]; exact Nat.mod_eq_of_lt hb
  show IntKind.u8.wrap ((BitVec.ofInt 8 (a.toNat : Int) ^^^ BitVec.ofInt 8 (b.toNat : Int)).toNat : Int) = _
  rw [BitVec.toNat_xor, h1, h2, IntKind.wrap_u8, UInt8.toNat_xor]
  omega

section rules
variable {P : Program} {n : Nat} {e : Env} {Γ : List Chunk} {S : List Nat} {w0 : World}
variable {ty : TypeId} {d : Option Nat} {pos : String} {after : Array Edge} {g : Option (Nat × Bool)} {t t' el : TypeId} {x y : Operand}

theorem run_toStr {w : World} {src dst el : TypeId} [hs : Und P src (.slice el)] [he : Und P el (.int .u8)] [hd : Und P dst .string] {p : Option Addr} {m c : Nat} {l : List UInt8} (h : SlAt w 1 (.slice p m c) m (bs l)) :
    (convert src dst (.slice p m c)).run P w = .ok (strV l) w := by
  generalize hv : bs l = vs at h
  cases h with
  | nil =>
    obtain rfl : l = [] := by simpa [bs] using hv
    exact run_convert_bytes_nil w src el hs.h he.h 0 0 dst hd.h
  | @mk b o _ _ _ hc hr hl =>
    subst hv
    have hm : m = l.length := by simpa using hl.symm
    subst hm
    exact run_convert_bytes_back w src dst el ⟨b, o, none⟩ c l hs.h he.h hd.h fun j hj => by
      rw [Addr.add_mid]
      exact hr j _ (by simp [bs, hj])

theorem val_toStr {src dst el : TypeId} [Und P src (.slice el)] [Und P el (.int .u8)] [Und P dst .string] {p : Option Addr} {m c : Nat} {l : List UInt8} (hx : ev e x = some (.slice p m c)) (hr : SlRd Γ S w0 1 (.slice p m c) m (bs l)) :
    Val P ⟨d, .convert src dst x, ty, pos, after, g⟩ n e Γ S w0 (strV l) := fun a w hf hm => by
  have := run_toStr (P := P) (src := src) (dst := dst) (hr.at hm)
  simp [execOp, hf.eval hx, this]

theorem val_eqlS {a b : List UInt8} (hx : ev e x = some (strV a)) (hy : ev e y = some (strV b)) : Val P ⟨d, .binOp .eql t x y t', ty, pos, after, g⟩ n e Γ S w0 (.bool (decide (a = b))) := fun ac w hf _ => by
  simp [execOp, hf.eval hx, hf.eval hy, eqGuard, binOp_string_eql]; rw [Bool.eq_iff_iff]; simp
theorem val_neqS {a b : List UInt8} (hx : ev e x = some (strV a)) (hy : ev e y = some (strV b)) : Val P ⟨d, .binOp .neq t x y t', ty, pos, after, g⟩ n e Γ S w0 (.bool (!decide (a = b))) := fun ac w hf _ => by
  simp [execOp, hf.eval hx, hf.eval hy, eqGuard, binOp_string_neq]; rw [Bool.eq_iff_iff]; simp
theorem val_eqlB {a b : Bool} [hu : Und P t .bool] (hx : ev e x = some (.bool a)) (hy : ev e y = some (.bool b)) : Val P ⟨d, .binOp .eql t x y t', ty, pos, after, g⟩ n e Γ S w0 (.bool (a == b)) := fun ac w hf _ => by
  simp only [execOp, hf.eval hx, hf.eval hy]; simp [eqGuard, run_eql_bool w t a b hu.h]
theorem val_xor1 {a : UInt8} (hx : ev e x = some (by8 a)) (hy : ev e y = some (.int .u8 1)) : Val P ⟨d, .binOp .xor t x y t', ty, pos, after, g⟩ n e Γ S w0 (by8 (a ^^^ 1)) := by
  have := val_xor (P := P) (n := n) (Γ := Γ) (S := S) (w0 := w0) (d := d) (ty := ty) (pos := pos) (after := after) (g := g) (t := t) (t' := t') hx hy
  rwa [show (1 : Int) = ((1 : UInt8).toNat : Int) from rfl, bits_xorB] at this
end rules
end Go.PK

/- StateApart: states that differ have unlike bytes. -/
namespace Go.PK
open Go.Proofs

theorem le8_inj {a b : UInt64} (h : le8 a.toNat = le8 b.toNat) : a = b := by
  have := congrArg (rdTo · 8) h
  simp only [rd_u64] at this
  exact UInt64.toNat_inj.1 this
theorem add_ne {a b : UInt64} (hb : b ≠ 0) : a ≠ a + b := fun h => hb (by
  have := congrArg UInt64.toNat h
  rw [UInt64.toNat_add] at this
  have h1 := a.toNat_lt
  have h2 := b.toNat_lt
  exact UInt64.toNat_inj.1 (by show b.toNat = 0; omega))
theorem xor1_ne (a : UInt8) : a ≠ a ^^^ 1 := fun h => by
  have h2 : a ^^^ a = a ^^^ (a ^^^ 1) := congrArg (a ^^^ ·) h
  rw [← UInt8.xor_assoc, UInt8.xor_self, UInt8.zero_xor] at h2
  cases h2
theorem vec_set_ne {α : Type} {n : Nat} (v : Vector α n) (i : Nat) (hi : i < n) (b : α) (hb : v[i] ≠ b) : v.toList ≠ (v.setIfInBounds i b).toList := fun h => by
  have h2 := congrArg (·[i]?) h
  simp [hi] at h2
  exact hb h2

def StateD.ap0 (x : StateD) (n : UInt64) : StateD := { x with slot := x.slot + n }
def StateD.ap1 (x : StateD) (j : Nat) : StateD := { x with bits := x.bits.setIfInBounds j (!(x.bits.toList.getD j false)) }
def setLast {n : Nat} (k : Nat) (r : Vector UInt8 n) : Vector UInt8 n := r.setIfInBounds k (r.toList.getD k 0 ^^^ 1)
def StateD.ap2 (x : StateD) (j : Nat) : StateD := { x with mixes := x.mixes.setIfInBounds j (setLast 31 (x.mixes.toList.getD j zRoot)) }
def StateD.ap3 (x : StateD) : StateD := { x with history := x.history ++ [zRoot] }
def StateD.ap4 (x : StateD) : StateD := { x with balances := x.balances ++ [0] }
def StateD.ap5 (x : StateD) : StateD := { x with nextSync := { x.nextSync with sum := setLast 47 x.nextSync.sum } }
def StateD.ap6 (x : StateD) : StateD := { x with current := x.current ++ [0] }
def StateD.ap7 (x : StateD) (n : UInt64) : StateD := { x with final := { x.final with epoch := x.final.epoch + n } }

theorem setLast_ne {n : Nat} (k : Nat) (hk : k < n) (r : Vector UInt8 n) : r.toList ≠ (setLast k r).toList := by
  refine vec_set_ne r k hk _ ?_
  simp only [List.getD_eq_getElem?_getD]
  rw [List.getElem?_eq_getElem (by simpa using hk)]
  simpa using xor1_ne r[k]

theorem rows_inj {a b : Vector Root 8} (h : rows a.toList = rows b.toList) : a = b := by
  refine Vector.ext fun i hi => ?_
  have h1 := row_at (p := 0) (n := 256) (l := rows a.toList) (v := a) (by simp [rows_length, List.take_of_length_le]) i hi
  have h2 := row_at (p := 0) (n := 256) (l := rows b.toList) (v := b) (by simp [rows_length, List.take_of_length_le]) i hi
  rw [h, h2] at h1
  exact (Vector.toList_inj.1 h1).symm

theorem apart0 {x : StateD} {n : UInt64} (hn : n ≠ 0) (hx : x.Fits) (hy : (x.ap0 n).Fits) : encState x ≠ encState (x.ap0 n) := fun h => by
  have h1 := at_slot x hx
  have h2 := at_slot _ hy
  rw [h, h2] at h1
  exact add_ne hn (le8_inj h1).symm
theorem apart1 {x : StateD} {j : Nat} (hj : j < 4) (hx : x.Fits) (hy : (x.ap1 j).Fits) : encState x ≠ encState (x.ap1 j) := fun h => by
  have h1 := at_bits x hx
  have h2 := at_bits _ hy
  rw [h, h2] at h1
  have h3 := bits_take x.bits
  rw [← h1, bits_take] at h3
  refine vec_set_ne x.bits j hj _ ?_ h3.symm
  rw [List.getD_eq_getElem?_getD, List.getElem?_eq_getElem (by simpa using hj)]
  simp
theorem apart2 {x : StateD} {j : Nat} (hj : j < 8) (hx : x.Fits) (hy : (x.ap2 j).Fits) : encState x ≠ encState (x.ap2 j) := fun h => by
  have h1 := at_mixes x hx
  have h2 := at_mixes _ hy
  rw [h, h2] at h1
  have h3 := rows_inj h1
  have h4 := congrArg (fun v : Vector Root 8 => v[j]) h3
  simp only [StateD.ap2, Vector.getElem_setIfInBounds, if_true] at h4
  rw [List.getD_eq_getElem?_getD, List.getElem?_eq_getElem (by simpa using hj)] at h4
  refine setLast_ne 31 (by decide) x.mixes[j] ?_
  have := congrArg Vector.toList h4
  simpa using this.symm
theorem apart3 {x : StateD} (hx : x.Fits) (hy : x.ap3.Fits) : encState x ≠ encState x.ap3 := fun h => by
  have := congrArg List.length h
  rw [encState_length _ hx, encState_length _ hy] at this
  simp [stEnd, StateD.ap3] at this <;> omega
theorem apart4 {x : StateD} (hx : x.Fits) (hy : x.ap4.Fits) : encState x ≠ encState x.ap4 := fun h => by
  have := congrArg List.length h
  rw [encState_length _ hx, encState_length _ hy] at this
  simp [stEnd, StateD.ap4] at this <;> omega
theorem apart5 {x : StateD} (hx : x.Fits) (hy : x.ap5.Fits) : encState x ≠ encState x.ap5 := fun h => by
  have h1 := at_nextSync x hx
  have h2 := at_nextSync _ hy
  rw [h, h2] at h1
  simp only [encCommittee, StateD.ap5] at h1
  exact setLast_ne 47 (by decide) _ (List.append_cancel_left h1).symm
theorem apart6 {x : StateD} (hx : x.Fits) (hy : x.ap6.Fits) : encState x ≠ encState x.ap6 := fun h => by
  have := congrArg List.length h
  rw [encState_length _ hx, encState_length _ hy] at this
  simp [stEnd, StateD.ap6] at this <;> omega
theorem apart7 {x : StateD} {n : UInt64} (hn : n ≠ 0) (hx : x.Fits) (hy : (x.ap7 n).Fits) : encState x ≠ encState (x.ap7 n) := fun h => by
  have h1 := at_final x hx
  have h2 := at_final _ hy
  rw [h, h2] at h1
  simp only [encCheckpoint, StateD.ap7] at h1
  exact add_ne hn (le8_inj (List.append_inj_left h1 rfl)).symm

theorem ptr_eq {b o o' : Nat} (h : o = o') : Value.pointer (some ⟨b, o, none⟩) = .pointer (some ⟨b, o', none⟩) := by rw [h]
theorem flatMap_set {α β : Type} (f : α → List β) (n : Nat) : ∀ (l : List α) (j r : Nat) (v : β) (a' : α) (hj : j < l.length), (∀ x, (f x).length = n) → r < n → (f l[j]).set r v = f a' → (l.flatMap f).set (j * n + r) v = (l.set j a').flatMap f
  | [], _, _, _, _, h, _, _, _ => by simp at h
  | x :: l, 0, r, v, a', _, hf, hr, h => by
    have := hf x
    simp only [Nat.zero_mul, Nat.zero_add, List.flatMap_cons, List.set_cons_zero, List.getElem_cons_zero] at h ⊢
    rw [List.set_append_left _ _ (by omega), h]
  | x :: l, j + 1, r, v, a', hj, hf, hr, h => by
    have h1 := hf x
    have ih := flatMap_set f n l j r v a' (by simpa using hj) hf hr (by simpa using h)
    simp only [List.flatMap_cons, List.set_cons_succ]
    rw [List.set_append_right _ _ (by rw [h1, Nat.add_mul]; omega), h1, show (j + 1) * n + r - n = j * n + r from by rw [Nat.add_mul]; omega, ih]
theorem set_put {α : Type} (l : List α) (i : Nat) (h : i < l.length) (v : α) : l.take i ++ [v] ++ l.drop (i + 1) = l.set i v := by
  rw [List.set_eq_take_append_cons_drop, if_pos h]; simp
theorem bv_setLast {n : Nat} (k : Nat) (hk : k < n) (r : Vector UInt8 n) : (bv r).set k (by8 (r[k] ^^^ 1)) = bv (setLast k r) := by
  have h1 : (setLast k r).toList = r.toList.set k (r[k] ^^^ 1) := by simp [setLast, hk]
  rw [bv, bv, h1, bs, bs, List.map_set]
theorem rootsV_put (l : Vector Root 8) (j : Nat) (hj : j < 8) (k : Nat) (hk : k < 32) : (rootsV l).take (j * 32 + k) ++ [by8 (l[j][k] ^^^ 1)] ++ (rootsV l).drop (j * 32 + k + 1) = rootsV (l.setIfInBounds j (setLast k (l.toList.getD j zRoot))) := by
  rw [set_put _ _ (by rw [rootsV_length]; omega)]
  have h1 : (l.setIfInBounds j (setLast k (l.toList.getD j zRoot))).toList = l.toList.set j (setLast k l[j]) := by simp [hj]
  rw [rootsV, rootsV, h1]
  exact flatMap_set bv 32 l.toList j k _ _ (by simpa using hj) (fun x => bv_length x) hk (by rw [Vector.getElem_toList]; exact bv_setLast k hk l[j])
theorem rootsV_cell (l : Vector Root 8) (j : Nat) (hj : j < 8) (k : Nat) (hk : k < 32) : (rootsV l)[j * 32 + k]? = some (by8 l[j][k]) := by
  have h1 := rootsV_at l j hj
  have h2 : (((rootsV l).drop (j * 32)).take 32)[k]? = some (by8 l[j][k]) := by rw [h1]; simp [bv, bs, hk]
  rw [List.getElem?_take, if_pos hk, List.getElem?_drop] at h2
  exact h2
theorem bits_put (l : Vector Bool 4) (j : Nat) (hj : j < 4) : (boolsV l).take (j * 1) ++ [Value.bool (!l[j])] ++ (boolsV l).drop (j * 1 + 1) = boolsV (l.setIfInBounds j (!(l.toList.getD j false))) := by
  have h1 : (l.setIfInBounds j (!(l.toList.getD j false))).toList = l.toList.set j (!l[j]) := by simp [hj]
  rw [boolsV, boolsV, h1, List.map_set, List.set_eq_take_append_cons_drop, if_pos (by simpa using hj)]
  simp

set_option maxHeartbeats 4000000 in
theorem lawApart (w : World) (x : StateD) (a : Addrs) (i : Int) (by_ : UInt64) (hL : ListsAt w [] x a) (hz : x.Small) (hi : -9223372036854775808 ≤ i ∧ i ≤ 9223372036854775807) :
    Calls Try.prog 5 [aggS (stateS x a), .int .i64 i, u64 by_].toArray w (Gives (fun _ : Unit => True) (fun _ => .bool true) (fun _ => []) [] w) := by
  refine calls_enter (fn := Try.f5) Try.func5 rfl Try.ntmps5 rfl (mem0 w) ?_
  (repeat (first | (refine WC_seq ?_) | (refine WC_region ?_)))
  (first | (refine WL_alloc rfl rfl (fun b1 => ?_)) | (refine WL_box_agg rfl rfl rfl inferInstance (fun b1 => ?_)) | (refine WL_box rfl rfl rfl rfl (fun b1 => ?_)))
  (repeat (first | (refine WC_seq ?_) | (refine WC_region ?_) | (refine WL_val rfl rfl rfl (by exact val_assign rfl) ?_)))
  refine WL_call rfl rfl rfl .nil (fun w' _ _ => law10Awake w') (fun _ _ => ?_)
  (repeat (first | (refine WC_seq ?_) | (refine WC_region ?_) | (refine WC_skip ?_) | (refine WL_nil ?_) | (refine QX_then ?_) | (refine WC_cond_false rfl ?_) | (refine WL_val rfl rfl rfl (by first | (apply val_load_blk_agg; exact rfl; (repeat (first | exact .head | apply Pick.tail)); exact rfl) | exact val_not rfl) ?_)))
  refine WL_as 15 (aggS (stateS x a)) rfl rfl ?_
  refine WL_call rfl rfl rfl .nil (fun w' hw' _ => encStateW w' x a (hL.pass hw' .nil) hz) (fun g _ => ?_)
  obtain ⟨gp, gc⟩ := g
  dsimp only
  (repeat (first | (refine WC_seq ?_) | (refine WC_region ?_) | (refine WL_val rfl rfl rfl (by first | exact val_move rfl | exact val_assign rfl | exact val_extract rfl rfl | exact val_neq rfl rfl) ?_)))
  refine WL_bool 21 rfl (fun ht => ?_) (fun ht => ?_)
  · (repeat (first | (refine WC_seq ?_) | (refine WC_region ?_) | (refine WC_ret ?_) | (refine WL_nil ?_) | (refine QX_then ?_) | (refine QX_then_ret ?_) | (refine WC_cond_true rfl ?_) | (refine WL_off rfl rfl rfl ?_) | (refine WL_val rfl rfl rfl (by first | exact val_assign rfl | exact val_pick_true rfl rfl) ?_)))
    refine QX_ret (l := [.tmp 6]) rfl (.tmp rfl .nil) ?_
    intro w' hw'
    exact gives () hw' trivial rfl .nil
  have he : (stAll x).err = 0 := by have := of_decide_eq_false ht; simpa using this
  clear ht
  (repeat (first | (refine WL_nil ?_) | (refine QX_then ?_) | (refine WL_val rfl rfl rfl (by first | exact val_move rfl | exact val_pick_false rfl rfl | exact val_eql rfl rfl) ?_)))
  refine WC_cond rfl (fun ht => ?_) (fun ht => ?_)
  · (repeat (first | (refine WC_seq ?_) | (refine WC_region ?_) | (refine WC_ret ?_) | (refine QX_then_ret ?_) | (refine WL_val rfl rfl rfl (by exact val_assign rfl) ?_)))
    refine QX_ret (l := [.tmp 6]) rfl (.tmp rfl .nil) ?_
    intro w' hw'
    exact gives () hw' trivial rfl .nil
  have hby : by_ ≠ 0 := by intro h; subst h; exact absurd (of_decide_eq_false ht) (by decide)
  clear ht
  have hf := fits_of_err he
  have hlen := encState_length x hf
  (repeat (first | (refine WC_seq ?_) | (refine WC_region ?_) | (refine WC_skip ?_) | (refine WL_val rfl rfl rfl (by apply val_load_blk_agg; exact rfl; (repeat (first | exact .head | apply Pick.tail)); exact rfl) ?_)))
  refine WL_as 25 (aggS (stateS x a)) rfl rfl ?_
  refine WL_call rfl rfl rfl .nil (fun w' hw' _ => refCopy w' x a (hL.pass hw' .nil) hz) (fun a' _ => ?_)
  skip
  (first | (refine WL_alloc rfl rfl (fun b9 => ?_)) | (refine WL_box_agg rfl rfl rfl inferInstance (fun b9 => ?_)) | (refine WL_box rfl rfl rfl rfl (fun b9 => ?_)))
  refine WL_store_agg (q := stateS x a') (segs' := stateS x a') rfl rfl rfl .head (by repeat (first | exact PutSeg.one | apply PutSeg.skip | apply PutSeg.next | exact PutSeg.inner rfl)) ?_
  (repeat (first | (refine WC_seq ?_) | (refine WC_region ?_) | (refine WL_val rfl rfl rfl (by exact val_move rfl) ?_)))
  refine WL_val rfl rfl rfl (val_rem rfl rfl (by decide)) ?_
  have m1 : i.tmod 8 < 8 := Int.tmod_lt_of_pos _ (by decide)
  have m2 : -8 < i.tmod 8 := Int.lt_tmod_of_pos _ (by decide)
  generalize i.tmod 8 = m at m1 m2
  (repeat (refine WL_val rfl rfl rfl (by first | (apply val_addI; exact rfl; exact rfl; omega; omega) | (apply val_remI; exact rfl; exact rfl; decide; omega)) ?_))
  obtain ⟨k, hk, hk8⟩ : ∃ k : Nat, (m + 8) % 8 = (k : Int) ∧ k < 8 := ⟨((m + 8) % 8).toNat, by omega, by omega⟩
  refine WL_as 30 (.int .i64 (k : Int)) rfl (by rw [hk]) ?_
  clear hk m1 m2
  obtain ⟨ahist, avote, aval, ⟨bp, bc⟩, aprev, ⟨up, uc⟩, ascore⟩ := a'
  obtain ⟨hp, hc⟩ := ahist
  refine WL_nil ?_
  refine QX_then ?_
  have hz' : x.history.length ≤ 1024 ∧ x.balances.length ≤ 65536 ∧ x.current.length ≤ 65536 := ⟨hf.history, hf.balances, hf.current⟩
  have hxs := hf.small
  refine WC_cut (G := StateD × Addrs) (fun g => g.1.Small ∧ (g.1.Fits → encState x ≠ encState g.1)) (fun _ => [(7, .slice gp (encState x).length gc), (9, .pointer (some ⟨b9, 0, none⟩))])
    (fun g => .blk b9 (stateS g.1 g.2) 49 :: (listsΔ g.1 g.2 ++ [.sl (.slice gp (encState x).length gc) (encState x).length (bs (encState x)) 5 1])) ?_ (fun g hg => ?_)
  · obtain rfl | rfl | rfl | rfl | rfl | rfl | rfl | rfl : k = 0 ∨ k = 1 ∨ k = 2 ∨ k = 3 ∨ k = 4 ∨ k = 5 ∨ k = 6 ∨ k = 7 := by omega
    · (repeat (first | (refine WC_seq ?_) | (refine WC_block ?_) | (refine WC_region ?_) | (refine WL_nil ?_) | (refine QX_then ?_) | (refine WC_cond_true rfl ?_) | (refine WL_val rfl rfl rfl (by first | exact val_move rfl | exact val_assign rfl | exact val_fieldAddr0 rfl | (apply val_load_blk; exact rfl; (repeat (first | exact .head | apply Pick.tail)); exact rfl) | exact val_eql rfl rfl) ?_)))
      refine WL_val rfl rfl rfl (val_addU rfl rfl) ?_
      (repeat (refine WL_val rfl rfl rfl (by exact val_fieldAddr0 rfl) ?_))
      refine WL_store rfl rfl rfl rfl .head (by repeat (first | exact PutSeg.one | apply PutSeg.skip | apply PutSeg.next | exact PutSeg.inner rfl)) ?_
      refine WL_chunkAs (k' := .blk b9 (stateS (x.ap0 by_) ⟨⟨hp, hc⟩, avote, aval, ⟨bp, bc⟩, aprev, ⟨up, uc⟩, ascore⟩) 49) .head (by simp only [stateS, StateD.ap0, u64, UInt64.toNat_add]) ?_
      (repeat (first | (refine WL_nil ?_) | (refine QX_block ?_)))
      exact QX_join (x.ap0 by_, ⟨⟨hp, hc⟩, avote, aval, ⟨bp, bc⟩, aprev, ⟨up, uc⟩, ascore⟩) ⟨⟨hxs.history, hxs.votes, hxs.validators, hxs.balances, hxs.previous, hxs.current, hxs.scores⟩, apart0 hby hf⟩ ⟨rfl, rfl, trivial⟩ (by repeat (first | exact Sel.nil | refine Sel.cons (by repeat (first | exact .head | apply Pick.tail | apply Put.tail)) ?_))
    · have hj4 : by_.toNat % 4 < 4 := Nat.mod_lt _ (by decide)
      have hj : ((by_.toNat : Int) % 4) = ((by_.toNat % 4 : Nat) : Int) := by omega
      generalize by_.toNat % 4 = j at hj4 hj
      (repeat (first | (refine WC_seq ?_) | (refine WC_block ?_) | (refine WC_region ?_) | (refine WL_nil ?_) | (refine QX_then ?_) | (refine WC_cond_true rfl ?_) | (refine WC_cond_false rfl ?_) | (refine WL_val rfl rfl rfl (by first | exact val_move rfl | exact val_assign rfl | exact val_fieldAddr0 rfl | exact val_eql rfl rfl | (apply val_remI; exact rfl; exact rfl; decide; omega)) ?_)))
      refine WL_as 48 (.int .u64 (j : Int)) rfl (by rw [hj]) ?_
      refine WL_as 50 (.int .u64 (j : Int)) rfl (by rw [hj]) ?_
      refine WL_val rfl rfl rfl (val_indexAddr_arrC rfl rfl hj4) ?_
      refine WL_val rfl rfl rfl (val_load_cell (o := 989) (l := 4) (v := .bool x.bits[j]) rfl .head rfl (by simp [boolsV, hj4])) ?_
      (repeat (refine WL_val rfl rfl rfl (by first | exact val_fieldAddr0 rfl | exact val_not rfl) ?_))
      refine WL_val rfl rfl rfl (val_indexAddr_arrC rfl rfl hj4) ?_
      refine WL_store rfl rfl rfl rfl .head (by repeat (first | exact PutSeg.inner (Nat.ble_eq_true_of_le (by omega)) | apply PutSeg.skip)) ?_
      refine WL_chunkAs (k' := .blk b9 (stateS (x.ap1 j) ⟨⟨hp, hc⟩, avote, aval, ⟨bp, bc⟩, aprev, ⟨up, uc⟩, ascore⟩) 49) .head (by simp only [stateS, StateD.ap1]; rw [bits_put x.bits j hj4]) ?_
      (repeat (first | (refine WL_nil ?_) | (refine QX_block ?_)))
      exact QX_join (x.ap1 j, ⟨⟨hp, hc⟩, avote, aval, ⟨bp, bc⟩, aprev, ⟨up, uc⟩, ascore⟩) ⟨⟨hxs.history, hxs.votes, hxs.validators, hxs.balances, hxs.previous, hxs.current, hxs.scores⟩, apart1 hj4 hf⟩ ⟨rfl, rfl, trivial⟩ (by repeat (first | exact Sel.nil | refine Sel.cons (by repeat (first | exact .head | apply Pick.tail | apply Put.tail)) ?_))
    · have hj8 : by_.toNat % 8 < 8 := Nat.mod_lt _ (by decide)
      have hj : ((by_.toNat : Int) % 8) = ((by_.toNat % 8 : Nat) : Int) := by omega
      generalize by_.toNat % 8 = j at hj8 hj
      (repeat (first | (refine WC_seq ?_) | (refine WC_block ?_) | (refine WC_region ?_) | (refine WL_nil ?_) | (refine QX_then ?_) | (refine WC_cond_true rfl ?_) | (refine WC_cond_false rfl ?_) | (refine WL_val rfl rfl rfl (by first | exact val_assign rfl | exact val_eql rfl rfl) ?_)))
      (refine WC_drawA [.blk b9 (stateS x ⟨⟨hp, hc⟩, avote, aval, ⟨bp, bc⟩, aprev, ⟨up, uc⟩, ascore⟩) 49] mixed (by kernel_rfl) (by repeat (first | exact Sel.nil | refine Sel.cons (by repeat (first | exact .head | apply Pick.tail | apply Put.tail)) ?_)) ?_)
      (repeat (refine WD_p rfl rfl rfl (by first | exact val_move rfl | exact val_fieldAddr0 rfl | (apply val_remI; exact rfl; exact rfl; decide; omega)) ?_))
      refine WD_as 60 (.int .u64 (j : Int)) rfl (by rw [hj]) ?_
      refine WD_p rfl rfl rfl (val_indexAddr_arrC rfl rfl hj8) ?_
      refine WD_p rfl rfl rfl (val_indexAddr_arr rfl rfl (by decide) (by decide)) ?_
      refine WD_as 63 (.pointer (some ⟨b9, j * 32 + 31 + 723, none⟩)) rfl (ptr_eq (by simp)) ?_
      refine WD_q rfl rfl rfl (val_load_cell (o := 723) (l := 256) (v := by8 x.mixes[j][31]) rfl .head rfl (rootsV_cell _ j hj8 31 (by decide))) ?_
      refine WD_p rfl rfl rfl (val_xor1 rfl rfl) ?_
      (repeat (refine WD_p rfl rfl rfl (by exact val_fieldAddr0 rfl) ?_))
      refine WD_p rfl rfl rfl (val_indexAddr_arrC rfl rfl hj8) ?_
      refine WD_p rfl rfl rfl (val_indexAddr_arr rfl rfl (by decide) (by decide)) ?_
      refine WD_as 68 (.pointer (some ⟨b9, j * 32 + 31 + 723, none⟩)) rfl (ptr_eq (by simp)) ?_
      (refine WD_t ?_)
      refine WL_store rfl rfl rfl rfl .head (by repeat (first | exact PutSeg.inner (Nat.ble_eq_true_of_le (by omega)) | apply PutSeg.skip)) ?_
      refine WL_chunkAs (k' := .blk b9 (stateS (x.ap2 j) ⟨⟨hp, hc⟩, avote, aval, ⟨bp, bc⟩, aprev, ⟨up, uc⟩, ascore⟩) 49) .head (by simp only [stateS, StateD.ap2]; rw [rootsV_put x.mixes j hj8 31 (by decide)]) ?_
      (refine WL_t ?_)
      refine WD_nil ?_
      (repeat (refine QX_block ?_))
      exact QX_join (x.ap2 j, ⟨⟨hp, hc⟩, avote, aval, ⟨bp, bc⟩, aprev, ⟨up, uc⟩, ascore⟩) ⟨⟨hxs.history, hxs.votes, hxs.validators, hxs.balances, hxs.previous, hxs.current, hxs.scores⟩, apart2 hj8 hf⟩ ⟨rfl, rfl, trivial⟩ (by repeat (first | exact Sel.nil | refine Sel.cons (by repeat (first | exact .head | apply Pick.tail | apply Put.tail)) ?_))
    · (repeat (first | (refine WC_seq ?_) | (refine WC_block ?_) | (refine WC_region ?_) | (refine WL_nil ?_) | (refine QX_then ?_) | (refine WC_cond_true rfl ?_) | (refine WC_cond_false rfl ?_) | (refine WL_val rfl rfl rfl (by first | exact val_assign rfl | exact val_fieldAddr0 rfl | (apply val_load_blk; exact rfl; (repeat (first | exact .head | apply Pick.tail)); exact rfl) | exact val_eql rfl rfl) ?_)))
      refine WL_val rfl rfl rfl (val_buildArr (vs := []) rfl .nil) ?_
      refine WL_buildA rfl rfl rfl rfl rfl rfl rfl (fun b8 => ?_)
      refine WL_append (v := .slice hp x.history.length hc) rfl rfl rfl rfl rfl rfl (.tail (.tail .head)) (SlRd.blkS (k := 32) (m := 1) (q := [(32, List.replicate 32 (.int .u8 0))]) .head (by exact rfl) rfl (Nat.le_refl _) (by simp [flat])) (by simp [flat, Value.oneCell']) (by omega) (by omega) (fun p2 c2 => ?_)
      (repeat (refine WL_val rfl rfl rfl (by exact val_fieldAddr0 rfl) ?_))
      (first | (refine WL_store rfl rfl rfl rfl (by repeat (first | exact .head | apply Pick.tail | apply Put.tail)) (by repeat (first | exact PutSeg.one | apply PutSeg.skip | apply PutSeg.next | exact PutSeg.inner rfl)) ?_) | (refine WL_store_agg rfl rfl rfl (by repeat (first | exact .head | apply Pick.tail | apply Put.tail)) (by repeat (first | exact PutSeg.one | apply PutSeg.skip | apply PutSeg.next | exact PutSeg.inner rfl)) ?_))
      refine WL_chunkAs (k := .blk b9 _ _) (k' := .blk b9 (stateS x.ap3 ⟨⟨p2, c2⟩, avote, aval, ⟨bp, bc⟩, aprev, ⟨up, uc⟩, ascore⟩) 49) (by repeat (first | exact .head | apply Pick.tail | apply Put.tail)) (by simp only [stateS, StateD.ap3, PC.sl, List.length_append, List.length_singleton]) ?_
      refine WL_chunkAs (k := .sl (.slice p2 _ c2) _ _ _ _) (k' := .sl (.slice p2 x.ap3.history.length c2) x.ap3.history.length (x.ap3.history.flatMap bv) 24 32) (by repeat (first | exact .head | apply Pick.tail | apply Put.tail)) (by simp [StateD.ap3, flat, bv_zeros]) ?_
      (repeat (first | (refine WL_nil ?_) | (refine QX_block ?_)))
      exact QX_join (x.ap3, ⟨⟨p2, c2⟩, avote, aval, ⟨bp, bc⟩, aprev, ⟨up, uc⟩, ascore⟩) ⟨⟨by simp only [StateD.ap3, List.length_append, List.length_singleton]; omega, hxs.votes, hxs.validators, hxs.balances, hxs.previous, hxs.current, hxs.scores⟩, apart3 hf⟩ ⟨rfl, rfl, trivial⟩ (by repeat (first | exact Sel.nil | refine Sel.cons (by repeat (first | exact .head | apply Pick.tail | apply Put.tail)) ?_))
    · (repeat (first | (refine WC_seq ?_) | (refine WC_block ?_) | (refine WC_region ?_) | (refine WL_nil ?_) | (refine QX_then ?_) | (refine WC_cond_true rfl ?_) | (refine WC_cond_false rfl ?_) | (refine WL_val rfl rfl rfl (by first | exact val_assign rfl | exact val_fieldAddr0 rfl | (apply val_load_blk; exact rfl; (repeat (first | exact .head | apply Pick.tail)); exact rfl) | exact val_eql rfl rfl) ?_)))
      refine WL_build1 rfl rfl rfl rfl rfl rfl rfl rfl rfl rfl (fun b8 => ?_)
      refine WL_append (v := .slice bp x.balances.length bc) rfl rfl rfl rfl rfl rfl (.tail (.tail (.tail (.tail (.tail .head))))) (SlRd.blk (k := 1) (m := 1) (vs := [.int .u64 0]) .head (by exact rfl) rfl (Nat.le_refl _) rfl) (by simp [Value.oneCell']) (by omega) (by omega) (fun p2 c2 => ?_)
      (repeat (refine WL_val rfl rfl rfl (by exact val_fieldAddr0 rfl) ?_))
      (first | (refine WL_store rfl rfl rfl rfl (by repeat (first | exact .head | apply Pick.tail | apply Put.tail)) (by repeat (first | exact PutSeg.one | apply PutSeg.skip | apply PutSeg.next | exact PutSeg.inner rfl)) ?_) | (refine WL_store_agg rfl rfl rfl (by repeat (first | exact .head | apply Pick.tail | apply Put.tail)) (by repeat (first | exact PutSeg.one | apply PutSeg.skip | apply PutSeg.next | exact PutSeg.inner rfl)) ?_))
      refine WL_chunkAs (k := .blk b9 _ _) (k' := .blk b9 (stateS x.ap4 ⟨⟨hp, hc⟩, avote, aval, ⟨p2, c2⟩, aprev, ⟨up, uc⟩, ascore⟩) 49) (by repeat (first | exact .head | apply Pick.tail | apply Put.tail)) (by simp only [stateS, StateD.ap4, PC.sl, List.length_append, List.length_singleton]) ?_
      refine WL_chunkAs (k := .sl (.slice p2 _ c2) _ _ _ _) (k' := .sl (.slice p2 x.ap4.balances.length c2) x.ap4.balances.length (x.ap4.balances.map u64) 22 1) (by repeat (first | exact .head | apply Pick.tail | apply Put.tail)) (by simp [StateD.ap4, u64]) ?_
      (repeat (first | (refine WL_nil ?_) | (refine QX_block ?_)))
      exact QX_join (x.ap4, ⟨⟨hp, hc⟩, avote, aval, ⟨p2, c2⟩, aprev, ⟨up, uc⟩, ascore⟩) ⟨⟨hxs.history, hxs.votes, hxs.validators, by simp only [StateD.ap4, List.length_append, List.length_singleton]; omega, hxs.previous, hxs.current, hxs.scores⟩, apart4 hf⟩ ⟨rfl, rfl, trivial⟩ (by repeat (first | exact Sel.nil | refine Sel.cons (by repeat (first | exact .head | apply Pick.tail | apply Put.tail)) ?_))
    · (repeat (first | (refine WC_seq ?_) | (refine WC_block ?_) | (refine WC_region ?_) | (refine WL_nil ?_) | (refine QX_then ?_) | (refine WC_cond_true rfl ?_) | (refine WC_cond_false rfl ?_) | (refine WL_val rfl rfl rfl (by first | exact val_assign rfl | exact val_fieldAddr0 rfl | exact val_fieldAddr rfl | exact val_eql rfl rfl) ?_)))
      refine WL_val rfl rfl rfl (val_indexAddr_arr rfl rfl (by decide) (by decide)) ?_
      refine WL_as 88 (.pointer (some ⟨b9, 47 + 1909, none⟩)) rfl (ptr_eq (by simp)) ?_
      refine WL_val rfl rfl rfl (val_load_cell (o := 1909) (l := 48) (v := by8 x.nextSync.sum[47]) rfl .head rfl (by simp [bv, bs])) ?_
      refine WL_val rfl rfl rfl (val_xor1 rfl rfl) ?_
      (repeat (refine WL_val rfl rfl rfl (by first | exact val_fieldAddr0 rfl | exact val_fieldAddr rfl) ?_))
      refine WL_val rfl rfl rfl (val_indexAddr_arr rfl rfl (by decide) (by decide)) ?_
      refine WL_as 93 (.pointer (some ⟨b9, 1956, none⟩)) rfl (ptr_eq (by simp)) ?_
      refine WL_store rfl rfl rfl rfl .head (by repeat (first | exact PutSeg.one | apply PutSeg.skip | apply PutSeg.next | exact PutSeg.inner rfl)) ?_
      refine WL_chunkAs (k' := .blk b9 (stateS x.ap5 ⟨⟨hp, hc⟩, avote, aval, ⟨bp, bc⟩, aprev, ⟨up, uc⟩, ascore⟩) 49) .head (by simp only [stateS, StateD.ap5]; rw [← bv_setLast 47 (by decide) x.nextSync.sum, ← set_put _ _ (by simp)]) ?_
      (repeat (first | (refine WL_nil ?_) | (refine QX_block ?_)))
      exact QX_join (x.ap5, ⟨⟨hp, hc⟩, avote, aval, ⟨bp, bc⟩, aprev, ⟨up, uc⟩, ascore⟩) ⟨⟨hxs.history, hxs.votes, hxs.validators, hxs.balances, hxs.previous, hxs.current, hxs.scores⟩, apart5 hf⟩ ⟨rfl, rfl, trivial⟩ (by repeat (first | exact Sel.nil | refine Sel.cons (by repeat (first | exact .head | apply Pick.tail | apply Put.tail)) ?_))
    · (repeat (first | (refine WC_seq ?_) | (refine WC_block ?_) | (refine WC_region ?_) | (refine WL_nil ?_) | (refine QX_then ?_) | (refine WC_cond_true rfl ?_) | (refine WC_cond_false rfl ?_) | (refine WL_val rfl rfl rfl (by first | exact val_assign rfl | exact val_fieldAddr0 rfl | (apply val_load_blk; exact rfl; (repeat (first | exact .head | apply Pick.tail)); exact rfl) | exact val_eql rfl rfl) ?_)))
      refine WL_build1 rfl rfl rfl rfl rfl rfl rfl rfl rfl rfl (fun b8 => ?_)
      refine WL_append (v := .slice up x.current.length uc) rfl rfl rfl rfl rfl rfl (.tail (.tail (.tail (.tail (.tail (.tail (.tail .head))))))) (SlRd.blk (k := 1) (m := 1) (vs := [.int .u8 0]) .head (by exact rfl) rfl (Nat.le_refl _) rfl) (by simp [Value.oneCell']) (by omega) (by omega) (fun p2 c2 => ?_)
      (repeat (refine WL_val rfl rfl rfl (by exact val_fieldAddr0 rfl) ?_))
      (first | (refine WL_store rfl rfl rfl rfl (by repeat (first | exact .head | apply Pick.tail | apply Put.tail)) (by repeat (first | exact PutSeg.one | apply PutSeg.skip | apply PutSeg.next | exact PutSeg.inner rfl)) ?_) | (refine WL_store_agg rfl rfl rfl (by repeat (first | exact .head | apply Pick.tail | apply Put.tail)) (by repeat (first | exact PutSeg.one | apply PutSeg.skip | apply PutSeg.next | exact PutSeg.inner rfl)) ?_))
      refine WL_chunkAs (k := .blk b9 _ _) (k' := .blk b9 (stateS x.ap6 ⟨⟨hp, hc⟩, avote, aval, ⟨bp, bc⟩, aprev, ⟨p2, c2⟩, ascore⟩) 49) (by repeat (first | exact .head | apply Pick.tail | apply Put.tail)) (by simp only [stateS, StateD.ap6, PC.sl, List.length_append, List.length_singleton]) ?_
      refine WL_chunkAs (k := .sl (.slice p2 _ c2) _ _ _ _) (k' := .sl (.slice p2 x.ap6.current.length c2) x.ap6.current.length (bs x.ap6.current) 5 1) (by repeat (first | exact .head | apply Pick.tail | apply Put.tail)) (by simp [StateD.ap6, bs]) ?_
      (repeat (first | (refine WL_nil ?_) | (refine QX_block ?_)))
      exact QX_join (x.ap6, ⟨⟨hp, hc⟩, avote, aval, ⟨bp, bc⟩, aprev, ⟨p2, c2⟩, ascore⟩) ⟨⟨hxs.history, hxs.votes, hxs.validators, hxs.balances, hxs.previous, by simp only [StateD.ap6, List.length_append, List.length_singleton]; omega, hxs.scores⟩, apart6 hf⟩ ⟨rfl, rfl, trivial⟩ (by repeat (first | exact Sel.nil | refine Sel.cons (by repeat (first | exact .head | apply Pick.tail | apply Put.tail)) ?_))
    · (repeat (first | (refine WC_seq ?_) | (refine WC_block ?_) | (refine WC_region ?_) | (refine WL_nil ?_) | (refine QX_then ?_) | (refine WC_cond_false rfl ?_) | (refine WL_val rfl rfl rfl (by first | exact val_move rfl | exact val_assign rfl | exact val_fieldAddr0 rfl | exact val_fieldAddr_0 rfl | (apply val_load_blk; exact rfl; (repeat (first | exact .head | apply Pick.tail)); exact rfl) | exact val_eql rfl rfl) ?_)))
      refine WL_val rfl rfl rfl (val_addU rfl rfl) ?_
      (repeat (refine WL_val rfl rfl rfl (by first | exact val_fieldAddr0 rfl | exact val_fieldAddr_0 rfl) ?_))
      refine WL_store rfl rfl rfl rfl .head (by repeat (first | exact PutSeg.one | apply PutSeg.skip | apply PutSeg.next | exact PutSeg.inner rfl)) ?_
      refine WL_chunkAs (k' := .blk b9 (stateS (x.ap7 by_) ⟨⟨hp, hc⟩, avote, aval, ⟨bp, bc⟩, aprev, ⟨up, uc⟩, ascore⟩) 49) .head (by simp only [stateS, StateD.ap7, u64, UInt64.toNat_add]) ?_
      (repeat (first | (refine WL_nil ?_) | (refine QX_block ?_)))
      exact QX_join (x.ap7 by_, ⟨⟨hp, hc⟩, avote, aval, ⟨bp, bc⟩, aprev, ⟨up, uc⟩, ascore⟩) ⟨⟨hxs.history, hxs.votes, hxs.validators, hxs.balances, hxs.previous, hxs.current, hxs.scores⟩, apart7 hby hf⟩ ⟨rfl, rfl, trivial⟩ (by repeat (first | exact Sel.nil | refine Sel.cons (by repeat (first | exact .head | apply Pick.tail | apply Put.tail)) ?_))
  obtain ⟨y, ay⟩ := g
  obtain ⟨hys, hya⟩ := hg
  dsimp only at hys hya ⊢
  (repeat (first | (refine WC_seq ?_) | (refine WC_region ?_) | (refine WL_val rfl rfl rfl (by apply val_load_blk_agg; exact rfl; (repeat (first | exact .head | apply Pick.tail)); exact rfl) ?_)))
  refine WL_as 102 (aggS (stateS y ay)) rfl rfl ?_
  refine WL_call rfl rfl rfl .nil (fun w' hw' _ => encStateW w' y ay (ListsAt.own hw' (.cons (Pick.erase (i := 1) rfl) (.cons (Pick.erase (i := 1) rfl) (.cons (Pick.erase (i := 1) rfl) (.cons (Pick.erase (i := 1) rfl) (.cons (Pick.erase (i := 1) rfl) (.cons (Pick.erase (i := 1) rfl) (.cons (Pick.erase (i := 1) rfl) .nil)))))))) hys) (fun g2 _ => ?_)
  obtain ⟨gp2, gc2⟩ := g2
  dsimp only
  (repeat (first | (refine WC_seq ?_) | (refine WC_region ?_) | (refine WL_val rfl rfl rfl (by first | exact val_move rfl | exact val_assign rfl | exact val_extract rfl rfl | exact val_neq rfl rfl) ?_)))
  refine WL_bool 108 rfl (fun ht => ?_) (fun ht => ?_)
  · (repeat (first | (refine WC_ret ?_) | (refine WL_off rfl rfl rfl ?_) | (refine WL_val rfl rfl rfl (by first | exact val_assign rfl | exact val_pick_true rfl rfl) ?_)))
    refine QX_ret (l := [.tmp 6]) rfl (.tmp rfl .nil) ?_
    intro w' hw'
    exact gives () hw' trivial rfl .nil
  have he2 : (stAll y).err = 0 := by have := of_decide_eq_false ht; simpa using this
  have hne := hya (fits_of_err he2)
  (repeat (refine WL_val rfl rfl rfl (by exact val_move rfl) ?_))
  refine WL_slRd (p := gp) (m := (encState x).length) (xs := bs (encState x)) (c := gc) (el := 5) (sz := 1) (.tail (.tail (.tail (.tail (.tail (.tail (.tail (.tail (.tail .head))))))))) (fun hr1 => ?_)
  refine WL_slRd (p := gp2) (m := (encState y).length) (xs := bs (encState y)) (c := gc2) (el := 5) (sz := 1) .head (fun hr2 => ?_)
  refine WL_val rfl rfl rfl (val_toStr rfl hr1) ?_
  (repeat (refine WL_val rfl rfl rfl (by exact val_move rfl) ?_))
  refine WL_val rfl rfl rfl (val_toStr rfl hr2) ?_
  refine WL_val rfl rfl rfl (val_neqS rfl rfl) ?_
  (repeat (first | (refine WC_ret ?_) | (refine WL_val rfl rfl rfl (by first | exact val_assign rfl | exact val_pick_false rfl rfl) ?_)))
  refine QX_ret (l := [.tmp 6]) rfl (.tmp rfl .nil) ?_
  intro w' hw'
  exact gives () hw' trivial (by simp [packed, hne]) .nil
end Go.PK

/- StateApart: states that differ have unlike bytes. (Part 7: In4, Rt, Read, Read2, Bits2, Each, Each2, K19, Rs0, Rs1, Rs2.) -/
import Derived.Test.YtdmfjpjhibhmhaaApf

/- Calls of an In's methods as steps. -/
namespace Go.PK
open Go.Proofs

theorem part_eq {α : Type} {l a b c : List α} {n k : Nat} (h : l = a ++ (b ++ c)) (ha : a.length = n) (hb : b.length = k) : (l.drop n).take k = b := by
  subst h ha hb; simp

section rules
variable {Q : Exit → Act → World → Prop} {n : Nat} {e : Env} {Γ Γ' A A' : List Chunk} {S : List Nat} {w0 : World} {ops : Array Oper} {rest : List Oper}
  {d : Nat} {ty : TypeId} {pos : String} {after : Array Edge} {gd : Option (Nat × Bool)} {x y z : Operand} {ts : Array TypeId} {i : Nat} {g : IA} {s : IS}

theorem WL_inBytes {k : Nat} (hall : Old w0 S 1 (.slice (some ⟨g.ab, g.ao, none⟩) s.all.length g.ac) s.all.length (bs s.all)) (hw : wantedE ops e gd = some true) (hd : Nat.blt d n = true) (hx : ev e x = some (.pointer (some ⟨i, 0, none⟩))) (hy : ev e y = some (.int .i64 (k : Int)))
    (h0 : 0 < k) (hk : s.pos + k ≤ s.all.length) (h63 : s.all.length < 1000000000)
    (h : WL Try.prog ops Q rest n ((d, .slice (some ⟨g.ab, g.ao + s.pos, none⟩) k (g.ac - s.pos)) :: e) (inΔ i g (s.skip k) ++ A) S w0) :
    WL Try.prog ops Q (⟨some d, .call ⟨.value (.func 48), #[x, y], ts⟩, ty, pos, after, gd⟩ :: rest) n e (inΔ i g s ++ A) S w0 :=
  WL_call (l := [x, y]) (Δ := inΔ i g s) (A := A) hw hd (by simp only [evs, hx, hy]) Take.left (fun w _ hΔ => inBytes w i g s _ k hΔ h0 hk (inAc w0 g s S hall) (by omega)) (fun _ _ => h)

theorem WL_inU64 {k : Nat} (hall : Old w0 S 1 (.slice (some ⟨g.ab, g.ao, none⟩) s.all.length g.ac) s.all.length (bs s.all)) (hw : wantedE ops e gd = some true) (hd : Nat.blt d n = true) (hx : ev e x = some (.pointer (some ⟨i, 0, none⟩)))
    (hk : s.pos + 8 ≤ s.all.length) (h63 : s.all.length < 1000000000) (hv : rdTo (s.part 8) 8 = k)
    (h : WL Try.prog ops Q rest n ((d, .int .u64 (k : Int)) :: e) (inΔ i g (s.skip 8) ++ A) S w0) :
    WL Try.prog ops Q (⟨some d, .call ⟨.value (.func 47), #[x], ts⟩, ty, pos, after, gd⟩ :: rest) n e (inΔ i g s ++ A) S w0 := by
  subst hv
  exact WL_call (l := [x]) (Δ := inΔ i g s) (A := A) hw hd (by simp only [evs, hx]) Take.left (fun w hm hΔ => inU64 w i g s _ (hall.pass hm Take.left) hΔ hk (by omega)) (fun _ _ => h)

theorem WL_inFlag {f : Bool} (hall : Old w0 S 1 (.slice (some ⟨g.ab, g.ao, none⟩) s.all.length g.ac) s.all.length (bs s.all)) (hw : wantedE ops e gd = some true) (hd : Nat.blt d n = true) (hx : ev e x = some (.pointer (some ⟨i, 0, none⟩)))
    (hk : s.pos + 1 ≤ s.all.length) (h63 : s.all.length < 1000000000) (hv : s.part 1 = [if f then 1 else 0])
    (h : WL Try.prog ops Q rest n ((d, .bool f) :: e) (inΔ i g (s.skip 1) ++ A) S w0) :
    WL Try.prog ops Q (⟨some d, .call ⟨.value (.func 71), #[x], ts⟩, ty, pos, after, gd⟩ :: rest) n e (inΔ i g s ++ A) S w0 :=
  WL_call (l := [x]) (Δ := inΔ i g s) (A := A) hw hd (by simp only [evs, hx]) Take.left (fun w hm hΔ => inFlag w i g s _ (hall.pass hm Take.left) f hΔ hk (by omega) hv) (fun _ _ => h)

theorem WL_inLater {lo hi : Nat} (hw : wantedE ops e gd = some true) (hd : Nat.blt d n = true) (hx : ev e x = some (.pointer (some ⟨i, 0, none⟩)))
    (h1 : s.offs[s.next]? = some lo) (h2 : s.offs[s.next + 1]? = some hi) (hlh : lo ≤ hi) (hh : hi ≤ g.ac) (h63 : s.pos < 1000000000) (h64 : s.next < 1000000000)
    (h : WL Try.prog ops Q rest n ((d, .slice (subA g.ab g.ao lo g.ac) (hi - lo) (g.ac - lo)) :: e) (inΔ i g s.step ++ A) S w0) :
    WL Try.prog ops Q (⟨some d, .call ⟨.value (.func 52), #[x], ts⟩, ty, pos, after, gd⟩ :: rest) n e (inΔ i g s ++ A) S w0 :=
  WL_call (l := [x]) (Δ := inΔ i g s) (A := A) hw hd (by simp only [evs, hx]) Take.left (fun w _ hΔ => inLater w i g s _ lo hi hΔ h1 h2 hlh hh h63 h64) (fun _ _ => h)

theorem WL_inFail (hw : wantedE ops e gd = some true) (hd : Nat.blt d n = true) (hx : ev e x = some (.pointer (some ⟨i, 0, none⟩))) (hy : ev e y = some (.int .i64 0))
    (h : WL Try.prog ops Q rest n ((d, .tuple #[]) :: e) (inΔ i g s ++ A) S w0) :
    WL Try.prog ops Q (⟨some d, .call ⟨.value (.func 50), #[x, y], ts⟩, ty, pos, after, gd⟩ :: rest) n e (inΔ i g s ++ A) S w0 :=
  WL_call (l := [x, y]) (Δ := inΔ i g s) (A := A) hw hd (by simp only [evs, hx, hy]) Take.left (fun w _ hΔ => inFail w i g s _ hΔ) (fun _ _ => h)
end rules

theorem rd_le8 (n : Nat) (h : n < 18446744073709551616) : rdTo (le8 n) 8 = n := by
  simp only [rdTo, le8, List.getD_cons_zero, List.getD_cons_succ, UInt8.toNat_ofNat', Nat.reduceMul, Nat.reducePow, Nat.mul_zero, Nat.pow_zero]
  omega
theorem rd_u64 (n : UInt64) : rdTo (le8 n.toNat) 8 = n.toNat := rd_le8 _ n.toNat_lt
end Go.PK

/- What stands where in a state's bytes. Written by a program (genrt.py). -/
namespace Go.PK

def restLen : List Tok → Nat
  | [] => 0
  | .fix _ :: r => restLen r
  | .var b :: r => b.length + restLen r
theorem layRest_length : ∀ (l : List Tok), (layRest l).length = restLen l
  | [] => rfl
  | .fix b :: r => by simp [layRest, restLen, layRest_length r]
  | .var b :: r => by simp [layRest, restLen, layRest_length r]
theorem layHead_split : ∀ (pre post : List Tok) (o : Nat), layHead o (pre ++ post) = layHead o pre ++ layHead (o + restLen pre) post
  | [], post, o => by simp [layHead, restLen]
  | .fix b :: r, post, o => by simp [layHead, restLen, layHead_split r]
  | .var b :: r, post, o => by simp [layHead, restLen, layHead_split r, Nat.add_assoc]
theorem layRest_split : ∀ (pre post : List Tok), layRest (pre ++ post) = layRest pre ++ layRest post
  | [], post => rfl
  | .fix b :: r, post => by simp [layRest, layRest_split r]
  | .var b :: r, post => by simp [layRest, layRest_split r]

theorem part_fix {o : Nat} {R : List UInt8} {l pre post : List Tok} {b : List UInt8} {p n : Nat} (h : l = pre ++ .fix b :: post) (hp : headLen pre = p) (hn : b.length = n) : ((layHead o l ++ R).drop p).take n = b := by
  subst h
  rw [layHead_split, layHead]
  exact part_eq (a := layHead o pre) (c := layHead (o + restLen pre) post ++ R) (by simp) (by rw [layHead_length, hp]) hn
theorem part_var {o : Nat} {R : List UInt8} {l pre post : List Tok} {b : List UInt8} {p q : Nat} (h : l = pre ++ .var b :: post) (hp : headLen pre = p) (hq : restLen pre = q) : ((layHead o l ++ R).drop p).take 4 = le4 (o + q) := by
  subst h
  rw [layHead_split, layHead, ← hq]
  exact part_eq (a := layHead o pre) (c := layHead (o + restLen pre + b.length) post ++ R) (by simp) (by rw [layHead_length, hp]) rfl
theorem part_rest {H : List UInt8} {l pre post : List Tok} {b : List UInt8} {p n : Nat} (h : l = pre ++ .var b :: post) (hp : H.length + restLen pre = p) (hn : b.length = n) : ((H ++ layRest l).drop p).take n = b := by
  subst h
  rw [layRest_split, layRest]
  exact part_eq (a := H ++ layRest pre) (c := layRest post) (by simp) (by rw [List.length_append, layRest_length, hp]) hn

theorem rd_le4 {l : List UInt8} {n : Nat} (h : l.take 4 = le4 n) (hn : n < 4294967296) : rdTo l 4 = n := by
  rw [← List.take_append_drop 4 l, h]
  simp only [rdTo, le4, List.cons_append, List.getD_cons_zero, List.getD_cons_succ, UInt8.toNat_ofNat', Nat.reduceMul, Nat.reducePow, Nat.mul_zero, Nat.pow_zero]
  omega
theorem drop_take_sub {α : Type} {l : List α} {p n j k : Nat} (h : j + k ≤ n) : (l.drop (p + j)).take k = (((l.drop p).take n).drop j).take k := by
  rw [List.drop_take, List.take_take, List.drop_drop, Nat.min_eq_left (by omega)]

section
variable (x : StateD)

/-- where each list begins -/
def stOffs : List Nat := [2101 + (0), 2101 + (x.history.length * 32), 2101 + (x.history.length * 32 + x.votes.length * 72), 2101 + (x.history.length * 32 + x.votes.length * 72 + x.validators.length * 121), 2101 + (x.history.length * 32 + x.votes.length * 72 + x.validators.length * 121 + x.balances.length * 8), 2101 + (x.history.length * 32 + x.votes.length * 72 + x.validators.length * 121 + x.balances.length * 8 + x.previous.length * 1), 2101 + (x.history.length * 32 + x.votes.length * 72 + x.validators.length * 121 + x.balances.length * 8 + x.previous.length * 1 + x.current.length * 1)]
def stEnd : Nat := 2101 + (x.history.length * 32 + x.votes.length * 72 + x.validators.length * 121 + x.balances.length * 8 + x.previous.length * 1 + x.current.length * 1 + x.scores.length * 8)
variable (h : x.Fits)
include h
theorem encState_length : (encState x).length = stEnd x := by
  rw [encState_toks x h, List.length_append, layHead_length, layRest_length]
  simp [stToks, headLen, restLen, stEnd, rows_length, -List.length_flatMap, len_u64, len_root, len_eth1, len_val, ← Nat.add_assoc]
theorem at_genesis : ((encState x).drop 0).take 8 = le8 x.genesis.toNat := by
  rw [encState_toks x h]; exact part_fix (pre := (stToks x).take 0) (post := (stToks x).drop 1) rfl (by simp [stToks, headLen, -List.length_flatMap]) (by simp)
theorem at_groot : ((encState x).drop 8).take 32 = x.groot.toList := by
  rw [encState_toks x h]; exact part_fix (pre := (stToks x).take 1) (post := (stToks x).drop 2) rfl (by simp [stToks, headLen, -List.length_flatMap]) (by simp)
theorem at_slot : ((encState x).drop 40).take 8 = le8 x.slot.toNat := by
  rw [encState_toks x h]; exact part_fix (pre := (stToks x).take 2) (post := (stToks x).drop 3) rfl (by simp [stToks, headLen, -List.length_flatMap]) (by simp)
theorem at_fork : ((encState x).drop 48).take 16 = encFork x.fork := by
  rw [encState_toks x h]; exact part_fix (pre := (stToks x).take 3) (post := (stToks x).drop 4) rfl (by simp [stToks, headLen, -List.length_flatMap]) (by simp)
theorem at_header : ((encState x).drop 64).take 112 = encHeader x.header := by
  rw [encState_toks x h]; exact part_fix (pre := (stToks x).take 4) (post := (stToks x).drop 5) rfl (by simp [stToks, headLen, -List.length_flatMap]) (by simp)
theorem at_blockRoots : ((encState x).drop 176).take 256 = rows x.blockRoots.toList := by
  rw [encState_toks x h]; exact part_fix (pre := (stToks x).take 5) (post := (stToks x).drop 6) rfl (by simp [stToks, headLen, -List.length_flatMap]) (by simp [rows_length])
theorem at_stateRoots : ((encState x).drop 432).take 256 = rows x.stateRoots.toList := by
  rw [encState_toks x h]; exact part_fix (pre := (stToks x).take 6) (post := (stToks x).drop 7) rfl (by simp [stToks, headLen, rows_length, -List.length_flatMap]) (by simp [rows_length])
theorem hole_history : ((encState x).drop 688).take 4 = le4 (2101 + (0)) := by
  rw [encState_toks x h]; exact part_var (pre := (stToks x).take 7) (post := (stToks x).drop 8) rfl (by simp [stToks, headLen, rows_length, -List.length_flatMap]) (by simp [stToks, restLen, -List.length_flatMap])
theorem list_history : ((encState x).drop (2101 + (0))).take (x.history.length * 32) = x.history.flatMap (fun r : Root => r.toList) := by
  rw [encState_toks x h]; exact part_rest (pre := (stToks x).take 7) (post := (stToks x).drop 8) rfl (by rw [layHead_length]; simp [stToks, headLen, restLen, rows_length, -List.length_flatMap, len_u64]) (len_root _)
theorem at_eth1 : ((encState x).drop 692).take 72 = encEth1 x.eth1 := by
  rw [encState_toks x h]; exact part_fix (pre := (stToks x).take 8) (post := (stToks x).drop 9) rfl (by simp [stToks, headLen, rows_length, -List.length_flatMap]) (by simp)
theorem hole_votes : ((encState x).drop 764).take 4 = le4 (2101 + (x.history.length * 32)) := by
  rw [encState_toks x h]; exact part_var (pre := (stToks x).take 9) (post := (stToks x).drop 10) rfl (by simp [stToks, headLen, rows_length, -List.length_flatMap]) (by simp [stToks, restLen, -List.length_flatMap, len_root])
theorem list_votes : ((encState x).drop (2101 + (x.history.length * 32))).take (x.votes.length * 72) = x.votes.flatMap encEth1 := by
  rw [encState_toks x h]; exact part_rest (pre := (stToks x).take 9) (post := (stToks x).drop 10) rfl (by rw [layHead_length]; simp [stToks, headLen, restLen, rows_length, -List.length_flatMap, len_u64, len_root]) (len_eth1 _)
theorem at_deposits : ((encState x).drop 768).take 8 = le8 x.deposits.toNat := by
  rw [encState_toks x h]; exact part_fix (pre := (stToks x).take 10) (post := (stToks x).drop 11) rfl (by simp [stToks, headLen, rows_length, -List.length_flatMap]) (by simp)
theorem hole_validators : ((encState x).drop 776).take 4 = le4 (2101 + (x.history.length * 32 + x.votes.length * 72)) := by
  rw [encState_toks x h]; exact part_var (pre := (stToks x).take 11) (post := (stToks x).drop 12) rfl (by simp [stToks, headLen, rows_length, -List.length_flatMap]) (by simp [stToks, restLen, -List.length_flatMap, len_root, len_eth1])
theorem list_validators : ((encState x).drop (2101 + (x.history.length * 32 + x.votes.length * 72))).take (x.validators.length * 121) = x.validators.flatMap encValidator := by
  rw [encState_toks x h]; exact part_rest (pre := (stToks x).take 11) (post := (stToks x).drop 12) rfl (by rw [layHead_length]; simp [stToks, headLen, restLen, rows_length, -List.length_flatMap, len_u64, len_root, len_eth1, ← Nat.add_assoc]) (len_val _)
theorem hole_balances : ((encState x).drop 780).take 4 = le4 (2101 + (x.history.length * 32 + x.votes.length * 72 + x.validators.length * 121)) := by
  rw [encState_toks x h]; exact part_var (pre := (stToks x).take 12) (post := (stToks x).drop 13) rfl (by simp [stToks, headLen, rows_length, -List.length_flatMap]) (by simp [stToks, restLen, -List.length_flatMap, len_root, len_eth1, len_val, ← Nat.add_assoc])
theorem list_balances : ((encState x).drop (2101 + (x.history.length * 32 + x.votes.length * 72 + x.validators.length * 121))).take (x.balances.length * 8) = x.balances.flatMap (fun n : UInt64 => le8 n.toNat) := by
  rw [encState_toks x h]; exact part_rest (pre := (stToks x).take 12) (post := (stToks x).drop 13) rfl (by rw [layHead_length]; simp [stToks, headLen, restLen, rows_length, -List.length_flatMap, len_u64, len_root, len_eth1, len_val, ← Nat.add_assoc]) (len_u64 _)
theorem at_mixes : ((encState x).drop 784).take 256 = rows x.mixes.toList := by
  rw [encState_toks x h]; exact part_fix (pre := (stToks x).take 13) (post := (stToks x).drop 14) rfl (by simp [stToks, headLen, rows_length, -List.length_flatMap]) (by simp [rows_length])
theorem at_slashings : ((encState x).drop 1040).take 64 = x.slashings.toList.flatMap (fun n : UInt64 => le8 n.toNat) := by
  rw [encState_toks x h]; exact part_fix (pre := (stToks x).take 14) (post := (stToks x).drop 15) rfl (by simp [stToks, headLen, rows_length, -List.length_flatMap]) (by simp [-List.length_flatMap, len_u64])
theorem hole_previous : ((encState x).drop 1104).take 4 = le4 (2101 + (x.history.length * 32 + x.votes.length * 72 + x.validators.length * 121 + x.balances.length * 8)) := by
  rw [encState_toks x h]; exact part_var (pre := (stToks x).take 15) (post := (stToks x).drop 16) rfl (by simp [stToks, headLen, rows_length, -List.length_flatMap, len_u64]) (by simp [stToks, restLen, -List.length_flatMap, len_u64, len_root, len_eth1, len_val, ← Nat.add_assoc])
theorem list_previous : ((encState x).drop (2101 + (x.history.length * 32 + x.votes.length * 72 + x.validators.length * 121 + x.balances.length * 8))).take (x.previous.length * 1) = x.previous.flatMap (fun b : UInt8 => [b]) := by
  rw [encState_toks x h]; exact part_rest (pre := (stToks x).take 15) (post := (stToks x).drop 16) rfl (by rw [layHead_length]; simp [stToks, headLen, restLen, rows_length, -List.length_flatMap, len_u64, len_root, len_eth1, len_val, ← Nat.add_assoc]) (len_byte _)
theorem hole_current : ((encState x).drop 1108).take 4 = le4 (2101 + (x.history.length * 32 + x.votes.length * 72 + x.validators.length * 121 + x.balances.length * 8 + x.previous.length * 1)) := by
  rw [encState_toks x h]; exact part_var (pre := (stToks x).take 16) (post := (stToks x).drop 17) rfl (by simp [stToks, headLen, rows_length, -List.length_flatMap, len_u64]) (by simp [stToks, restLen, -List.length_flatMap, len_u64, len_root, len_eth1, len_val, ← Nat.add_assoc])
theorem list_current : ((encState x).drop (2101 + (x.history.length * 32 + x.votes.length * 72 + x.validators.length * 121 + x.balances.length * 8 + x.previous.length * 1))).take (x.current.length * 1) = x.current.flatMap (fun b : UInt8 => [b]) := by
  rw [encState_toks x h]; exact part_rest (pre := (stToks x).take 16) (post := (stToks x).drop 17) rfl (by rw [layHead_length]; simp [stToks, headLen, restLen, rows_length, -List.length_flatMap, len_u64, len_root, len_eth1, len_val, ← Nat.add_assoc]) (len_byte _)
theorem at_bits : ((encState x).drop 1112).take 1 = bitsV x.bits.toList := by
  rw [encState_toks x h]; exact part_fix (pre := (stToks x).take 17) (post := (stToks x).drop 18) rfl (by simp [stToks, headLen, rows_length, -List.length_flatMap, len_u64]) (by simp)
theorem at_oldJust : ((encState x).drop 1113).take 40 = encCheckpoint x.oldJust := by
  rw [encState_toks x h]; exact part_fix (pre := (stToks x).take 18) (post := (stToks x).drop 19) rfl (by simp [stToks, headLen, rows_length, -List.length_flatMap, len_u64]) (by simp)
theorem at_just : ((encState x).drop 1153).take 40 = encCheckpoint x.just := by
  rw [encState_toks x h]; exact part_fix (pre := (stToks x).take 19) (post := (stToks x).drop 20) rfl (by simp [stToks, headLen, rows_length, -List.length_flatMap, len_u64]) (by simp)
theorem at_final : ((encState x).drop 1193).take 40 = encCheckpoint x.final := by
  rw [encState_toks x h]; exact part_fix (pre := (stToks x).take 20) (post := (stToks x).drop 21) rfl (by simp [stToks, headLen, rows_length, -List.length_flatMap, len_u64]) (by simp)
theorem hole_scores : ((encState x).drop 1233).take 4 = le4 (2101 + (x.history.length * 32 + x.votes.length * 72 + x.validators.length * 121 + x.balances.length * 8 + x.previous.length * 1 + x.current.length * 1)) := by
  rw [encState_toks x h]; exact part_var (pre := (stToks x).take 21) (post := (stToks x).drop 22) rfl (by simp [stToks, headLen, rows_length, -List.length_flatMap, len_u64]) (by simp [stToks, restLen, -List.length_flatMap, len_u64, len_root, len_eth1, len_val, ← Nat.add_assoc])
theorem list_scores : ((encState x).drop (2101 + (x.history.length * 32 + x.votes.length * 72 + x.validators.length * 121 + x.balances.length * 8 + x.previous.length * 1 + x.current.length * 1))).take (x.scores.length * 8) = x.scores.flatMap (fun n : UInt64 => le8 n.toNat) := by
  rw [encState_toks x h]; exact part_rest (pre := (stToks x).take 21) (post := (stToks x).drop 22) rfl (by rw [layHead_length]; simp [stToks, headLen, restLen, rows_length, -List.length_flatMap, len_u64, len_root, len_eth1, len_val, ← Nat.add_assoc]) (len_u64 _)
theorem at_sync : ((encState x).drop 1237).take 432 = encCommittee x.sync := by
  rw [encState_toks x h]; exact part_fix (pre := (stToks x).take 22) (post := (stToks x).drop 23) rfl (by simp [stToks, headLen, rows_length, -List.length_flatMap, len_u64]) (by simp)
theorem at_nextSync : ((encState x).drop 1669).take 432 = encCommittee x.nextSync := by
  rw [encState_toks x h]; exact part_fix (pre := (stToks x).take 23) (post := (stToks x).drop 24) rfl (by simp [stToks, headLen, rows_length, -List.length_flatMap, len_u64]) (by simp)
theorem offsOk : OffsOk (encState x) 2101 [688, 764, 776, 780, 1104, 1108, 1233] (stOffs x) := by
  have hl := encState_length x h
  obtain ⟨f1, f2, f3, f4, f5, f6, f7⟩ := id h
  have hb : 2101 ≤ (encState x).length := by rw [hl, stEnd]; omega
  refine ⟨rfl, fun k hk => ?_, fun k hk => ?_, rfl, fun k hk => ?_, fun k hk => ?_⟩ <;> simp only [List.length_cons, List.length_nil, Nat.reduceAdd] at hk
  · match k, hk with
    | 0, _ => exact Nat.le_trans (by decide) hb
    | 1, _ => exact Nat.le_trans (by decide) hb
    | 2, _ => exact Nat.le_trans (by decide) hb
    | 3, _ => exact Nat.le_trans (by decide) hb
    | 4, _ => exact Nat.le_trans (by decide) hb
    | 5, _ => exact Nat.le_trans (by decide) hb
    | 6, _ => exact Nat.le_trans (by decide) hb
  · match k, hk with
    | 0, _ => exact rd_le4 (hole_history x h) (show 2101 + (0) < 4294967296 from by omega)
    | 1, _ => exact rd_le4 (hole_votes x h) (show 2101 + (x.history.length * 32) < 4294967296 from by omega)
    | 2, _ => exact rd_le4 (hole_validators x h) (show 2101 + (x.history.length * 32 + x.votes.length * 72) < 4294967296 from by omega)
    | 3, _ => exact rd_le4 (hole_balances x h) (show 2101 + (x.history.length * 32 + x.votes.length * 72 + x.validators.length * 121) < 4294967296 from by omega)
    | 4, _ => exact rd_le4 (hole_previous x h) (show 2101 + (x.history.length * 32 + x.votes.length * 72 + x.validators.length * 121 + x.balances.length * 8) < 4294967296 from by omega)
    | 5, _ => exact rd_le4 (hole_current x h) (show 2101 + (x.history.length * 32 + x.votes.length * 72 + x.validators.length * 121 + x.balances.length * 8 + x.previous.length * 1) < 4294967296 from by omega)
    | 6, _ => exact rd_le4 (hole_scores x h) (show 2101 + (x.history.length * 32 + x.votes.length * 72 + x.validators.length * 121 + x.balances.length * 8 + x.previous.length * 1 + x.current.length * 1) < 4294967296 from by omega)
  · match k, hk with
    | 0, _ => show 2101 ≤ 2101 + (0); omega
    | 1, _ => show 2101 + (0) ≤ 2101 + (x.history.length * 32); omega
    | 2, _ => show 2101 + (x.history.length * 32) ≤ 2101 + (x.history.length * 32 + x.votes.length * 72); omega
    | 3, _ => show 2101 + (x.history.length * 32 + x.votes.length * 72) ≤ 2101 + (x.history.length * 32 + x.votes.length * 72 + x.validators.length * 121); omega
    | 4, _ => show 2101 + (x.history.length * 32 + x.votes.length * 72 + x.validators.length * 121) ≤ 2101 + (x.history.length * 32 + x.votes.length * 72 + x.validators.length * 121 + x.balances.length * 8); omega
    | 5, _ => show 2101 + (x.history.length * 32 + x.votes.length * 72 + x.validators.length * 121 + x.balances.length * 8) ≤ 2101 + (x.history.length * 32 + x.votes.length * 72 + x.validators.length * 121 + x.balances.length * 8 + x.previous.length * 1); omega
    | 6, _ => show 2101 + (x.history.length * 32 + x.votes.length * 72 + x.validators.length * 121 + x.balances.length * 8 + x.previous.length * 1) ≤ 2101 + (x.history.length * 32 + x.votes.length * 72 + x.validators.length * 121 + x.balances.length * 8 + x.previous.length * 1 + x.current.length * 1); omega
  · match k, hk with
    | 0, _ => show 2101 + (0) ≤ _; rw [hl, stEnd]; omega
    | 1, _ => show 2101 + (x.history.length * 32) ≤ _; rw [hl, stEnd]; omega
    | 2, _ => show 2101 + (x.history.length * 32 + x.votes.length * 72) ≤ _; rw [hl, stEnd]; omega
    | 3, _ => show 2101 + (x.history.length * 32 + x.votes.length * 72 + x.validators.length * 121) ≤ _; rw [hl, stEnd]; omega
    | 4, _ => show 2101 + (x.history.length * 32 + x.votes.length * 72 + x.validators.length * 121 + x.balances.length * 8) ≤ _; rw [hl, stEnd]; omega
    | 5, _ => show 2101 + (x.history.length * 32 + x.votes.length * 72 + x.validators.length * 121 + x.balances.length * 8 + x.previous.length * 1) ≤ _; rw [hl, stEnd]; omega
    | 6, _ => show 2101 + (x.history.length * 32 + x.votes.length * 72 + x.validators.length * 121 + x.balances.length * 8 + x.previous.length * 1 + x.current.length * 1) ≤ _; rw [hl, stEnd]; omega
end
end Go.PK

/- The readers of small containers, on the bytes of one. Written by a program (genread.py). -/
namespace Go.PK
open Go.Proofs

theorem flagB_eq (f : Bool) : flagB f = [if f then 1 else 0] := by cases f <;> rfl

set_option maxHeartbeats 1000000 in
theorem smallReadFork (w : World) (x : Fork) (b o c : Nat) (hall : Old w [] 1 (.slice (some ⟨b, o, none⟩) 16 c) 16 (bs (encFork x))) :
    Calls Try.prog 49 [.slice (some ⟨b, o, none⟩) 16 c].toArray w (Gives (fun _ : Unit => True) (fun _ => .tuple #[aggS (forkS x), .int .i64 0]) (fun _ => []) [] w) := by
  have hlen := encFork_length x
  have hal : Old w [] 1 (.slice (some ⟨b, o, none⟩) (encFork x).length c) (encFork x).length (bs (encFork x)) := by rw [hlen]; exact hall
  have hp0 : ((encFork x).drop 0).take 4 = x.prev.toList := part_eq (a := []) (c := x.cur.toList ++ le8 x.epoch.toNat) (by simp [encFork]) (by simp) (by simp)
  have hp1 : ((encFork x).drop 4).take 4 = x.cur.toList := part_eq (a := x.prev.toList) (c := le8 x.epoch.toNat) (by simp [encFork]) (by simp) (by simp)
  have hp2 : ((encFork x).drop 8).take 8 = le8 x.epoch.toNat := part_eq (a := x.prev.toList ++ x.cur.toList) (c := []) (by simp [encFork]) (by simp) (by simp)
  refine calls_enter (fn := Try.f49) Try.func49 rfl Try.ntmps49 rfl (mem0 w) ?_
  (repeat (first | (refine WC_seq ?_) | (refine WC_region ?_)))
  (first | (refine WL_alloc rfl rfl (fun b2 => ?_)) | (refine WL_box_agg rfl rfl rfl inferInstance (fun b2 => ?_)) | (refine WL_box rfl rfl rfl rfl (fun b2 => ?_)))
  (repeat (first | (refine WC_seq ?_) | (refine WC_region ?_) | (refine WL_val rfl rfl rfl (by exact val_assign rfl) ?_)))
  (first | (refine WL_alloc rfl rfl (fun b4 => ?_)) | (refine WL_box_agg rfl rfl rfl inferInstance (fun b4 => ?_)) | (refine WL_box rfl rfl rfl rfl (fun b4 => ?_)))
  (repeat (first | (refine WC_seq ?_) | (refine WC_region ?_) | (refine WL_val rfl rfl rfl (by exact val_move rfl) ?_)))
  refine WL_call rfl rfl rfl .nil (fun w' _ _ => inOpen w' b o c 16 16 0 (encFork x) hlen (by decide) (by simp)) (fun i _ => ?_)
  (repeat (first | (refine WC_seq ?_) | (refine WL_val rfl rfl rfl (by exact val_assign rfl) ?_)))
  (refine WC_drawA [] mixed (by kernel_rfl) (by repeat (first | exact Sel.nil | refine Sel.cons (by repeat (first | exact .head | apply Pick.tail | apply Put.tail)) ?_)) ?_)
  (repeat (refine WD_p rfl rfl rfl (by first | exact val_move rfl | exact val_fieldAddr0 rfl | exact val_slice_arr rfl) ?_))
  (refine WD_t ?_)
  refine WL_inBytes hal rfl rfl rfl rfl (by decide) (show 0 + 4 ≤ (encFork x).length from by rw [hlen]; decide) (show (encFork x).length < 1000000000 from by rw [hlen]; decide) ?_
  (refine WL_t ?_)
  skip
  (refine WD_t ?_)
  have hr0 := hal.part (l := 0) (k := 4) (by simp) (by decide)
  rw [bs_drop, bs_take, hp0] at hr0
  refine WL_copy (k := 4) (new := [(4, bv x.prev)]) rfl rfl rfl rfl hr0.rd rfl (by simp [flat, bv, List.take_of_length_le]) (by repeat (first | exact .head | apply Pick.tail | apply Put.tail)) (by repeat (first | exact PutSeg.one | apply PutSeg.skip | apply PutSeg.next | exact PutSeg.inner rfl)) ?_
  (refine WL_t ?_)
  refine WD_nil ?_
  (repeat (refine WC_seq ?_))
  (refine WC_drawA [] mixed (by kernel_rfl) (by repeat (first | exact Sel.nil | refine Sel.cons (by repeat (first | exact .head | apply Pick.tail | apply Put.tail)) ?_)) ?_)
  (repeat (refine WD_p rfl rfl rfl (by first | exact val_move rfl | exact val_fieldAddr0 rfl | exact val_slice_arr rfl) ?_))
  (refine WD_t ?_)
  refine WL_inBytes hal rfl rfl rfl rfl (by decide) (show 4 + 4 ≤ (encFork x).length from by rw [hlen]; decide) (show (encFork x).length < 1000000000 from by rw [hlen]; decide) ?_
  (refine WL_t ?_)
  skip
  (refine WD_t ?_)
  have hr1 := hal.part (l := 4) (k := 4) (by simp) (by decide)
  rw [bs_drop, bs_take, hp1] at hr1
  refine WL_copy (k := 4) (new := [(4, bv x.cur)]) rfl rfl rfl rfl hr1.rd rfl (by simp [flat, bv, List.take_of_length_le]) (by repeat (first | exact .head | apply Pick.tail | apply Put.tail)) (by repeat (first | exact PutSeg.one | apply PutSeg.skip | apply PutSeg.next | exact PutSeg.inner rfl)) ?_
  (refine WL_t ?_)
  refine WD_nil ?_
  (repeat (first | (refine WC_seq ?_) | (refine WC_region ?_) | (refine WL_val rfl rfl rfl (by exact val_move rfl) ?_)))
  refine WL_inU64 (k := x.epoch.toNat) hal rfl rfl rfl (show 8 + 8 ≤ (encFork x).length from by rw [hlen]; decide) (show (encFork x).length < 1000000000 from by rw [hlen]; decide) ((congrArg (rdTo · 8) hp2).trans (rd_u64 _)) ?_
  (repeat (refine WL_val rfl rfl rfl (by exact val_fieldAddr0 rfl) ?_))
  (first | (refine WL_store rfl rfl rfl rfl (by repeat (first | exact .head | apply Pick.tail | apply Put.tail)) (by repeat (first | exact PutSeg.one | apply PutSeg.skip | apply PutSeg.next | exact PutSeg.inner rfl)) ?_) | (refine WL_store_agg rfl rfl rfl (by repeat (first | exact .head | apply Pick.tail | apply Put.tail)) (by repeat (first | exact PutSeg.one | apply PutSeg.skip | apply PutSeg.next | exact PutSeg.inner rfl)) ?_))
  (repeat (first | (refine WC_seq ?_) | (refine WC_region ?_) | (refine WC_skip ?_) | (refine WL_nil ?_) | (refine QX_then ?_) | (refine WC_cond_false rfl ?_) | (refine WL_val rfl rfl rfl (by first | exact val_move rfl | exact val_fieldAddr0 rfl | (apply val_load_blk; exact rfl; (repeat (first | exact .head | apply Pick.tail)); exact rfl) | (apply val_load_blk_agg; exact rfl; (repeat (first | exact .head | apply Pick.tail)); exact rfl) | exact val_nilCheck rfl | exact val_neq rfl rfl) ?_)))
  (first | (refine WL_store rfl rfl rfl rfl (by repeat (first | exact .head | apply Pick.tail | apply Put.tail)) (by repeat (first | exact PutSeg.one | apply PutSeg.skip | apply PutSeg.next | exact PutSeg.inner rfl)) ?_) | (refine WL_store_agg rfl rfl rfl (by repeat (first | exact .head | apply Pick.tail | apply Put.tail)) (by repeat (first | exact PutSeg.one | apply PutSeg.skip | apply PutSeg.next | exact PutSeg.inner rfl)) ?_))
  (repeat (first | (refine WC_ret ?_) | (refine WL_val rfl rfl rfl (by exact val_assign rfl) ?_)))
  refine QX_ret (l := [.cell 2 28, .tmp 3]) rfl (.cell rfl (load_blk_agg (by repeat (first | exact .head | apply Pick.tail | apply Put.tail)) (by exact rfl)) (.tmp rfl .nil)) ?_
  intro w' hw'
  exact gives () hw' trivial rfl (by repeat (first | exact Sel.nil | refine Sel.cons (by repeat (first | exact .head | apply Pick.tail | apply Put.tail)) ?_))

set_option maxHeartbeats 1000000 in
theorem smallReadHeader (w : World) (x : Header) (b o c : Nat) (hall : Old w [] 1 (.slice (some ⟨b, o, none⟩) 112 c) 112 (bs (encHeader x))) :
    Calls Try.prog 51 [.slice (some ⟨b, o, none⟩) 112 c].toArray w (Gives (fun _ : Unit => True) (fun _ => .tuple #[aggS (headerS x), .int .i64 0]) (fun _ => []) [] w) := by
  have hlen := encHeader_length x
  have hal : Old w [] 1 (.slice (some ⟨b, o, none⟩) (encHeader x).length c) (encHeader x).length (bs (encHeader x)) := by rw [hlen]; exact hall
  have hp0 : ((encHeader x).drop 0).take 8 = le8 x.slot.toNat := part_eq (a := []) (c := le8 x.proposer.toNat ++ x.parent.toList ++ x.state.toList ++ x.body.toList) (by simp [encHeader]) (by simp) (by simp)
  have hp1 : ((encHeader x).drop 8).take 8 = le8 x.proposer.toNat := part_eq (a := le8 x.slot.toNat) (c := x.parent.toList ++ x.state.toList ++ x.body.toList) (by simp [encHeader]) (by simp) (by simp)
  have hp2 : ((encHeader x).drop 16).take 32 = x.parent.toList := part_eq (a := le8 x.slot.toNat ++ le8 x.proposer.toNat) (c := x.state.toList ++ x.body.toList) (by simp [encHeader]) (by simp) (by simp)
  have hp3 : ((encHeader x).drop 48).take 32 = x.state.toList := part_eq (a := le8 x.slot.toNat ++ le8 x.proposer.toNat ++ x.parent.toList) (c := x.body.toList) (by simp [encHeader]) (by simp) (by simp)
  have hp4 : ((encHeader x).drop 80).take 32 = x.body.toList := part_eq (a := le8 x.slot.toNat ++ le8 x.proposer.toNat ++ x.parent.toList ++ x.state.toList) (c := []) (by simp [encHeader]) (by simp) (by simp)
  refine calls_enter (fn := Try.f51) Try.func51 rfl Try.ntmps51 rfl (mem0 w) ?_
  (repeat (first | (refine WC_seq ?_) | (refine WC_region ?_)))
  (first | (refine WL_alloc rfl rfl (fun b2 => ?_)) | (refine WL_box_agg rfl rfl rfl inferInstance (fun b2 => ?_)) | (refine WL_box rfl rfl rfl rfl (fun b2 => ?_)))
  (repeat (first | (refine WC_seq ?_) | (refine WC_region ?_) | (refine WL_val rfl rfl rfl (by exact val_assign rfl) ?_)))
  (first | (refine WL_alloc rfl rfl (fun b4 => ?_)) | (refine WL_box_agg rfl rfl rfl inferInstance (fun b4 => ?_)) | (refine WL_box rfl rfl rfl rfl (fun b4 => ?_)))
  (repeat (first | (refine WC_seq ?_) | (refine WC_region ?_) | (refine WL_val rfl rfl rfl (by exact val_move rfl) ?_)))
  refine WL_call rfl rfl rfl .nil (fun w' _ _ => inOpen w' b o c 112 112 0 (encHeader x) hlen (by decide) (by simp)) (fun i _ => ?_)
  (repeat (first | (refine WC_seq ?_) | (refine WC_region ?_) | (refine WL_val rfl rfl rfl (by first | exact val_move rfl | exact val_assign rfl) ?_)))
  refine WL_inU64 (k := x.slot.toNat) hal rfl rfl rfl (show 0 + 8 ≤ (encHeader x).length from by rw [hlen]; decide) (show (encHeader x).length < 1000000000 from by rw [hlen]; decide) ((congrArg (rdTo · 8) hp0).trans (rd_u64 _)) ?_
  (repeat (refine WL_val rfl rfl rfl (by exact val_fieldAddr0 rfl) ?_))
  (first | (refine WL_store rfl rfl rfl rfl (by repeat (first | exact .head | apply Pick.tail | apply Put.tail)) (by repeat (first | exact PutSeg.one | apply PutSeg.skip | apply PutSeg.next | exact PutSeg.inner rfl)) ?_) | (refine WL_store_agg rfl rfl rfl (by repeat (first | exact .head | apply Pick.tail | apply Put.tail)) (by repeat (first | exact PutSeg.one | apply PutSeg.skip | apply PutSeg.next | exact PutSeg.inner rfl)) ?_))
  (repeat (first | (refine WC_seq ?_) | (refine WC_region ?_) | (refine WL_val rfl rfl rfl (by exact val_move rfl) ?_)))
  refine WL_inU64 (k := x.proposer.toNat) hal rfl rfl rfl (show 8 + 8 ≤ (encHeader x).length from by rw [hlen]; decide) (show (encHeader x).length < 1000000000 from by rw [hlen]; decide) ((congrArg (rdTo · 8) hp1).trans (rd_u64 _)) ?_
  (repeat (refine WL_val rfl rfl rfl (by exact val_fieldAddr0 rfl) ?_))
  (first | (refine WL_store rfl rfl rfl rfl (by repeat (first | exact .head | apply Pick.tail | apply Put.tail)) (by repeat (first | exact PutSeg.one | apply PutSeg.skip | apply PutSeg.next | exact PutSeg.inner rfl)) ?_) | (refine WL_store_agg rfl rfl rfl (by repeat (first | exact .head | apply Pick.tail | apply Put.tail)) (by repeat (first | exact PutSeg.one | apply PutSeg.skip | apply PutSeg.next | exact PutSeg.inner rfl)) ?_))
  (repeat (refine WC_seq ?_))
  (refine WC_drawA [] mixed (by kernel_rfl) (by repeat (first | exact Sel.nil | refine Sel.cons (by repeat (first | exact .head | apply Pick.tail | apply Put.tail)) ?_)) ?_)
  (repeat (refine WD_p rfl rfl rfl (by first | exact val_move rfl | exact val_fieldAddr0 rfl | exact val_slice_arr rfl) ?_))
  (refine WD_t ?_)
  refine WL_inBytes hal rfl rfl rfl rfl (by decide) (show 16 + 32 ≤ (encHeader x).length from by rw [hlen]; decide) (show (encHeader x).length < 1000000000 from by rw [hlen]; decide) ?_
  (refine WL_t ?_)
  skip
  (refine WD_t ?_)
  have hr2 := hal.part (l := 16) (k := 32) (by simp) (by decide)
  rw [bs_drop, bs_take, hp2] at hr2
  refine WL_copy (k := 32) (new := [(32, bv x.parent)]) rfl rfl rfl rfl hr2.rd rfl (by simp [flat, bv, List.take_of_length_le]) (by repeat (first | exact .head | apply Pick.tail | apply Put.tail)) (by repeat (first | exact PutSeg.one | apply PutSeg.skip | apply PutSeg.next | exact PutSeg.inner rfl)) ?_
  (refine WL_t ?_)
  refine WD_nil ?_
  (repeat (refine WC_seq ?_))
  (refine WC_drawA [] mixed (by kernel_rfl) (by repeat (first | exact Sel.nil | refine Sel.cons (by repeat (first | exact .head | apply Pick.tail | apply Put.tail)) ?_)) ?_)
  (repeat (refine WD_p rfl rfl rfl (by first | exact val_move rfl | exact val_fieldAddr0 rfl | exact val_slice_arr rfl) ?_))
  (refine WD_t ?_)
  refine WL_inBytes hal rfl rfl rfl rfl (by decide) (show 48 + 32 ≤ (encHeader x).length from by rw [hlen]; decide) (show (encHeader x).length < 1000000000 from by rw [hlen]; decide) ?_
  (refine WL_t ?_)
  skip
  (refine WD_t ?_)
  have hr3 := hal.part (l := 48) (k := 32) (by simp) (by decide)
  rw [bs_drop, bs_take, hp3] at hr3
  refine WL_copy (k := 32) (new := [(32, bv x.state)]) rfl rfl rfl rfl hr3.rd rfl (by simp [flat, bv, List.take_of_length_le]) (by repeat (first | exact .head | apply Pick.tail | apply Put.tail)) (by repeat (first | exact PutSeg.one | apply PutSeg.skip | apply PutSeg.next | exact PutSeg.inner rfl)) ?_
  (refine WL_t ?_)
  refine WD_nil ?_
  (repeat (refine WC_seq ?_))
  (refine WC_drawA [] mixed (by kernel_rfl) (by repeat (first | exact Sel.nil | refine Sel.cons (by repeat (first | exact .head | apply Pick.tail | apply Put.tail)) ?_)) ?_)
  (repeat (refine WD_p rfl rfl rfl (by first | exact val_move rfl | exact val_fieldAddr0 rfl | exact val_slice_arr rfl) ?_))
  (refine WD_t ?_)
  refine WL_inBytes hal rfl rfl rfl rfl (by decide) (show 80 + 32 ≤ (encHeader x).length from by rw [hlen]; decide) (show (encHeader x).length < 1000000000 from by rw [hlen]; decide) ?_
  (refine WL_t ?_)
  skip
  (refine WD_t ?_)
  have hr4 := hal.part (l := 80) (k := 32) (by simp) (by decide)
  rw [bs_drop, bs_take, hp4] at hr4
  refine WL_copy (k := 32) (new := [(32, bv x.body)]) rfl rfl rfl rfl hr4.rd rfl (by simp [flat, bv, List.take_of_length_le]) (by repeat (first | exact .head | apply Pick.tail | apply Put.tail)) (by repeat (first | exact PutSeg.one | apply PutSeg.skip | apply PutSeg.next | exact PutSeg.inner rfl)) ?_
  (refine WL_t ?_)
  refine WD_nil ?_
  (repeat (first | (refine WC_seq ?_) | (refine WC_region ?_) | (refine WC_skip ?_) | (refine WL_nil ?_) | (refine QX_then ?_) | (refine WC_cond_false rfl ?_) | (refine WL_val rfl rfl rfl (by first | exact val_move rfl | exact val_fieldAddr0 rfl | (apply val_load_blk; exact rfl; (repeat (first | exact .head | apply Pick.tail)); exact rfl) | (apply val_load_blk_agg; exact rfl; (repeat (first | exact .head | apply Pick.tail)); exact rfl) | exact val_nilCheck rfl | exact val_neq rfl rfl) ?_)))
  (first | (refine WL_store rfl rfl rfl rfl (by repeat (first | exact .head | apply Pick.tail | apply Put.tail)) (by repeat (first | exact PutSeg.one | apply PutSeg.skip | apply PutSeg.next | exact PutSeg.inner rfl)) ?_) | (refine WL_store_agg rfl rfl rfl (by repeat (first | exact .head | apply Pick.tail | apply Put.tail)) (by repeat (first | exact PutSeg.one | apply PutSeg.skip | apply PutSeg.next | exact PutSeg.inner rfl)) ?_))
  (repeat (first | (refine WC_ret ?_) | (refine WL_val rfl rfl rfl (by exact val_assign rfl) ?_)))
  refine QX_ret (l := [.cell 2 30, .tmp 3]) rfl (.cell rfl (load_blk_agg (by repeat (first | exact .head | apply Pick.tail | apply Put.tail)) (by exact rfl)) (.tmp rfl .nil)) ?_
  intro w' hw'
  exact gives () hw' trivial rfl (by repeat (first | exact Sel.nil | refine Sel.cons (by repeat (first | exact .head | apply Pick.tail | apply Put.tail)) ?_))

set_option maxHeartbeats 1000000 in
theorem smallReadEth1 (w : World) (x : Eth1) (b o c : Nat) (hall : Old w [] 1 (.slice (some ⟨b, o, none⟩) 72 c) 72 (bs (encEth1 x))) :
    Calls Try.prog 54 [.slice (some ⟨b, o, none⟩) 72 c].toArray w (Gives (fun _ : Unit => True) (fun _ => .tuple #[aggS (eth1S x), .int .i64 0]) (fun _ => []) [] w) := by
  have hlen := encEth1_length x
  have hal : Old w [] 1 (.slice (some ⟨b, o, none⟩) (encEth1 x).length c) (encEth1 x).length (bs (encEth1 x)) := by rw [hlen]; exact hall
  have hp0 : ((encEth1 x).drop 0).take 32 = x.deposits.toList := part_eq (a := []) (c := le8 x.count.toNat ++ x.block.toList) (by simp [encEth1]) (by simp) (by simp)
  have hp1 : ((encEth1 x).drop 32).take 8 = le8 x.count.toNat := part_eq (a := x.deposits.toList) (c := x.block.toList) (by simp [encEth1]) (by simp) (by simp)
  have hp2 : ((encEth1 x).drop 40).take 32 = x.block.toList := part_eq (a := x.deposits.toList ++ le8 x.count.toNat) (c := []) (by simp [encEth1]) (by simp) (by simp)
  refine calls_enter (fn := Try.f54) Try.func54 rfl Try.ntmps54 rfl (mem0 w) ?_
  (repeat (first | (refine WC_seq ?_) | (refine WC_region ?_)))
  (first | (refine WL_alloc rfl rfl (fun b2 => ?_)) | (refine WL_box_agg rfl rfl rfl inferInstance (fun b2 => ?_)) | (refine WL_box rfl rfl rfl rfl (fun b2 => ?_)))
  (repeat (first | (refine WC_seq ?_) | (refine WC_region ?_) | (refine WL_val rfl rfl rfl (by exact val_assign rfl) ?_)))
  (first | (refine WL_alloc rfl rfl (fun b4 => ?_)) | (refine WL_box_agg rfl rfl rfl inferInstance (fun b4 => ?_)) | (refine WL_box rfl rfl rfl rfl (fun b4 => ?_)))
  (repeat (first | (refine WC_seq ?_) | (refine WC_region ?_) | (refine WL_val rfl rfl rfl (by exact val_move rfl) ?_)))
  refine WL_call rfl rfl rfl .nil (fun w' _ _ => inOpen w' b o c 72 72 0 (encEth1 x) hlen (by decide) (by simp)) (fun i _ => ?_)
  (repeat (first | (refine WC_seq ?_) | (refine WL_val rfl rfl rfl (by exact val_assign rfl) ?_)))
  (refine WC_drawA [] mixed (by kernel_rfl) (by repeat (first | exact Sel.nil | refine Sel.cons (by repeat (first | exact .head | apply Pick.tail | apply Put.tail)) ?_)) ?_)
  (repeat (refine WD_p rfl rfl rfl (by first | exact val_move rfl | exact val_fieldAddr0 rfl | exact val_slice_arr rfl) ?_))
  (refine WD_t ?_)
  refine WL_inBytes hal rfl rfl rfl rfl (by decide) (show 0 + 32 ≤ (encEth1 x).length from by rw [hlen]; decide) (show (encEth1 x).length < 1000000000 from by rw [hlen]; decide) ?_
  (refine WL_t ?_)
  skip
  (refine WD_t ?_)
  have hr0 := hal.part (l := 0) (k := 32) (by simp) (by decide)
  rw [bs_drop, bs_take, hp0] at hr0
  refine WL_copy (k := 32) (new := [(32, bv x.deposits)]) rfl rfl rfl rfl hr0.rd rfl (by simp [flat, bv, List.take_of_length_le]) (by repeat (first | exact .head | apply Pick.tail | apply Put.tail)) (by repeat (first | exact PutSeg.one | apply PutSeg.skip | apply PutSeg.next | exact PutSeg.inner rfl)) ?_
  (refine WL_t ?_)
  refine WD_nil ?_
  (repeat (first | (refine WC_seq ?_) | (refine WC_region ?_) | (refine WL_val rfl rfl rfl (by exact val_move rfl) ?_)))
  refine WL_inU64 (k := x.count.toNat) hal rfl rfl rfl (show 32 + 8 ≤ (encEth1 x).length from by rw [hlen]; decide) (show (encEth1 x).length < 1000000000 from by rw [hlen]; decide) ((congrArg (rdTo · 8) hp1).trans (rd_u64 _)) ?_
  (repeat (refine WL_val rfl rfl rfl (by exact val_fieldAddr0 rfl) ?_))
  (first | (refine WL_store rfl rfl rfl rfl (by repeat (first | exact .head | apply Pick.tail | apply Put.tail)) (by repeat (first | exact PutSeg.one | apply PutSeg.skip | apply PutSeg.next | exact PutSeg.inner rfl)) ?_) | (refine WL_store_agg rfl rfl rfl (by repeat (first | exact .head | apply Pick.tail | apply Put.tail)) (by repeat (first | exact PutSeg.one | apply PutSeg.skip | apply PutSeg.next | exact PutSeg.inner rfl)) ?_))
  (repeat (refine WC_seq ?_))
  (refine WC_drawA [] mixed (by kernel_rfl) (by repeat (first | exact Sel.nil | refine Sel.cons (by repeat (first | exact .head | apply Pick.tail | apply Put.tail)) ?_)) ?_)
  (repeat (refine WD_p rfl rfl rfl (by first | exact val_move rfl | exact val_fieldAddr0 rfl | exact val_slice_arr rfl) ?_))
  (refine WD_t ?_)
  refine WL_inBytes hal rfl rfl rfl rfl (by decide) (show 40 + 32 ≤ (encEth1 x).length from by rw [hlen]; decide) (show (encEth1 x).length < 1000000000 from by rw [hlen]; decide) ?_
  (refine WL_t ?_)
  skip
  (refine WD_t ?_)
  have hr2 := hal.part (l := 40) (k := 32) (by simp) (by decide)
  rw [bs_drop, bs_take, hp2] at hr2
  refine WL_copy (k := 32) (new := [(32, bv x.block)]) rfl rfl rfl rfl hr2.rd rfl (by simp [flat, bv, List.take_of_length_le]) (by repeat (first | exact .head | apply Pick.tail | apply Put.tail)) (by repeat (first | exact PutSeg.one | apply PutSeg.skip | apply PutSeg.next | exact PutSeg.inner rfl)) ?_
  (refine WL_t ?_)
  refine WD_nil ?_
  (repeat (first | (refine WC_seq ?_) | (refine WC_region ?_) | (refine WC_skip ?_) | (refine WL_nil ?_) | (refine QX_then ?_) | (refine WC_cond_false rfl ?_) | (refine WL_val rfl rfl rfl (by first | exact val_move rfl | exact val_fieldAddr0 rfl | (apply val_load_blk; exact rfl; (repeat (first | exact .head | apply Pick.tail)); exact rfl) | (apply val_load_blk_agg; exact rfl; (repeat (first | exact .head | apply Pick.tail)); exact rfl) | exact val_nilCheck rfl | exact val_neq rfl rfl) ?_)))
  (first | (refine WL_store rfl rfl rfl rfl (by repeat (first | exact .head | apply Pick.tail | apply Put.tail)) (by repeat (first | exact PutSeg.one | apply PutSeg.skip | apply PutSeg.next | exact PutSeg.inner rfl)) ?_) | (refine WL_store_agg rfl rfl rfl (by repeat (first | exact .head | apply Pick.tail | apply Put.tail)) (by repeat (first | exact PutSeg.one | apply PutSeg.skip | apply PutSeg.next | exact PutSeg.inner rfl)) ?_))
  (repeat (first | (refine WC_ret ?_) | (refine WL_val rfl rfl rfl (by exact val_assign rfl) ?_)))
  refine QX_ret (l := [.cell 2 34, .tmp 3]) rfl (.cell rfl (load_blk_agg (by repeat (first | exact .head | apply Pick.tail | apply Put.tail)) (by exact rfl)) (.tmp rfl .nil)) ?_
  intro w' hw'
  exact gives () hw' trivial rfl (by repeat (first | exact Sel.nil | refine Sel.cons (by repeat (first | exact .head | apply Pick.tail | apply Put.tail)) ?_))

set_option maxHeartbeats 1000000 in
theorem smallReadValidator (w : World) (x : Validator) (b o c : Nat) (hall : Old w [] 1 (.slice (some ⟨b, o, none⟩) 121 c) 121 (bs (encValidator x))) :
    Calls Try.prog 55 [.slice (some ⟨b, o, none⟩) 121 c].toArray w (Gives (fun _ : Unit => True) (fun _ => .tuple #[aggS (valS x), .int .i64 0]) (fun _ => []) [] w) := by
  have hlen := encValidator_length x
  have hal : Old w [] 1 (.slice (some ⟨b, o, none⟩) (encValidator x).length c) (encValidator x).length (bs (encValidator x)) := by rw [hlen]; exact hall
  have hp0 : ((encValidator x).drop 0).take 48 = x.key.toList := part_eq (a := []) (c := x.cred.toList ++ le8 x.eff.toNat ++ flagB x.slashed ++ le8 x.elig.toNat ++ le8 x.act.toNat ++ le8 x.exit.toNat ++ le8 x.wd.toNat) (by simp [encValidator]) (by simp) (by simp)
  have hp1 : ((encValidator x).drop 48).take 32 = x.cred.toList := part_eq (a := x.key.toList) (c := le8 x.eff.toNat ++ flagB x.slashed ++ le8 x.elig.toNat ++ le8 x.act.toNat ++ le8 x.exit.toNat ++ le8 x.wd.toNat) (by simp [encValidator]) (by simp) (by simp)
  have hp2 : ((encValidator x).drop 80).take 8 = le8 x.eff.toNat := part_eq (a := x.key.toList ++ x.cred.toList) (c := flagB x.slashed ++ le8 x.elig.toNat ++ le8 x.act.toNat ++ le8 x.exit.toNat ++ le8 x.wd.toNat) (by simp [encValidator]) (by simp) (by simp)
  have hp3 : ((encValidator x).drop 88).take 1 = flagB x.slashed := part_eq (a := x.key.toList ++ x.cred.toList ++ le8 x.eff.toNat) (c := le8 x.elig.toNat ++ le8 x.act.toNat ++ le8 x.exit.toNat ++ le8 x.wd.toNat) (by simp [encValidator]) (by simp) (by simp)
  have hp4 : ((encValidator x).drop 89).take 8 = le8 x.elig.toNat := part_eq (a := x.key.toList ++ x.cred.toList ++ le8 x.eff.toNat ++ flagB x.slashed) (c := le8 x.act.toNat ++ le8 x.exit.toNat ++ le8 x.wd.toNat) (by simp [encValidator]) (by simp) (by simp)
  have hp5 : ((encValidator x).drop 97).take 8 = le8 x.act.toNat := part_eq (a := x.key.toList ++ x.cred.toList ++ le8 x.eff.toNat ++ flagB x.slashed ++ le8 x.elig.toNat) (c := le8 x.exit.toNat ++ le8 x.wd.toNat) (by simp [encValidator]) (by simp) (by simp)
  have hp6 : ((encValidator x).drop 105).take 8 = le8 x.exit.toNat := part_eq (a := x.key.toList ++ x.cred.toList ++ le8 x.eff.toNat ++ flagB x.slashed ++ le8 x.elig.toNat ++ le8 x.act.toNat) (c := le8 x.wd.toNat) (by simp [encValidator]) (by simp) (by simp)
  have hp7 : ((encValidator x).drop 113).take 8 = le8 x.wd.toNat := part_eq (a := x.key.toList ++ x.cred.toList ++ le8 x.eff.toNat ++ flagB x.slashed ++ le8 x.elig.toNat ++ le8 x.act.toNat ++ le8 x.exit.toNat) (c := []) (by simp [encValidator]) (by simp) (by simp)
  refine calls_enter (fn := Try.f55) Try.func55 rfl Try.ntmps55 rfl (mem0 w) ?_
  (repeat (first | (refine WC_seq ?_) | (refine WC_region ?_)))
  (first | (refine WL_alloc rfl rfl (fun b2 => ?_)) | (refine WL_box_agg rfl rfl rfl inferInstance (fun b2 => ?_)) | (refine WL_box rfl rfl rfl rfl (fun b2 => ?_)))
  (repeat (first | (refine WC_seq ?_) | (refine WC_region ?_) | (refine WL_val rfl rfl rfl (by exact val_assign rfl) ?_)))
  (first | (refine WL_alloc rfl rfl (fun b4 => ?_)) | (refine WL_box_agg rfl rfl rfl inferInstance (fun b4 => ?_)) | (refine WL_box rfl rfl rfl rfl (fun b4 => ?_)))
  (repeat (first | (refine WC_seq ?_) | (refine WC_region ?_) | (refine WL_val rfl rfl rfl (by exact val_move rfl) ?_)))
  refine WL_call rfl rfl rfl .nil (fun w' _ _ => inOpen w' b o c 121 121 0 (encValidator x) hlen (by decide) (by simp)) (fun i _ => ?_)
  (repeat (first | (refine WC_seq ?_) | (refine WL_val rfl rfl rfl (by exact val_assign rfl) ?_)))
  (refine WC_drawA [] mixed (by kernel_rfl) (by repeat (first | exact Sel.nil | refine Sel.cons (by repeat (first | exact .head | apply Pick.tail | apply Put.tail)) ?_)) ?_)
  (repeat (refine WD_p rfl rfl rfl (by first | exact val_move rfl | exact val_fieldAddr0 rfl | exact val_slice_arr rfl) ?_))
  (refine WD_t ?_)
  refine WL_inBytes hal rfl rfl rfl rfl (by decide) (show 0 + 48 ≤ (encValidator x).length from by rw [hlen]; decide) (show (encValidator x).length < 1000000000 from by rw [hlen]; decide) ?_
  (refine WL_t ?_)
  skip
  (refine WD_t ?_)
  have hr0 := hal.part (l := 0) (k := 48) (by simp) (by decide)
  rw [bs_drop, bs_take, hp0] at hr0
  refine WL_copy (k := 48) (new := [(48, bv x.key)]) rfl rfl rfl rfl hr0.rd rfl (by simp [flat, bv, List.take_of_length_le]) (by repeat (first | exact .head | apply Pick.tail | apply Put.tail)) (by repeat (first | exact PutSeg.one | apply PutSeg.skip | apply PutSeg.next | exact PutSeg.inner rfl)) ?_
  (refine WL_t ?_)
  refine WD_nil ?_
  (repeat (refine WC_seq ?_))
  (refine WC_drawA [] mixed (by kernel_rfl) (by repeat (first | exact Sel.nil | refine Sel.cons (by repeat (first | exact .head | apply Pick.tail | apply Put.tail)) ?_)) ?_)
  (repeat (refine WD_p rfl rfl rfl (by first | exact val_move rfl | exact val_fieldAddr0 rfl | exact val_slice_arr rfl) ?_))
  (refine WD_t ?_)
  refine WL_inBytes hal rfl rfl rfl rfl (by decide) (show 48 + 32 ≤ (encValidator x).length from by rw [hlen]; decide) (show (encValidator x).length < 1000000000 from by rw [hlen]; decide) ?_
  (refine WL_t ?_)
  skip
  (refine WD_t ?_)
  have hr1 := hal.part (l := 48) (k := 32) (by simp) (by decide)
  rw [bs_drop, bs_take, hp1] at hr1
  refine WL_copy (k := 32) (new := [(32, bv x.cred)]) rfl rfl rfl rfl hr1.rd rfl (by simp [flat, bv, List.take_of_length_le]) (by repeat (first | exact .head | apply Pick.tail | apply Put.tail)) (by repeat (first | exact PutSeg.one | apply PutSeg.skip | apply PutSeg.next | exact PutSeg.inner rfl)) ?_
  (refine WL_t ?_)
  refine WD_nil ?_
  (repeat (first | (refine WC_seq ?_) | (refine WC_region ?_) | (refine WL_val rfl rfl rfl (by exact val_move rfl) ?_)))
  refine WL_inU64 (k := x.eff.toNat) hal rfl rfl rfl (show 80 + 8 ≤ (encValidator x).length from by rw [hlen]; decide) (show (encValidator x).length < 1000000000 from by rw [hlen]; decide) ((congrArg (rdTo · 8) hp2).trans (rd_u64 _)) ?_
  (repeat (refine WL_val rfl rfl rfl (by exact val_fieldAddr0 rfl) ?_))
  (first | (refine WL_store rfl rfl rfl rfl (by repeat (first | exact .head | apply Pick.tail | apply Put.tail)) (by repeat (first | exact PutSeg.one | apply PutSeg.skip | apply PutSeg.next | exact PutSeg.inner rfl)) ?_) | (refine WL_store_agg rfl rfl rfl (by repeat (first | exact .head | apply Pick.tail | apply Put.tail)) (by repeat (first | exact PutSeg.one | apply PutSeg.skip | apply PutSeg.next | exact PutSeg.inner rfl)) ?_))
  (repeat (first | (refine WC_seq ?_) | (refine WC_region ?_) | (refine WL_val rfl rfl rfl (by exact val_move rfl) ?_)))
  refine WL_inFlag (f := x.slashed) hal rfl rfl rfl (show 88 + 1 ≤ (encValidator x).length from by rw [hlen]; decide) (show (encValidator x).length < 1000000000 from by rw [hlen]; decide) (hp3.trans (flagB_eq _)) ?_
  (repeat (refine WL_val rfl rfl rfl (by exact val_fieldAddr0 rfl) ?_))
  (first | (refine WL_store rfl rfl rfl rfl (by repeat (first | exact .head | apply Pick.tail | apply Put.tail)) (by repeat (first | exact PutSeg.one | apply PutSeg.skip | apply PutSeg.next | exact PutSeg.inner rfl)) ?_) | (refine WL_store_agg rfl rfl rfl (by repeat (first | exact .head | apply Pick.tail | apply Put.tail)) (by repeat (first | exact PutSeg.one | apply PutSeg.skip | apply PutSeg.next | exact PutSeg.inner rfl)) ?_))
  (repeat (first | (refine WC_seq ?_) | (refine WC_region ?_) | (refine WL_val rfl rfl rfl (by exact val_move rfl) ?_)))
  refine WL_inU64 (k := x.elig.toNat) hal rfl rfl rfl (show 89 + 8 ≤ (encValidator x).length from by rw [hlen]; decide) (show (encValidator x).length < 1000000000 from by rw [hlen]; decide) ((congrArg (rdTo · 8) hp4).trans (rd_u64 _)) ?_
  (repeat (refine WL_val rfl rfl rfl (by exact val_fieldAddr0 rfl) ?_))
  (first | (refine WL_store rfl rfl rfl rfl (by repeat (first | exact .head | apply Pick.tail | apply Put.tail)) (by repeat (first | exact PutSeg.one | apply PutSeg.skip | apply PutSeg.next | exact PutSeg.inner rfl)) ?_) | (refine WL_store_agg rfl rfl rfl (by repeat (first | exact .head | apply Pick.tail | apply Put.tail)) (by repeat (first | exact PutSeg.one | apply PutSeg.skip | apply PutSeg.next | exact PutSeg.inner rfl)) ?_))
  (repeat (first | (refine WC_seq ?_) | (refine WC_region ?_) | (refine WL_val rfl rfl rfl (by exact val_move rfl) ?_)))
  refine WL_inU64 (k := x.act.toNat) hal rfl rfl rfl (show 97 + 8 ≤ (encValidator x).length from by rw [hlen]; decide) (show (encValidator x).length < 1000000000 from by rw [hlen]; decide) ((congrArg (rdTo · 8) hp5).trans (rd_u64 _)) ?_
  (repeat (refine WL_val rfl rfl rfl (by exact val_fieldAddr0 rfl) ?_))
  (first | (refine WL_store rfl rfl rfl rfl (by repeat (first | exact .head | apply Pick.tail | apply Put.tail)) (by repeat (first | exact PutSeg.one | apply PutSeg.skip | apply PutSeg.next | exact PutSeg.inner rfl)) ?_) | (refine WL_store_agg rfl rfl rfl (by repeat (first | exact .head | apply Pick.tail | apply Put.tail)) (by repeat (first | exact PutSeg.one | apply PutSeg.skip | apply PutSeg.next | exact PutSeg.inner rfl)) ?_))
  (repeat (first | (refine WC_seq ?_) | (refine WC_region ?_) | (refine WL_val rfl rfl rfl (by exact val_move rfl) ?_)))
  refine WL_inU64 (k := x.exit.toNat) hal rfl rfl rfl (show 105 + 8 ≤ (encValidator x).length from by rw [hlen]; decide) (show (encValidator x).length < 1000000000 from by rw [hlen]; decide) ((congrArg (rdTo · 8) hp6).trans (rd_u64 _)) ?_
  (repeat (refine WL_val rfl rfl rfl (by exact val_fieldAddr0 rfl) ?_))
  (first | (refine WL_store rfl rfl rfl rfl (by repeat (first | exact .head | apply Pick.tail | apply Put.tail)) (by repeat (first | exact PutSeg.one | apply PutSeg.skip | apply PutSeg.next | exact PutSeg.inner rfl)) ?_) | (refine WL_store_agg rfl rfl rfl (by repeat (first | exact .head | apply Pick.tail | apply Put.tail)) (by repeat (first | exact PutSeg.one | apply PutSeg.skip | apply PutSeg.next | exact PutSeg.inner rfl)) ?_))
  (repeat (first | (refine WC_seq ?_) | (refine WC_region ?_) | (refine WL_val rfl rfl rfl (by exact val_move rfl) ?_)))
  refine WL_inU64 (k := x.wd.toNat) hal rfl rfl rfl (show 113 + 8 ≤ (encValidator x).length from by rw [hlen]; decide) (show (encValidator x).length < 1000000000 from by rw [hlen]; decide) ((congrArg (rdTo · 8) hp7).trans (rd_u64 _)) ?_
  (repeat (refine WL_val rfl rfl rfl (by exact val_fieldAddr0 rfl) ?_))
  (first | (refine WL_store rfl rfl rfl rfl (by repeat (first | exact .head | apply Pick.tail | apply Put.tail)) (by repeat (first | exact PutSeg.one | apply PutSeg.skip | apply PutSeg.next | exact PutSeg.inner rfl)) ?_) | (refine WL_store_agg rfl rfl rfl (by repeat (first | exact .head | apply Pick.tail | apply Put.tail)) (by repeat (first | exact PutSeg.one | apply PutSeg.skip | apply PutSeg.next | exact PutSeg.inner rfl)) ?_))
  (repeat (first | (refine WC_seq ?_) | (refine WC_region ?_) | (refine WC_skip ?_) | (refine WL_nil ?_) | (refine QX_then ?_) | (refine WC_cond_false rfl ?_) | (refine WL_val rfl rfl rfl (by first | exact val_move rfl | exact val_fieldAddr0 rfl | (apply val_load_blk; exact rfl; (repeat (first | exact .head | apply Pick.tail)); exact rfl) | (apply val_load_blk_agg; exact rfl; (repeat (first | exact .head | apply Pick.tail)); exact rfl) | exact val_nilCheck rfl | exact val_neq rfl rfl) ?_)))
  (first | (refine WL_store rfl rfl rfl rfl (by repeat (first | exact .head | apply Pick.tail | apply Put.tail)) (by repeat (first | exact PutSeg.one | apply PutSeg.skip | apply PutSeg.next | exact PutSeg.inner rfl)) ?_) | (refine WL_store_agg rfl rfl rfl (by repeat (first | exact .head | apply Pick.tail | apply Put.tail)) (by repeat (first | exact PutSeg.one | apply PutSeg.skip | apply PutSeg.next | exact PutSeg.inner rfl)) ?_))
  (repeat (first | (refine WC_ret ?_) | (refine WL_val rfl rfl rfl (by exact val_assign rfl) ?_)))
  refine QX_ret (l := [.cell 2 62, .tmp 3]) rfl (.cell rfl (load_blk_agg (by repeat (first | exact .head | apply Pick.tail | apply Put.tail)) (by exact rfl)) (.tmp rfl .nil)) ?_
  intro w' hw'
  exact gives () hw' trivial rfl (by repeat (first | exact Sel.nil | refine Sel.cons (by repeat (first | exact .head | apply Pick.tail | apply Put.tail)) ?_))

set_option maxHeartbeats 1000000 in
theorem smallReadCheckpoint (w : World) (x : Checkpoint) (b o c : Nat) (hall : Old w [] 1 (.slice (some ⟨b, o, none⟩) 40 c) 40 (bs (encCheckpoint x))) :
    Calls Try.prog 58 [.slice (some ⟨b, o, none⟩) 40 c].toArray w (Gives (fun _ : Unit => True) (fun _ => .tuple #[aggS (ckS x), .int .i64 0]) (fun _ => []) [] w) := by
  have hlen := encCheckpoint_length x
  have hal : Old w [] 1 (.slice (some ⟨b, o, none⟩) (encCheckpoint x).length c) (encCheckpoint x).length (bs (encCheckpoint x)) := by rw [hlen]; exact hall
  have hp0 : ((encCheckpoint x).drop 0).take 8 = le8 x.epoch.toNat := part_eq (a := []) (c := x.root.toList) (by simp [encCheckpoint]) (by simp) (by simp)
  have hp1 : ((encCheckpoint x).drop 8).take 32 = x.root.toList := part_eq (a := le8 x.epoch.toNat) (c := []) (by simp [encCheckpoint]) (by simp) (by simp)
  refine calls_enter (fn := Try.f58) Try.func58 rfl Try.ntmps58 rfl (mem0 w) ?_
  (repeat (first | (refine WC_seq ?_) | (refine WC_region ?_)))
  (first | (refine WL_alloc rfl rfl (fun b2 => ?_)) | (refine WL_box_agg rfl rfl rfl inferInstance (fun b2 => ?_)) | (refine WL_box rfl rfl rfl rfl (fun b2 => ?_)))
  (repeat (first | (refine WC_seq ?_) | (refine WC_region ?_) | (refine WL_val rfl rfl rfl (by exact val_assign rfl) ?_)))
  (first | (refine WL_alloc rfl rfl (fun b4 => ?_)) | (refine WL_box_agg rfl rfl rfl inferInstance (fun b4 => ?_)) | (refine WL_box rfl rfl rfl rfl (fun b4 => ?_)))
  (repeat (first | (refine WC_seq ?_) | (refine WC_region ?_) | (refine WL_val rfl rfl rfl (by exact val_move rfl) ?_)))
  refine WL_call rfl rfl rfl .nil (fun w' _ _ => inOpen w' b o c 40 40 0 (encCheckpoint x) hlen (by decide) (by simp)) (fun i _ => ?_)
  (repeat (first | (refine WC_seq ?_) | (refine WC_region ?_) | (refine WL_val rfl rfl rfl (by first | exact val_move rfl | exact val_assign rfl) ?_)))
  refine WL_inU64 (k := x.epoch.toNat) hal rfl rfl rfl (show 0 + 8 ≤ (encCheckpoint x).length from by rw [hlen]; decide) (show (encCheckpoint x).length < 1000000000 from by rw [hlen]; decide) ((congrArg (rdTo · 8) hp0).trans (rd_u64 _)) ?_
  (repeat (refine WL_val rfl rfl rfl (by exact val_fieldAddr0 rfl) ?_))
  (first | (refine WL_store rfl rfl rfl rfl (by repeat (first | exact .head | apply Pick.tail | apply Put.tail)) (by repeat (first | exact PutSeg.one | apply PutSeg.skip | apply PutSeg.next | exact PutSeg.inner rfl)) ?_) | (refine WL_store_agg rfl rfl rfl (by repeat (first | exact .head | apply Pick.tail | apply Put.tail)) (by repeat (first | exact PutSeg.one | apply PutSeg.skip | apply PutSeg.next | exact PutSeg.inner rfl)) ?_))
  (repeat (refine WC_seq ?_))
  (refine WC_drawA [] mixed (by kernel_rfl) (by repeat (first | exact Sel.nil | refine Sel.cons (by repeat (first | exact .head | apply Pick.tail | apply Put.tail)) ?_)) ?_)
  (repeat (refine WD_p rfl rfl rfl (by first | exact val_move rfl | exact val_fieldAddr0 rfl | exact val_slice_arr rfl) ?_))
  (refine WD_t ?_)
  refine WL_inBytes hal rfl rfl rfl rfl (by decide) (show 8 + 32 ≤ (encCheckpoint x).length from by rw [hlen]; decide) (show (encCheckpoint x).length < 1000000000 from by rw [hlen]; decide) ?_
  (refine WL_t ?_)
  skip
  (refine WD_t ?_)
  have hr1 := hal.part (l := 8) (k := 32) (by simp) (by decide)
  rw [bs_drop, bs_take, hp1] at hr1
  refine WL_copy (k := 32) (new := [(32, bv x.root)]) rfl rfl rfl rfl hr1.rd rfl (by simp [flat, bv, List.take_of_length_le]) (by repeat (first | exact .head | apply Pick.tail | apply Put.tail)) (by repeat (first | exact PutSeg.one | apply PutSeg.skip | apply PutSeg.next | exact PutSeg.inner rfl)) ?_
  (refine WL_t ?_)
  refine WD_nil ?_
  (repeat (first | (refine WC_seq ?_) | (refine WC_region ?_) | (refine WC_skip ?_) | (refine WL_nil ?_) | (refine QX_then ?_) | (refine WC_cond_false rfl ?_) | (refine WL_val rfl rfl rfl (by first | exact val_move rfl | exact val_fieldAddr0 rfl | (apply val_load_blk; exact rfl; (repeat (first | exact .head | apply Pick.tail)); exact rfl) | (apply val_load_blk_agg; exact rfl; (repeat (first | exact .head | apply Pick.tail)); exact rfl) | exact val_nilCheck rfl | exact val_neq rfl rfl) ?_)))
  (first | (refine WL_store rfl rfl rfl rfl (by repeat (first | exact .head | apply Pick.tail | apply Put.tail)) (by repeat (first | exact PutSeg.one | apply PutSeg.skip | apply PutSeg.next | exact PutSeg.inner rfl)) ?_) | (refine WL_store_agg rfl rfl rfl (by repeat (first | exact .head | apply Pick.tail | apply Put.tail)) (by repeat (first | exact PutSeg.one | apply PutSeg.skip | apply PutSeg.next | exact PutSeg.inner rfl)) ?_))
  (repeat (first | (refine WC_ret ?_) | (refine WL_val rfl rfl rfl (by exact val_assign rfl) ?_)))
  refine QX_ret (l := [.cell 2 42, .tmp 3]) rfl (.cell rfl (load_blk_agg (by repeat (first | exact .head | apply Pick.tail | apply Put.tail)) (by exact rfl)) (.tmp rfl .nil)) ?_
  intro w' hw'
  exact gives () hw' trivial rfl (by repeat (first | exact Sel.nil | refine Sel.cons (by repeat (first | exact .head | apply Pick.tail | apply Put.tail)) ?_))

end Go.PK

/- The reader of committees. -/
namespace Go.PK
open Go.Proofs

theorem IS.skip_row (l : List UInt8) (p i n nx : Nat) (of : List Nat) : IS.skip ⟨l, p + i * n, of, nx⟩ n = ⟨l, p + (i + 1) * n, of, nx⟩ := by simp [IS.skip, Nat.add_mul, Nat.add_assoc]

theorem comm_key (x : Committee) (i : Nat) (h : i < 8) : ((encCommittee x).drop (0 + i * 48)).take 48 = x.keys[i].toList := by
  rw [Nat.zero_add, encCommittee, drop_take_append (by simp [rows_length]; omega), rows, drop_take_flatMap _ 48 _ i (by simpa using h) (fun _ _ => by simp)]; simp

set_option maxHeartbeats 1000000 in
theorem smallReadCommittee (w : World) (x : Committee) (b o c : Nat) (hall : Old w [] 1 (.slice (some ⟨b, o, none⟩) 432 c) 432 (bs (encCommittee x))) :
    Calls Try.prog 59 [.slice (some ⟨b, o, none⟩) 432 c].toArray w (Gives (fun _ : Unit => True) (fun _ => .tuple #[aggS (commS x), .int .i64 0]) (fun _ => []) [] w) := by
  have hlen := encCommittee_length x
  have hal : Old w [] 1 (.slice (some ⟨b, o, none⟩) (encCommittee x).length c) (encCommittee x).length (bs (encCommittee x)) := by rw [hlen]; exact hall
  have hp8 : ((encCommittee x).drop 384).take 48 = x.sum.toList := part_eq (a := rows x.keys.toList) (c := []) (by simp [encCommittee]) (by simp [rows_length]) (by simp)
  refine calls_enter (fn := Try.f59) Try.func59 rfl Try.ntmps59 rfl (mem0 w) ?_
  (repeat (first | (refine WC_seq ?_) | (refine WC_region ?_)))
  (first | (refine WL_alloc rfl rfl (fun b2 => ?_)) | (refine WL_box_agg rfl rfl rfl inferInstance (fun b2 => ?_)) | (refine WL_box rfl rfl rfl rfl (fun b2 => ?_)))
  (repeat (first | (refine WC_seq ?_) | (refine WC_region ?_) | (refine WL_val rfl rfl rfl (by exact val_assign rfl) ?_)))
  (first | (refine WL_alloc rfl rfl (fun b4 => ?_)) | (refine WL_box_agg rfl rfl rfl inferInstance (fun b4 => ?_)) | (refine WL_box rfl rfl rfl rfl (fun b4 => ?_)))
  (repeat (first | (refine WC_seq ?_) | (refine WC_region ?_) | (refine WL_val rfl rfl rfl (by exact val_move rfl) ?_)))
  refine WL_call rfl rfl rfl .nil (fun w' _ _ => inOpen w' b o c 432 432 0 (encCommittee x) hlen (by decide) (by simp)) (fun i _ => ?_)
  (repeat (first | (refine WC_seq ?_) | (refine WC_block ?_) | (refine WC_region ?_) | (refine WL_val rfl rfl rfl (by first | exact val_move rfl | exact val_assign rfl) ?_)))
  refine WC_loopS (G := Nat) (fun k => k ≤ 8) (fun k => [(2, .pointer (some ⟨b2, 0, none⟩)), (4, .pointer (some ⟨b4, 0, none⟩)), (5, .pointer (some ⟨i, 0, none⟩)), (9, .int .i64 k)])
    (fun k => inΔ i ⟨b, o, c, none, 0⟩ ⟨encCommittee x, 0 + k * 48, [], 0⟩ ++ [.blk b4 [(384, rowsTo x.keys k), (48, List.replicate 48 (.int .u8 0))] 47, .blk b2 [(384, List.replicate 384 (.int .u8 0)), (48, List.replicate 48 (.int .u8 0))] 47]) (fun k => 8 - k) 0 (Nat.zero_le _) ⟨rfl, rfl, rfl, rfl, trivial⟩ (by repeat (first | exact Sel.nil | refine Sel.cons (by repeat (first | exact .head | apply Pick.tail | apply Put.tail)) ?_)) ?_
  intro k hk
  (repeat (first | (refine WC_seq ?_) | (refine WC_region ?_) | (refine WL_val rfl rfl rfl (by exact val_lss rfl rfl) ?_)))
  refine WC_cond rfl (fun ht => ?_) (fun hf => ?_)
  · have hlt : k < 8 := by have := of_decide_eq_true ht; omega
    (repeat (first | (refine WC_seq ?_) | (refine WC_block ?_) | (refine WC_region ?_) | (refine WC_skip ?_) | (refine WL_nil ?_) | (refine QX_then ?_) | (refine WL_val rfl rfl rfl (by first | exact val_move rfl | exact val_assign rfl) ?_)))
    (refine WC_drawA [] mixed (by kernel_rfl) (by repeat (first | exact Sel.nil | refine Sel.cons (by repeat (first | exact .head | apply Pick.tail | apply Put.tail)) ?_)) ?_)
    (repeat (refine WD_p rfl rfl rfl (by first | exact val_move rfl | exact val_fieldAddr0 rfl) ?_))
    refine WD_p rfl rfl rfl (val_indexAddr_arrC rfl rfl hlt) ?_
    (repeat (refine WD_p rfl rfl rfl (by first | exact val_move rfl | exact val_slice_arr rfl) ?_))
    (refine WD_t ?_)
    refine WL_inBytes hal rfl rfl rfl rfl (by decide) (show 0 + k * 48 + 48 ≤ (encCommittee x).length from by rw [hlen]; omega) (show (encCommittee x).length < 1000000000 from by rw [hlen]; decide) ?_
    (refine WL_t ?_)
    skip
    (refine WD_t ?_)
    have hr := hal.part (l := 0 + k * 48) (k := 48) (by rw [hlen]; omega) (by decide)
    rw [bs_drop, bs_take, comm_key x k hlt] at hr
    refine WL_copy (k := 48) (new := [(48, bv x.keys[k])]) rfl rfl rfl rfl hr.rd rfl (by simp [flat, bv, List.take_of_length_le]) (by repeat (first | exact .head | apply Pick.tail | apply Put.tail)) (by repeat (first | exact PutSeg.inner (Nat.ble_eq_true_of_le (by omega)) | apply PutSeg.skip)) ?_
    rw [Nat.add_zero, rowsTo_succ x.keys k hlt]
    (refine WL_t ?_)
    refine WD_nil ?_
    rw [IS.skip_row]
    (repeat (first | (refine WC_region ?_) | (refine WL_nil ?_) | (refine WL_val rfl rfl rfl (by first | exact val_move rfl | (apply val_addI; exact rfl; exact rfl; omega; omega)) ?_)))
    exact QX_againS (k + 1) (by omega) (by omega) ⟨rfl, rfl, rfl, rfl, trivial⟩ (by repeat (first | exact Sel.nil | refine Sel.cons (by repeat (first | exact .head | apply Pick.tail | apply Put.tail)) ?_))
  · have hk8 : k = 8 := by have := of_decide_eq_false hf; omega
    subst hk8
    rw [rowsTo_all]
    (repeat (first | (refine WC_seq ?_) | (refine WC_exit ?_)))
    (refine WC_drawA [] mixed (by kernel_rfl) (by repeat (first | exact Sel.nil | refine Sel.cons (by repeat (first | exact .head | apply Pick.tail | apply Put.tail)) ?_)) ?_)
    (repeat (refine WD_p rfl rfl rfl (by first | exact val_move rfl | exact val_fieldAddr0 rfl | exact val_slice_arr rfl) ?_))
    (refine WD_t ?_)
    refine WL_inBytes hal rfl rfl rfl rfl (by decide) (show 0 + 8 * 48 + 48 ≤ (encCommittee x).length from by rw [hlen]; decide) (show (encCommittee x).length < 1000000000 from by rw [hlen]; decide) ?_
    (refine WL_t ?_)
    skip
    (refine WD_t ?_)
    have hr := hal.part (l := 384) (k := 48) (by rw [hlen]; decide) (by decide)
    rw [bs_drop, bs_take, hp8] at hr
    refine WL_copy (k := 48) (new := [(48, bv x.sum)]) rfl rfl rfl rfl hr.rd rfl (by simp [flat, bv, List.take_of_length_le]) (by repeat (first | exact .head | apply Pick.tail | apply Put.tail)) (by repeat (first | exact PutSeg.one | apply PutSeg.skip | apply PutSeg.next | exact PutSeg.inner rfl)) ?_
    (refine WL_t ?_)
    refine WD_nil ?_
    (repeat (first | (refine WC_seq ?_) | (refine WC_region ?_) | (refine WC_skip ?_) | (refine WL_nil ?_) | (refine QX_then ?_) | (refine WC_cond_false rfl ?_) | (refine WL_val rfl rfl rfl (by first | exact val_move rfl | exact val_fieldAddr0 rfl | (apply val_load_blk; exact rfl; (repeat (first | exact .head | apply Pick.tail)); exact rfl) | (apply val_load_blk_agg; exact rfl; (repeat (first | exact .head | apply Pick.tail)); exact rfl) | exact val_nilCheck rfl | exact val_neq rfl rfl) ?_)))
    (first | (refine WL_store rfl rfl rfl rfl (by repeat (first | exact .head | apply Pick.tail | apply Put.tail)) (by repeat (first | exact PutSeg.one | apply PutSeg.skip | apply PutSeg.next | exact PutSeg.inner rfl)) ?_) | (refine WL_store_agg rfl rfl rfl (by repeat (first | exact .head | apply Pick.tail | apply Put.tail)) (by repeat (first | exact PutSeg.one | apply PutSeg.skip | apply PutSeg.next | exact PutSeg.inner rfl)) ?_))
    (repeat (first | (refine WC_ret ?_) | (refine WL_val rfl rfl rfl (by exact val_assign rfl) ?_)))
    refine QX_ret (l := [.cell 2 47, .tmp 3]) rfl (.cell rfl (load_blk_agg (by repeat (first | exact .head | apply Pick.tail | apply Put.tail)) (by exact rfl)) (.tmp rfl .nil)) ?_
    intro w' hw'
    exact gives () hw' trivial rfl (by repeat (first | exact Sel.nil | refine Sel.cons (by repeat (first | exact .head | apply Pick.tail | apply Put.tail)) ?_))
end Go.PK

/- Bits out of bytes (package bits): take, ReadVector. -/
namespace Go.PK
open Go.Proofs

/-- bit i of bytes -/
def bitAt (b : List UInt8) (i : Nat) : Bool := decide ((b.getD (i / 8) 0).toNat / 2 ^ (i % 8) % 2 = 1)
/-- the first i bits, then false ones -/
def takeTo (b : List UInt8) (n i : Nat) : List Bool := (List.range i).map (bitAt b) ++ List.replicate (n - i) false
def takeB (b : List UInt8) (n : Nat) : List Bool := (List.range n).map (bitAt b)
theorem takeTo_succ (b : List UInt8) (n i : Nat) (h : i < n) : (bools (takeTo b n i)).set i (.bool (bitAt b i)) = bools (takeTo b n (i + 1)) := by
  rw [takeTo, takeTo, bools, bools, ← List.map_set, List.set_append, if_neg (by simp), List.range_succ, show n - i = (n - (i + 1)) + 1 from by omega, List.replicate_succ]
  simp
@[simp] theorem takeTo_length (b : List UInt8) (n i : Nat) (h : i ≤ n) : (takeTo b n i).length = n := by simp [takeTo]; omega

theorem val_and1B {P : Program} {n : Nat} {e : Env} {Γ : List Chunk} {S : List Nat} {w0 : World} {ty : TypeId} {d : Option Nat} {pos : String} {after : Array Edge} {g : Option (Nat × Bool)} {t t' : TypeId} {x y : Operand} {a : UInt8}
    (hx : ev e x = some (by8 a)) (hy : ev e y = some (.int .u8 1)) : Val P ⟨d, .binOp .and t x y t', ty, pos, after, g⟩ n e Γ S w0 (.int .u8 ((a.toNat % 2 : Nat) : Int)) := by
  have := val_and (P := P) (n := n) (Γ := Γ) (S := S) (w0 := w0) (d := d) (ty := ty) (pos := pos) (after := after) (g := g) (t := t) (t' := t') hx hy
  have h1 := a.toNat_lt
  rwa [show bits .and .u8 (a.toNat : Int) 1 = ((a.toNat % 2 : Nat) : Int) from (bits_mask .u8 8 (by decide) wraps_u8 1 (by decide) a.toNat (by omega) (by omega)).trans (by simp)] at this

section
variable (w : World) (b : List UInt8) (n : Nat) (v : Value)

theorem bitsTake (hv : Old w [] 1 v b.length (bs b)) (hn : n ≤ 8 * b.length) (h0 : 0 < n) (hz : b.length < 100000000) :
    Calls Try.prog 72 [v, .int .i64 n].toArray w (Gives (fun _ : Nat => True) (fun g => .slice (some ⟨g, 0, none⟩) n n) (fun g => [.blk g [(n * 1, bools (takeB b n))] 4]) [] w) := by
  obtain ⟨p, c, rfl⟩ := hv.1.shape
  obtain ⟨vb, vo, hvp, hvr⟩ := SlV.posOld hv.1 hv.2 (by omega) (by decide)
  subst hvp
  refine calls_enter (fn := Try.f72) Try.func72 rfl Try.ntmps72 rfl (mem0 w) ?_
  (repeat (first | (refine WC_seq ?_) | (refine WC_region ?_) | (refine WL_val rfl rfl rfl (by first | exact val_move rfl | exact val_assign rfl) ?_)))
  refine WL_make (m := n) rfl rfl rfl rfl (by omega) (by omega) rfl rfl (by omega) (by omega) (fun b5 => ?_)
  have e0 : (List.replicate n (flat [(1, [Value.bool false])])).flatten = bools (takeTo b n 0) := by
    have : takeTo b n 0 = List.replicate n false := by simp [takeTo]
    rw [this]
    clear hn h0 this
    induction n with
    | zero => rfl
    | succ k ih => rw [List.replicate_succ, List.flatten_cons, ih]; rfl
  rw [e0]
  (repeat (first | (refine WC_seq ?_) | (refine WC_block ?_) | (refine WC_region ?_) | (refine WL_val rfl rfl rfl (by first | exact val_move rfl | exact val_assign rfl | exact val_len rfl) ?_)))
  refine WC_loopS (G := Nat) (fun i => i ≤ n) (fun i => [(0, .slice (some ⟨vb, vo, none⟩) b.length c), (5, .slice (some ⟨b5, 0, none⟩) n n), (10, .int .i64 n), (11, .int .i64 i)])
    (fun i => [.blk b5 [(n * 1, bools (takeTo b n i))] 4]) (fun i => n - i) 0 (Nat.zero_le _) ⟨rfl, rfl, rfl, rfl, trivial⟩ (by repeat (first | exact Sel.nil | refine Sel.cons (by repeat (first | exact .head | apply Pick.tail | apply Put.tail)) ?_)) ?_
  intro i hi
  (repeat (first | (refine WC_seq ?_) | (refine WC_region ?_) | (refine WL_val rfl rfl rfl (by exact val_lss rfl rfl) ?_)))
  refine WC_cond rfl (fun ht => ?_) (fun hf => ?_)
  · have hlt : i < n := by have := of_decide_eq_true ht; omega
    (repeat (first | (refine WC_seq ?_) | (refine WC_block ?_) | (refine WC_region ?_) | (refine WC_skip ?_) | (refine WL_val rfl rfl rfl (by first | exact val_move rfl | exact val_assign rfl) ?_)))
    refine WL_val rfl rfl rfl (val_shrN (s := 3) rfl rfl (by decide)) ?_
    refine WL_val rfl rfl rfl (val_indexAddrN1 rfl rfl (by omega)) ?_
    refine WL_val rfl rfl rfl (val_load_at (v := by8 (b.getD (i / 8) 0)) rfl (hvr _) (by simp [bs, show i / 8 < b.length from by omega])) ?_
    (repeat (refine WL_val rfl rfl rfl (by exact val_move rfl) ?_))
    refine WL_val rfl rfl rfl (val_and7 rfl rfl (by omega)) ?_
    refine WL_val rfl rfl rfl (val_shrB rfl rfl (by omega)) ?_
    refine WL_val rfl rfl rfl (val_and1B rfl rfl) ?_
    (repeat (refine WL_val rfl rfl rfl (by exact val_eql rfl rfl) ?_))
    refine WL_val rfl rfl rfl (val_indexAddr01 rfl rfl hlt) ?_
    refine WL_store_at (v := .bool (bitAt b i)) rfl rfl (by
      have hb := (b.getD (i / 8) 0).toNat_lt
      have h2 : (b.getD (i / 8) 0).toNat / 2 ^ (i % 8) ≤ (b.getD (i / 8) 0).toNat := Nat.div_le_self _ _
      have e : (UInt8.ofNat ((b.getD (i / 8) 0).toNat / 2 ^ (i % 8))).toNat = (b.getD (i / 8) 0).toNat / 2 ^ (i % 8) := by
        rw [UInt8.toNat_ofNat_of_lt' (Nat.lt_of_le_of_lt h2 hb)]
      simp only [ev, lk, e, bitAt]
      congr 2
      exact decide_eq_decide.2 (by omega)) rfl (l := n * 1) (by omega) (by repeat (first | exact .head | apply Pick.tail | apply Put.tail)) ?_
    rw [takeTo_succ b n i hlt]
    (repeat (first | (refine WC_region ?_) | (refine WL_nil ?_) | (refine WL_val rfl rfl rfl (by first | exact val_move rfl | (apply val_addI; exact rfl; exact rfl; omega; omega)) ?_)))
    exact QX_againS (i + 1) (by omega) (by omega) ⟨rfl, rfl, rfl, rfl, trivial⟩ (by repeat (first | exact Sel.nil | refine Sel.cons (by repeat (first | exact .head | apply Pick.tail | apply Put.tail)) ?_))
  · have hi8 : i = n := by have := of_decide_eq_false hf; omega
    subst hi8
    rw [show takeTo b i i = takeB b i from by simp [takeTo, takeB]]
    (repeat (first | (refine WC_seq ?_) | (refine WC_region ?_) | (refine WC_ret ?_) | (refine WC_exit ?_) | (refine WL_val rfl rfl rfl (by first | exact val_move rfl | exact val_assign rfl) ?_)))
    refine QX_ret (l := [.tmp 4]) rfl (.tmp rfl .nil) ?_
    intro w' hw'
    exact gives _ hw' trivial rfl (by repeat (first | exact Sel.nil | refine Sel.cons (by repeat (first | exact .head | apply Pick.tail | apply Put.tail)) ?_))

theorem bitsReadVector (hv : Old w [] 1 v b.length (bs b)) (h0 : 0 < n) (h1 : n ≤ 4096) (hl : b.length = (n + 7) / 8) (hlast : n % 8 ≠ 0 → (b.getD (b.length - 1) 0).toNat / 2 ^ (n % 8) = 0) :
    Calls Try.prog 57 [v, .int .i64 n].toArray w (Gives (fun _ : Nat => True) (fun g => .tuple #[.slice (some ⟨g, 0, none⟩) n n, .int .i64 0]) (fun g => [.blk g [(n * 1, bools (takeB b n))] 4]) [] w) := by
  obtain ⟨p, c, rfl⟩ := hv.1.shape
  obtain ⟨vb, vo, hvp, hvr⟩ := SlV.posOld hv.1 hv.2 (by omega) (by decide)
  subst hvp
  refine calls_enter (fn := Try.f57) Try.func57 rfl Try.ntmps57 rfl (mem0 w) ?_
  (repeat (first | (refine WC_seq ?_) | (refine WC_block ?_) | (refine WC_region ?_) | (refine WL_val rfl rfl rfl (by first | exact val_move rfl | exact val_assign rfl | exact val_lss rfl rfl) ?_)))
  refine WL_bool 9 rfl (fun ht => by have := of_decide_eq_true ht; omega) (fun _ => ?_)
  (repeat (first | (refine WL_nil ?_) | (refine QX_then ?_) | (refine WL_val rfl rfl rfl (by first | exact val_move rfl | exact val_assign rfl | exact val_pick_false rfl rfl | exact val_gtr rfl rfl) ?_)))
  refine WC_cond rfl (fun ht => by have := of_decide_eq_true ht; omega) (fun _ => ?_)
  (repeat (first | (refine WC_seq ?_) | (refine WC_region ?_) | (refine WL_nil ?_) | (refine QX_then ?_) | (refine WL_val rfl rfl rfl (by first | exact val_move rfl | exact val_assign rfl | exact val_len rfl | exact val_neq rfl rfl | (apply val_addI; exact rfl; exact rfl; omega; omega) | (apply val_quoI; exact rfl; exact rfl; decide; omega; omega)) ?_)))
  refine WC_cond rfl (fun ht => by have := of_decide_eq_true ht; omega) (fun _ => ?_)
  (repeat (first | (refine WC_seq ?_) | (refine WC_block ?_) | (refine WC_skip ?_) | (refine WC_ret ?_) | (refine WC_exit ?_) | (refine QX_then ?_) | (refine QX_then_ret ?_) | (refine QX_then_exit ?_) | (refine QX_block ?_) | (refine QX_block_ret ?_) | (refine QX_block_exit ?_) | (refine QX_block_exit_ne rfl ?_)))
  refine WC_cut (G := Unit) (fun _ => True) (fun _ => [(20, .bool false), (0, .slice (some ⟨vb, vo, none⟩) b.length c), (1, .int .i64 n)]) (fun _ => []) ?_ (fun _ _ => ?_)
  · (repeat (first | (refine WC_region ?_) | (refine WL_val rfl rfl rfl (by first | exact val_move rfl | exact val_neq rfl rfl | (apply val_remI; exact rfl; exact rfl; decide; omega)) ?_)))
    refine WL_bool 24 rfl (fun ht => ?_) (fun _ => ?_)
    · have hn8 : n % 8 ≠ 0 := by have := of_decide_eq_true ht; omega
      (repeat (refine WL_val rfl rfl rfl (by first | exact val_move rfl | exact val_len rfl) ?_))
      refine WL_val rfl rfl rfl (val_subN (a := b.length) (b := 1) rfl rfl (by omega) (by omega)) ?_
      refine WL_val rfl rfl rfl (val_indexAddrN1 rfl rfl (by omega)) ?_
      refine WL_val rfl rfl rfl (val_load_at (v := by8 (b.getD (b.length - 1) 0)) rfl (hvr _) (by simp [bs, show b.length - 1 < b.length from by omega])) ?_
      (repeat (refine WL_val rfl rfl rfl (by first | exact val_move rfl | (apply val_remI; exact rfl; exact rfl; decide; omega)) ?_))
      refine WL_val rfl rfl rfl (val_shrB (s := n % 8) rfl rfl (by omega)) ?_
      rw [hlast hn8]
      (repeat (first | (refine WL_nil ?_) | (refine WL_val rfl rfl rfl (by first | exact val_assign rfl | exact val_pick_true rfl rfl | exact val_neq rfl rfl) ?_)))
      exact QX_join () trivial ⟨rfl, rfl, rfl, trivial⟩ (by repeat (first | exact Sel.nil | refine Sel.cons (by repeat (first | exact .head | apply Pick.tail | apply Put.tail)) ?_))
    · (repeat (first | (refine WL_nil ?_) | (refine WL_off rfl rfl rfl ?_) | (refine WL_val rfl rfl rfl (by first | exact val_assign rfl | exact val_pick_false rfl rfl) ?_)))
      exact QX_join () trivial ⟨rfl, rfl, rfl, trivial⟩ (by repeat (first | exact Sel.nil | refine Sel.cons (by repeat (first | exact .head | apply Pick.tail | apply Put.tail)) ?_))
  · (repeat (first | (refine WC_seq ?_) | (refine WC_region ?_) | (refine WC_skip ?_) | (refine WC_cond_false rfl ?_) | (refine WL_val rfl rfl rfl (by exact val_move rfl) ?_)))
    refine WL_call rfl rfl rfl .nil (fun w' hw' _ => bitsTake w' b n _ (hv.pass hw' Take.nil) (by omega) h0 (by omega)) (fun g _ => ?_)
    (repeat (first | (refine WC_ret ?_) | (refine WL_val rfl rfl rfl (by exact val_assign rfl) ?_)))
    refine QX_ret (l := [.tmp 4, .tmp 5]) rfl (.tmp rfl (.tmp rfl .nil)) ?_
    intro w' hw'
    exact gives g hw' trivial rfl (by repeat (first | exact Sel.nil | refine Sel.cons (by repeat (first | exact .head | apply Pick.tail | apply Put.tail)) ?_))
end
end Go.PK

/- slices.Clone, slices.Chunk and ssz.Each. -/
namespace Go.PK
open Go.Proofs

theorem slicesClone (w : World) (b o c m : Nat) (l : List UInt8) (hv : Old w [] 1 (.slice (some ⟨b, o, none⟩) m c) m (bs l)) (hl : l.length = m) (hz : m ≤ 100000000) :
    Calls Try.prog 70 [.slice (some ⟨b, o, none⟩) m c].toArray w (GivesS (fun _ : Option Addr × Nat => True) (fun g => .slice g.1 m g.2) (fun g => [.sl (.slice g.1 m g.2) m (bs l) 5 1]) [] w) := by
  refine calls_enter (fn := Try.f70) Try.func70 rfl Try.ntmps70 rfl (mem0 w) ?_
  (repeat (first | (refine WC_seq ?_) | (refine WC_region ?_) | (refine WL_val rfl rfl rfl (by first | exact val_move rfl | exact val_assign rfl) ?_)))
  refine WL_val rfl rfl rfl (val_eqlNil rfl rfl) ?_
  (repeat (first | (refine WC_seq ?_) | (refine WC_region ?_) | (refine WC_skip ?_) | (refine WL_nil ?_) | (refine QX_then ?_) | (refine WC_cond_false rfl ?_)))
  refine WL_build0 rfl rfl (fun b5 => ?_)
  (repeat (refine WL_val rfl rfl rfl (by exact val_move rfl) ?_))
  refine WL_append rfl rfl rfl rfl rfl rfl (by repeat (first | exact .head | apply Pick.tail | apply Put.tail)) hv.rd (bs_one _) (by omega) (by omega) (fun p2 c2 => ?_)
  rw [Nat.zero_add, List.nil_append]
  (repeat (first | (refine WC_ret ?_) | (refine WL_val rfl rfl rfl (by exact val_assign rfl) ?_)))
  refine QX_retG (l := [.tmp 2]) rfl (.tmp rfl .nil) ?_
  intro w' hw'
  exact givesS (p2, c2) hw' trivial rfl (by repeat (first | exact Sel.nil | refine Sel.cons (by repeat (first | exact .head | apply Pick.tail | apply Put.tail)) ?_))

theorem slicesChunk (w : World) (v : Value) (k : Nat) (hv : v.oneCell' = true) (h0 : 0 < k) :
    Calls Try.prog 69 [v, .int .i64 k].toArray w (Gives (fun _ : Nat × Nat => True) (fun g => .func (.func 74) #[] #[.pointer (some ⟨g.1, 0, none⟩), .pointer (some ⟨g.2, 0, none⟩)])
      (fun g => [.blk g.1 [(1, [v])] 39, .blk g.2 [(1, [.int .i64 k])] 3]) [] w) := by
  refine calls_enter (fn := Try.f69) Try.func69 rfl Try.ntmps69 rfl (mem0 w) ?_
  (repeat (first | (refine WC_seq ?_) | (refine WC_region ?_)))
  refine WL_box rfl rfl rfl hv (fun b2 => ?_)
  (first | (refine WL_alloc rfl rfl (fun b3 => ?_)) | (refine WL_box_agg rfl rfl rfl inferInstance (fun b3 => ?_)) | (refine WL_box rfl rfl rfl rfl (fun b3 => ?_)))
  (repeat (first | (refine WC_seq ?_) | (refine WC_region ?_) | (refine WL_nil ?_) | (refine QX_then ?_) | (refine WL_val rfl rfl rfl (by first | exact val_assign rfl | (apply val_load_blk; exact rfl; (repeat (first | exact .head | apply Pick.tail)); exact rfl) | exact val_lss rfl rfl) ?_)))
  refine WC_cond rfl (fun ht => by have := of_decide_eq_true ht; omega) (fun _ => ?_)
  (repeat (first | (refine WC_seq ?_) | (refine WC_region ?_) | (refine WC_skip ?_)))
  refine WL_val rfl rfl rfl (val_makeFunc rfl) ?_
  (repeat (first | (refine WC_ret ?_) | (refine WL_val rfl rfl rfl (by exact val_assign rfl) ?_)))
  refine QX_ret (l := [.tmp 4]) rfl (.tmp rfl .nil) ?_
  intro w' hw'
  exact gives (b2, b3) hw' trivial rfl (by repeat (first | exact Sel.nil | refine Sel.cons (by repeat (first | exact .head | apply Pick.tail | apply Put.tail)) ?_))

abbrev chunkBase (g1 g2 b o m c k : Nat) : List Chunk := [.blk g1 [(1, [.slice (some ⟨b, o, none⟩) m c])] 39, .blk g2 [(1, [.int .i64 k])] 3]

theorem chunkIter {G : Type} (W1 : World) (S : List Nat) (L g1 g2 b o m c k cnt : Nat) (facts : Nat → G → Prop) (Δ : Nat → G → List Chunk) (γ0 : G) (hγ0 : facts 0 γ0) (hm : m = cnt * k) (h0 : 0 < k) (hc : m ≤ c) (hz : m ≤ 100000000)
    (hm0 : Mem (chunkBase g1 g2 b o m c k ++ Δ 0 γ0) S W1 W1)
    (hy : ∀ i γ w', i < cnt → facts i γ → Mem (chunkBase g1 g2 b o m c k ++ Δ i γ) S W1 w' → Yields' Try.prog L #[.slice (some ⟨b, o + i * k, none⟩) k k] w' fun w'' => ∃ γ', facts (i + 1) γ' ∧ Mem (chunkBase g1 g2 b o m c k ++ Δ (i + 1) γ') S W1 w'') :
    Calls Try.prog 74 [.func (.yield L) #[] #[], .pointer (some ⟨g1, 0, none⟩), .pointer (some ⟨g2, 0, none⟩)].toArray W1
      (GivesS (fun γ : G => facts cnt γ) (fun _ => .tuple #[]) (fun γ => chunkBase g1 g2 b o m c k ++ Δ cnt γ) S W1) := by
  refine calls_enter (fn := Try.f74) Try.func74 rfl Try.ntmps74 rfl hm0 ?_
  (repeat (first | (refine WC_seq ?_) | (refine WC_block ?_) | (refine WC_region ?_) | (refine WL_val rfl rfl rfl (by exact val_assign rfl) ?_)))
  refine WC_loopS (G := Nat × G) (fun i => i.1 ≤ cnt ∧ facts i.1 i.2) (fun i => [(0, .func (.yield L) #[] #[]), (1, .pointer (some ⟨g1, 0, none⟩)), (2, .pointer (some ⟨g2, 0, none⟩)), (4, .int .i64 ((i.1 * k : Nat) : Int))])
    (fun i => chunkBase g1 g2 b o m c k ++ Δ i.1 i.2) (fun i => cnt - i.1) (0, γ0) ⟨Nat.zero_le _, hγ0⟩ ⟨rfl, rfl, rfl, by simp [lk], trivial⟩ (Sel.refl _) ?_
  intro ⟨i, γ⟩ ⟨hi, hγ⟩
  dsimp only at hi hγ ⊢
  (repeat (first | (refine WC_seq ?_) | (refine WC_region ?_) | (refine WL_nil ?_) | (refine QX_then ?_) | (refine WL_val rfl rfl rfl (by first | exact val_move rfl | (apply val_load_blk; exact rfl; (repeat (first | exact .head | apply Pick.tail)); exact rfl) | exact val_len rfl | exact val_lss rfl rfl) ?_)))
  refine WC_cond rfl (fun ht => ?_) (fun hf => ?_)
  · have hlt : i < cnt := by
      have := of_decide_eq_true ht
      refine Nat.lt_of_mul_lt_mul_right (a := k) ?_
      omega
    have hik : (i + 1) * k ≤ cnt * k := Nat.mul_le_mul_right _ hlt
    rw [Nat.add_mul, Nat.one_mul] at hik
    (repeat (first | (refine WC_seq ?_) | (refine WC_block ?_) | (refine WC_skip ?_)))
    (refine WC_draw2 0 0 rfl rfl mixed (by kernel_rfl) ?_)
    (repeat (first | (refine WD_p rfl rfl rfl (by exact val_move rfl) ?_) | (refine WD_q rfl rfl rfl (by apply val_load_blk; exact rfl; (repeat (first | exact .head | apply Pick.tail)); exact rfl) ?_)))
    refine WD_p rfl rfl rfl (val_sliceLoN rfl rfl (by omega)) ?_
    (repeat (refine WD_p rfl rfl rfl (by exact val_len rfl) ?_))
    (refine WD_t ?_)
    refine WL_min rfl rfl rfl rfl (by omega) ?_
    (refine WL_t ?_)
    (repeat (refine WD_p rfl rfl rfl (by exact val_assign rfl) ?_))
    refine WD_nil ?_
    (repeat (first | (refine WC_seq ?_) | (refine WC_block ?_) | (refine WC_skip ?_) | (refine WC_ret ?_) | (refine WC_exit ?_) | (refine QX_then ?_) | (refine QX_then_ret ?_) | (refine QX_then_exit ?_) | (refine QX_block ?_) | (refine QX_block_ret ?_) | (refine QX_block_exit ?_) | (refine QX_block_exit_ne rfl ?_)))
    have e1 : i * k + k = (i + 1) * k := by rw [Nat.add_mul, Nat.one_mul]
    refine WC_yield (L := L) (v := .slice (some ⟨b, o + i * k, none⟩) k k) 10 [(28, .slice (some ⟨b, o + i * k, none⟩) k k), (19, .func (.yield L) #[] #[]), (0, .func (.yield L) #[] #[]), (1, .pointer (some ⟨g1, 0, none⟩)), (2, .pointer (some ⟨g2, 0, none⟩)), (4, .int .i64 ((i * k : Nat) : Int))]
      (chunkBase g1 g2 b o m c k ++ Δ i γ) (fun γ' => facts (i + 1) γ') (fun γ' => chunkBase g1 g2 b o m c k ++ Δ (i + 1) γ')
      (fun γ' : G => facts (i + 1) γ') (fun _ => [(30, .bool false), (0, .func (.yield L) #[] #[]), (1, .pointer (some ⟨g1, 0, none⟩)), (2, .pointer (some ⟨g2, 0, none⟩)), (4, .int .i64 ((i * k : Nat) : Int))]) (fun γ' => chunkBase g1 g2 b o m c k ++ Δ (i + 1) γ')
      rfl rfl rfl rfl rfl rfl (fun w' hw' => hy i γ w' hlt hγ hw') ?_ (fun γ' hγ' => ?_) (fun γ' hγ' => ?_)
    · dsimp only [List.take]
      (repeat (refine WL_val rfl rfl rfl (by first | exact val_move rfl | (apply val_load_blk; exact rfl; (repeat (first | exact .head | apply Pick.tail)); exact rfl) | (apply val_addN; exact rfl; exact rfl; omega)) ?_))
      refine WL_val rfl rfl rfl (val_slice3 rfl rfl rfl rfl rfl h0 (by omega)) ?_
      (repeat (refine WL_nil ?_))
      exact QX_onlySt ⟨rfl, rfl, rfl, rfl, rfl, rfl, trivial⟩ (Sel.refl _)
    · dsimp only [List.drop]
      (repeat (first | (refine WL_nil ?_) | (refine WL_val rfl rfl rfl (by exact val_not rfl) ?_)))
      exact QX_onlyJoin γ' hγ' ⟨rfl, rfl, rfl, rfl, rfl, trivial⟩ (Sel.refl _)
    · (repeat (first | (refine WC_region ?_) | (refine WC_skip ?_) | (refine WL_nil ?_) | (refine QX_then ?_) | (refine WC_cond_false rfl ?_) | (refine WL_val rfl rfl rfl (by first | exact val_move rfl | exact val_assign rfl | (apply val_load_blk; exact rfl; (repeat (first | exact .head | apply Pick.tail)); exact rfl) | (apply val_addN; exact rfl; exact rfl; omega)) ?_)))
      rw [e1]
      exact QX_againS (i + 1, γ') ⟨by simp; omega, hγ'⟩ (by simp; omega) ⟨rfl, rfl, rfl, rfl, trivial⟩ (Sel.refl _)
  · have hi8 : i = cnt := by
      have h1 := of_decide_eq_false hf
      rcases Nat.lt_or_ge i cnt with h | h
      · have : (i + 1) * k ≤ cnt * k := Nat.mul_le_mul_right _ h
        rw [Nat.add_mul, Nat.one_mul] at this
        omega
      · omega
    subst hi8
    (repeat (first | (refine WC_exit ?_) | (refine QX_then_exit ?_) | (refine QX_block_exit ?_)))
    refine QX_endG (l := []) rfl .nil ?_
    intro w' hw'
    exact givesS γ hw' hγ rfl (Sel.refl _)
end Go.PK

/- ssz.Each, where all is well. -/
namespace Go.PK
open Go.Proofs

abbrev PP := Option Addr × Nat
def eachC (k : Nat) (l : List UInt8) (x : PP × Nat) : Chunk := .sl (.slice x.1.1 k x.1.2) k (bs ((l.drop (x.2 * k)).take k)) 5 1
/-- the parts, each in memory of its own -/
def eachΔ (k : Nat) (l : List UInt8) (ps : List PP) : List Chunk := ps.zipIdx.map (eachC k l)
def eachV (k : Nat) (ps : List PP) : List Value := ps.map fun pc => .slice pc.1 k pc.2
theorem eachΔ_snoc (k : Nat) (l : List UInt8) (ps : List PP) (pc : PP) : eachΔ k l (ps ++ [pc]) = eachΔ k l ps ++ [eachC k l (pc, ps.length)] := by simp [eachΔ, List.zipIdx_append]
theorem eachV_snoc (k : Nat) (ps : List PP) (pc : PP) : eachV k (ps ++ [pc]) = eachV k ps ++ [.slice pc.1 k pc.2] := by simp [eachV]
@[simp] theorem eachV_length (k : Nat) (ps : List PP) : (eachV k ps).length = ps.length := by simp [eachV]

abbrev eachD (k : Nat) (l : List UInt8) (b8 : Nat) (γ : Option Addr × Nat × List PP) : List Chunk :=
  [.blk b8 [(1, [.slice γ.1 γ.2.2.length γ.2.1])] 89, .sl (.slice γ.1 γ.2.2.length γ.2.1) γ.2.2.length (eachV k γ.2.2) 39 1] ++ eachΔ k l γ.2.2

set_option maxHeartbeats 2000000 in
theorem sszEach (w : World) (k limit cnt b o c m : Nat) (l : List UInt8) (hv : Old w [] 1 (.slice (some ⟨b, o, none⟩) m c) m (bs l)) (hl : l.length = m) (hm : m = cnt * k) (h0 : 0 < k) (hk : k ≤ 1000) (hlim : cnt ≤ limit) (hlim2 : limit ≤ 1000000) (hz : m ≤ 100000000) :
    Calls Try.prog 53 [.slice (some ⟨b, o, none⟩) m c, .int .i64 k, .int .i64 limit].toArray w
      (Gives (fun γ : Option Addr × Nat × List PP => γ.2.2.length = cnt) (fun γ => .tuple #[.slice γ.1 cnt γ.2.1, .int .i64 0]) (fun γ => .sl (.slice γ.1 cnt γ.2.1) cnt (eachV k γ.2.2) 39 1 :: eachΔ k l γ.2.2) [] w) := by
  have hc : m ≤ c := by cases hv.1 with | mk hc _ _ => exact hc
  have hmod : (m : Int) % (k : Int) = 0 := by rw [hm]; simp
  have hdiv : (m : Int) / (k : Int) = cnt := by rw [hm, Int.natCast_mul]; exact Int.mul_ediv_cancel _ (by omega)
  refine calls_enterM (fn := Try.f53) Try.func53 rfl Try.ntmps53 rfl (mem0 w) ?_
  (repeat (first | (refine WC_seq ?_) | (refine WC_block ?_) | (refine WC_region ?_) | (refine WL_val rfl rfl rfl (by first | exact val_move rfl | exact val_assign rfl | exact val_lss rfl rfl) ?_)))
  refine WL_bool 13 rfl (fun ht => by have := of_decide_eq_true ht; omega) (fun _ => ?_)
  (repeat (first | (refine WC_seq ?_) | (refine WC_region ?_) | (refine WL_nil ?_) | (refine QX_then ?_) | (refine WC_cond_false rfl ?_) | (refine WL_val rfl rfl rfl (by first | exact val_move rfl | exact val_assign rfl | exact val_len rfl | exact val_pick_false rfl rfl | exact val_lss rfl rfl) ?_)))
  refine WL_val rfl rfl rfl (val_remI rfl rfl (by omega) (by omega)) ?_
  rw [hmod]
  (repeat (first | (refine WC_seq ?_) | (refine WC_region ?_) | (refine WL_nil ?_) | (refine QX_then ?_) | (refine WC_cond_false rfl ?_) | (refine WL_val rfl rfl rfl (by first | exact val_move rfl | exact val_assign rfl | exact val_len rfl | exact val_neq rfl rfl) ?_)))
  refine WL_val rfl rfl rfl (val_quoI rfl rfl (by omega) (by omega) (by omega)) ?_
  rw [hdiv]
  (repeat (first | (refine WL_nil ?_) | (refine QX_then ?_) | (refine WL_val rfl rfl rfl (by first | exact val_move rfl | exact val_assign rfl | exact val_gtr rfl rfl) ?_)))
  refine WC_cond rfl (fun ht => by have := of_decide_eq_true ht; omega) (fun _ => ?_)
  (repeat (first | (refine WC_seq ?_) | (refine WC_region ?_) | (refine WC_skip ?_)))
  (first | (refine WL_alloc rfl rfl (fun b8 => ?_)) | (refine WL_box_agg rfl rfl rfl inferInstance (fun b8 => ?_)) | (refine WL_box rfl rfl rfl rfl (fun b8 => ?_)))
  (repeat (first | (refine WC_seq ?_) | (refine WC_region ?_) | (refine WL_val rfl rfl rfl (by exact val_move rfl) ?_)))
  refine WL_call rfl rfl rfl .nil (fun w' _ _ => slicesChunk w' _ k rfl h0) (fun g12 _ => ?_)
  obtain ⟨g1, g2⟩ := g12
  (repeat (refine WC_block ?_))
  refine WC_nil 39 1 ?_
  refine WC_sel (Δ := chunkBase g1 g2 b o m c k ++ eachD k l b8 (none, 0, [])) (by repeat (first | exact Sel.nil | refine Sel.cons (by repeat (first | exact .head | apply Pick.tail | apply Put.tail)) ?_)) ?_
  refine WC_rangeFunc (gf := 74) (lb := #[.pointer (some ⟨g1, 0, none⟩), .pointer (some ⟨g2, 0, none⟩)]) rfl ?_
  intro a W fn W1 st hm1 hsz hws hL hK
  generalize hΓ : chunkBase g1 g2 b o m c k ++ eachD k l b8 (none, 0, []) = Γall at hm1 st
  have hS : W.heap.size + 1 ∉ idsOf Γall := hm1.other hL rfl
  have hpart : Mem Γall (idsOf Γall) W1 W1 := hm1.part (A := []) (by simp)
  have hv1 : Old W1 (idsOf Γall) 1 (.slice (some ⟨b, o, none⟩) m c) m (bs l) := hv.pass hm1 (by have := Take.left (Δ := Γall) (A := []); rwa [List.append_nil] at this)
  have hact : ({ tmps := a.tmps, defers := [] } : Act) = a := by have := st.fits.defers; cases a; simp at this; subst this; rfl
  have hiter := chunkIter (G := Option Addr × Nat × List PP) W1 (idsOf Γall) (W.heap.size + 1) g1 g2 b o m c k cnt (fun i γ => γ.2.2.length = i) (fun _ γ => eachD k l b8 γ) (none, 0, []) rfl hm h0 hc hz (by rw [hΓ]; exact hpart) ?_
  · refine Calls.mono hiter fun en w3 hr => ?_
    cases en with
    | panicked ch => exact hr.elim
    | outgrown => exact hr.elim
    | returned v =>
      obtain ⟨γ, hγ, _, hm3⟩ := hr
      have hL3 := (hm3.same.block (W.heap.size + 1) (by omega) hS).trans hL
      have hK3 := (hm3.same.block W.heap.size (by omega) (hm1.other hK rfl)).trans hK
      refine ⟨⟨v, rfl⟩, hL3, ?_⟩
      have hm4 := fun o => hm3.putBoth o (hm3.other hL3 rfl) (by omega)
      have hmW := fun o => hm1.putObj (r := W.heap.size + 1) o hS (by omega)
      refine wp_seq (wp_region_lit (list_defers _ _ _ ?_))
      refine (?_ : WL _ _ _ _ 40 _ _ _ _) a _ ⟨st.fits, hm4 _⟩
      (repeat (first | (refine WL_nil ?_) | (refine WL_val rfl rfl rfl (by first | exact val_assign rfl | (apply val_load_blk; exact rfl; (repeat (first | exact .head | apply Pick.tail)); exact rfl)) ?_)))
      intro a5 w5 st5
      refine wp_ret ?_
      have hD5 : w5.heap[W.heap.size]? = some (.deferred (some [])) := by
        rw [st5.mem.same.block W.heap.size (by rw [World.putObj_size]; omega) (hm1.other hK rfl), World.putObj_heap_other (by omega)]; exact hK
      have hm6 := ((hmW _).frame (A := []) (Δ := Γall) (by simp) (by rw [List.append_nil]) st5.mem).putObj (r := W.heap.size) (.deferred none) (st5.mem.other hD5 rfl) (by omega)
      refine (?_ : LeavesInM Fence.wide 0 _ _ _ _ ((withD [{ target := .collected W.heap.size, args := #[] }] a5).defers) .returning w5)
      rw [show (withD [{ target := .collected W.heap.size, args := #[] }] a5).defers = [{ target := .collected W.heap.size, args := #[] }] from by simp [withD, st5.fits.defers]]
      refine ⟨by simp, .inl ⟨_, _, rfl, run_takeDeferred hD5, ?_⟩⟩
      refine ⟨_, run_results (vs := [.slice γ.1 γ.2.2.length γ.2.1, .int .i64 0]) ?_, γ, hγ, by rw [hγ]; rfl, hm6.sel (.cons (by rw [← hγ]; exact .tail (.tail (.tail .head))) (Sel.refl _).weak.weak.weak)⟩
      exact (ResV.tmp rfl (.tmp rfl .nil) : ResV _ _ _ _ _ [.tmp 6, .tmp 7] _).run st5.fits hm6
  · intro i γ w' hi hγ hm'
    obtain ⟨p1, c1, ps⟩ := γ
    dsimp only at hγ
    have hik : (i + 1) * k ≤ cnt * k := Nat.mul_le_mul_right _ hi
    rw [Nat.add_mul, Nat.one_mul] at hik
    refine yields_of_round (G := Option Addr × Nat × List PP) (p := 33) (facts := fun γ' => γ'.2.2.length = i + 1) (Δ' := fun γ' => chunkBase g1 g2 b o m c k ++ eachD k l b8 γ') [.blk b8 [(1, [.slice p1 ps.length c1])] 89] [.q, .p, .g, .g, .t, .t]
      [(9, .slice (some ⟨b, o + i * k, none⟩) k k), (8, .pointer (some ⟨b8, 0, none⟩))] mixed (by kernel_rfl) (by rfl) (by rfl) (.cons (.tail (.tail .head)) .nil) hL hS (by rw [hact]; exact st.fits) rfl ?_ (fun W2 hW2 => ?_) w' hm'
    · (repeat (first | (refine WL_nil ?_) | (refine WL_val rfl rfl rfl (by exact val_assign rfl) ?_)))
      exact QX_onlySt ⟨rfl, rfl, trivial⟩ (Sel.refl _)
    · have hv2 := (((hv1.other hL rfl hW2).part (l := i * k) (k := k) (by omega) h0).cap (c' := k) (Nat.le_refl _))
      rw [bs_drop, bs_take] at hv2
      (repeat (first | (refine WD_p rfl rfl rfl (by exact val_move rfl) ?_) | (refine WD_q rfl rfl rfl (by apply val_load_blk; exact rfl; (repeat (first | exact .head | apply Pick.tail)); exact rfl) ?_)))
      (refine WD_g ?_)
      refine WL_callS rfl rfl rfl .nil (fun w'' hw'' _ => slicesClone w'' b (o + i * k) k k _ (hv2.pass hw'' Take.nil) (by simp; omega) (by omega)) (fun pc _ => ?_)
      refine WL_g (.cons (.tail (.tail (.tail .head))) .nil) ?_
      (refine WD_g ?_)
      refine WL_build1 rfl rfl rfl rfl rfl rfl rfl rfl rfl rfl (fun b9 => ?_)
      refine WL_g (.cons (.tail (.tail (.tail (.tail .head)))) .nil) ?_
      (refine WD_t ?_)
      refine WL_append rfl rfl rfl rfl rfl rfl (by repeat (first | exact .head | apply Pick.tail | apply Put.tail)) (SlRd.blk (k := 1) (m := 1) (by repeat (first | exact .head | apply Pick.tail | apply Put.tail)) (by exact rfl) rfl (Nat.le_refl _) rfl) (by simp [Value.oneCell']) (by show (ps.length + 1) * 24 ≤ _; omega) (by show ps.length + 1 ≤ _; omega) (fun p2 c2 => ?_)
      (refine WL_t ?_)
      (refine WD_t ?_)
      (first | (refine WL_store rfl rfl rfl rfl (by repeat (first | exact .head | apply Pick.tail | apply Put.tail)) (by repeat (first | exact PutSeg.one | apply PutSeg.skip | apply PutSeg.next | exact PutSeg.inner rfl)) ?_) | (refine WL_store_agg rfl rfl rfl (by repeat (first | exact .head | apply Pick.tail | apply Put.tail)) (by repeat (first | exact PutSeg.one | apply PutSeg.skip | apply PutSeg.next | exact PutSeg.inner rfl)) ?_))
      (refine WL_t ?_)
      refine WD_nil ?_
      refine QX_onlyMem (p2, c2, ps ++ [pc]) (by simp [hγ]) ?_
      have e1 : eachC k l (pc, ps.length) = .sl (.slice pc.1 k pc.2) k (bs ((l.drop (i * k)).take k)) 5 1 := by rw [hγ]; rfl
      show Sel (chunkBase g1 g2 b o m c k ++ ([.blk b8 [(1, [.slice p2 (ps ++ [pc]).length c2])] 89, .sl (.slice p2 (ps ++ [pc]).length c2) (ps ++ [pc]).length (eachV k (ps ++ [pc])) 39 1] ++ eachΔ k l (ps ++ [pc]))) _
      rw [eachΔ_snoc, eachV_snoc, e1, show (ps ++ [pc]).length = ps.length + 1 from by simp]
      exact .cons (by repeat (first | exact .head | apply Pick.tail | apply Put.tail)) (.cons (by repeat (first | exact .head | apply Pick.tail | apply Put.tail)) (.cons (by repeat (first | exact .head | apply Pick.tail | apply Put.tail)) (.cons (by repeat (first | exact .head | apply Pick.tail | apply Put.tail)) (Sel.snoc _ _).weak)))
end Go.PK

/- The calculus: regions that draw their order, gone through in an order of one's own. -/
namespace Go.PK
attribute [local semireducible] Val Rd

section
variable {P : Program} {ops : Array Oper} {Q : Exit → Act → World → Prop} {C D : World → Prop}

def planFromI (ops : Array Oper) : Array Bool → Bool → List (Nat × Kd) → Bool
  | listed, _, [] => (Region.ready .any ops listed).isEmpty
  | listed, s, (k, .p) :: r => Region.free .any ops listed k && (Region.ready .any ops listed).contains k && planFromI ops (listed.setIfInBounds k true) s r
  | listed, false, (k, .q) :: r => Region.free .any ops listed k && (Region.ready .any ops listed).contains k && planFromI ops (listed.setIfInBounds k true) false r
  | _, true, (_, .q) :: _ => false
  | listed, s, (k, .g) :: r => (Region.ready .any ops listed == [k]) && !s && planFromI ops (listed.setIfInBounds k true) s r
  | listed, _, (k, .t) :: r => (Region.ready .any ops listed == [k]) && planFromI ops (listed.setIfInBounds k true) true r

def tailI (pl : List (Nat × Kd)) (j : Nat) : Bool := pl.any fun x => x.1 == j && x.2 == .t
def headsI (ops : Array Oper) (pl : List (Nat × Kd)) : Bool := pl.all fun x => !(x.2 == .t) || pl.all fun y => !(y.2 == .q) || anc ops ops.size x.1 y.1
def planOkI (ops : Array Oper) (pl : List (Nat × Kd)) : Bool := Region.noSelect ops && (pl.length == ops.size) && headsI ops pl && planFromI ops (Array.replicate ops.size false) false pl

theorem wpAnyT_of_planI [hp : NoPan Q] (hCD : ∀ w, C w → D w) (pl : List (Nat × Kd)) (hs : Region.noSelect ops = true) (hheads : headsI ops pl = true) :
    ∀ (r : List Oper) (kr : List (Nat × Kd)) (listed : Array Bool) (s : Bool) (a : Act) (w : World), (∀ x ∈ kr, x ∈ pl) → r.map some = kr.map (fun x => ops[x.1]?) →
      Closed ops listed → planFromI ops listed s kr = true → (s = false → C w) → D w → WDl P ops Q C D (kr.map (·.2)) r a w → wpAnyT P ops Q C D (tailI pl) r.length listed a w := by
  intro r
  induction r with
  | nil =>
    intro kr listed s a w hin hr _ hpl _ _ h
    cases kr with
    | nil => exact ⟨by simpa [planFromI] using hpl, h⟩
    | cons x kr => simp at hr
  | cons o r ih =>
    intro kr listed s a w hin hr hcl hpl hC hD h
    cases kr with
    | nil => simp at hr
    | cons xx kr =>
      obtain ⟨k, x⟩ := xx
      simp only [List.map_cons, List.cons.injEq] at hr
      obtain ⟨h0, hr'⟩ := hr
      have h0 : ops[k]? = some o := h0.symm
      have hin' : ∀ x ∈ kr, x ∈ pl := fun y hy => hin y (by simp [hy])
      have hk0 : (k, x) ∈ pl := hin _ (by simp)
      cases x with
      | p =>
        have hpl' : (Region.free .any ops listed k = true ∧ k ∈ Region.ready .any ops listed) ∧ planFromI ops (listed.setIfInBounds k true) s kr = true := by
          cases s <;> simpa [planFromI] using hpl
        obtain ⟨⟨hf, hrd'⟩, hpl⟩ := hpl'
        obtain ⟨v, hy, h⟩ := h
        refine wpAnyT_first (E := D) h0 (Region.noSelect_spec hs) (fun c a w h => (hp.h c _ w h).elim) (fun _ _ _ _ _ _ _ _ h => h.2) (fun _ h => h) r.length listed a w hcl (Region.free_spec h0 hf) hrd' hy hD ?_
        exact ih kr _ s _ _ hin' hr' (hcl.set hrd') hpl hC hD h
      | q =>
        cases s with
        | true => simp [planFromI] at hpl
        | false =>
          simp only [planFromI, Bool.and_eq_true] at hpl
          obtain ⟨⟨hf, hrd⟩, hpl⟩ := hpl
          have hrd' : k ∈ Region.ready .any ops listed := by simpa using hrd
          obtain ⟨v, hy, h⟩ := h
          have hhead : ∀ j, tailI pl j = true → anc ops ops.size j k = true := fun j hj => by
            obtain ⟨y, hy1, hy2⟩ := List.any_eq_true.1 hj
            simp only [Bool.and_eq_true, beq_iff_eq] at hy2
            have h1 := List.all_eq_true.1 hheads y hy1
            rw [hy2.2] at h1
            simp only [beq_self_eq_true, Bool.not_true, Bool.false_or] at h1
            have h2 := List.all_eq_true.1 h1 _ hk0
            rw [← hy2.1]
            simpa using h2
          refine wpAnyT_first (E := C) h0 (Region.noSelect_spec hs) (fun c a w h => (hp.h c _ w h).elim) (fun listed j w w' hc hj hi hw h => h.1 (not_tail hhead hc hj hi) hw) hCD r.length listed a w hcl (Region.free_spec h0 hf) hrd' hy (hC rfl) ?_
          exact ih kr _ false _ _ hin' hr' (hcl.set hrd') hpl (fun _ => hC rfl) hD h
      | g =>
        cases s with
        | true => simp [planFromI] at hpl
        | false =>
          simp only [planFromI, Bool.and_eq_true, beq_iff_eq] at hpl
          obtain ⟨⟨hrd, _⟩, hpl⟩ := hpl
          have hrd' : k ∈ Region.ready .any ops listed := by rw [hrd]; simp
          refine ⟨fun h' => (by rw [hrd] at h'; cases h'), fun i hi => ?_⟩
          rw [hrd] at hi
          simp at hi
          subst hi
          exact wpOp_of_O h0 (fun a' w' h' => ⟨⟨fun _ _ => h'.1.1, h'.1.2⟩, ih kr _ false _ _ hin' hr' (hcl.set hrd') hpl (fun _ => h'.1.1) h'.1.2 h'.2⟩) h
      | t =>
        have hpl' : (Region.ready .any ops listed == [k]) = true ∧ planFromI ops (listed.setIfInBounds k true) true kr = true := by
          cases s <;> simpa [planFromI] using hpl
        obtain ⟨hrd, hpl⟩ := hpl'
        simp only [beq_iff_eq] at hrd
        have hrd' : k ∈ Region.ready .any ops listed := by rw [hrd]; simp
        refine ⟨fun h' => (by rw [hrd] at h'; cases h'), fun i hi => ?_⟩
        rw [hrd] at hi
        simp at hi
        subst hi
        have htk : tailI pl i = true := List.any_eq_true.2 ⟨_, hk0, by simp⟩
        refine wpOp_of_O h0 (fun a' w' h' => ⟨⟨fun ht => (by rw [htk] at ht; cases ht), h'.1⟩, ih kr _ true _ _ hin' hr' (hcl.set hrd') hpl (fun h => by cases h) h'.1 h'.2⟩) h

theorem wp_region_planI [NoPan Q] {id : Nat} {l l' : List Oper} {a : Act} {w : World} (hCD : ∀ w, C w → D w) (hm : P.follows .mixedOrders = true) (pl : List (Nat × Kd)) (hpl : planOkI l.toArray pl = true)
    (hl : l'.map some = pl.map (fun x => l[x.1]?)) (hC : C w.drew) (h : WDl P l.toArray Q C D (pl.map (·.2)) l' a w.drew) : (Code.region id l.toArray true).wp P Q a w := by
  simp only [planOkI, Bool.and_eq_true, beq_iff_eq] at hpl
  obtain ⟨⟨⟨h1, h2⟩, h3⟩, h4⟩ := hpl
  refine wp_region_any hm (wpAny_of_T (C := C) (D := D) (tail := tailI pl) _ _ _ _ ?_)
  have hlen : l'.length = l.toArray.size := by
    have := congrArg List.length hl
    simp only [List.length_map] at this
    rw [this, h2]
  have := wpAnyT_of_planI (P := P) (C := C) (D := D) hCD pl h1 h3 l' pl (Array.replicate l.toArray.size false) false a w.drew (fun _ h => h) (by simpa using hl)
    (fun j oj _ hl => by simp [Array.getElem?_replicate] at hl; split at hl <;> simp_all) h4 (fun _ => hC) (hCD _ hC) h
  rw [hlen] at this
  exact this
end

section rules
variable {P : Program} {Q : Exit → Act → World → Prop} {n : Nat} {e : Env} {Γ Γc : List Chunk} {S : List Nat} {w0 : World}

def pickI (l : List Oper) : List Nat → List Oper
  | [] => []
  | i :: r => match l[i]? with
    | some o => o :: pickI l r
    | none => pickI l r

/-- A drawn region, its operations in the order that is named. -/
theorem WC_drawI {id : Nat} {l : List Oper} [NoPan Q] (order : List Nat) (Γc : List Chunk) (hm : P.follows .mixedOrders = true)
    (hpl : planOkI l.toArray (order.zip (kindsFrom false (pickI l order))) = true) (hl : (pickI l order).map some = (order.zip (kindsFrom false (pickI l order))).map (fun x => l[x.1]?))
    (hk : (order.zip (kindsFrom false (pickI l order))).map (·.2) = kindsFrom false (pickI l order)) (hs : Sel Γc Γ)
    (h : WD P l.toArray Q Γc (kindsFrom false (pickI l order)) (pickI l order) n e Γ S w0) : WC P (.region id l.toArray true) Q n e Γ S w0 := fun a w st =>
  wp_region_planI (C := Mem Γc S w0) (D := Mem [] S w0) (fun _ h => h.sel .nil) hm _ hpl hl (st.mem.sel hs).drew (by rw [hk]; exact h a w.drew ⟨st.fits, st.mem.drew⟩)
end rules
end Go.PK

/- What the reader of states needs. -/
namespace Go.PK

section rules
variable {P : Program} {Q : Exit → Act → World → Prop} {n : Nat} {e : Env} {Γ : List Chunk} {S : List Nat} {w0 : World} {ops : Array Oper} {rest : List Oper} {ty : TypeId} {d : Nat} {pos : String} {after : Array Edge} {g : Option (Nat × Bool)}
/-- A call that is handed nothing and leaves nothing. -/
theorem WL_call0 {G : Type} {facts : G → Prop} {V : G → Value} {f : FuncId} {l : List Operand} {ts : Array TypeId} {vs : List Value} [CallOk P f]
    (hw : wantedE ops e g = some true) (hd : Nat.blt d n = true) (hargs : evs e l = some vs)
    (hspec : ∀ w, Mem Γ S w0 w → Calls P f vs.toArray w (Gives facts V (fun _ => []) [] w))
    (h : ∀ x, facts x → WL P ops Q rest n ((d, V x) :: e) Γ S w0) :
    WL P ops Q (⟨some d, .call ⟨.value (.func f), l.toArray, ts⟩, ty, pos, after, g⟩ :: rest) n e Γ S w0 :=
  WL_call (Δ := []) (A := Γ) hw hd hargs .nil (fun w hm _ => hspec w hm) (fun x hx => h x hx)
/-- A call that is handed nothing and leaves one block or slice. -/
theorem WL_call1 {G : Type} {facts : G → Prop} {V : G → Value} {c : G → Chunk} {f : FuncId} {l : List Operand} {ts : Array TypeId} {vs : List Value} [CallOk P f]
    (hw : wantedE ops e g = some true) (hd : Nat.blt d n = true) (hargs : evs e l = some vs)
    (hspec : ∀ w, Mem Γ S w0 w → Calls P f vs.toArray w (Gives facts V (fun x => [c x]) [] w))
    (h : ∀ x, facts x → WL P ops Q rest n ((d, V x) :: e) (c x :: Γ) S w0) :
    WL P ops Q (⟨some d, .call ⟨.value (.func f), l.toArray, ts⟩, ty, pos, after, g⟩ :: rest) n e Γ S w0 :=
  WL_call (Δ := []) (A := Γ) hw hd hargs .nil (fun w hm _ => hspec w hm) (fun x hx => h x hx)
theorem WL_comm {A B : List Chunk} (h : WL P ops Q rest n e (B ++ A) S w0) : WL P ops Q rest n e (A ++ B) S w0 := fun a w st => h a w ⟨st.fits, st.mem.perm List.perm_append_comm⟩
end rules

theorem pick_each {n k : Nat} {l : List UInt8} {ps : List PP} (h : k < ps.length) : Pick (.sl (.slice ps[k].1 n ps[k].2) n (bs ((l.drop (k * n)).take n)) 5 1) (eachΔ n l ps) ((eachΔ n l ps).eraseIdx k) :=
  Pick.erase (by simp [eachΔ, eachC, h])

theorem Pick.left {c : Chunk} {A A' B : List Chunk} (h : Pick c A A') : Pick c (A ++ B) (A' ++ B) := by
  induction h with
  | head => exact .head
  | tail _ ih => exact .tail ih

theorem Rd.slP {Γ Γ' : List Chunk} {S : List Nat} {w0 : World} {b n c m sz : Nat} {p : Option Addr} {xs : List Value} {ty : TypeId} (hp : p = some ⟨b, 0, none⟩) (h : Pick (.sl (.slice p n c) m xs ty sz) Γ Γ') : Rd Γ S w0 b 0 xs := by
  subst hp; exact Rd.sl xs.length h (by simp)

theorem map_take_succ {α β : Type} (f : α → β) (l : List α) (k : Nat) (h : k < l.length) : (l.take k).map f ++ [f l[k]] = (l.take (k + 1)).map f := by
  rw [List.take_succ_eq_append_getElem h, List.map_append]; rfl

theorem row_at {l : List UInt8} {p n : Nat} {v : Vector Root 8} (h : (l.drop p).take n = rows v.toList) (k : Nat) (hk : k < 8) : (l.drop (p + k * 32)).take 32 = v[k].toList := by
  have hn : n = 256 ∨ 256 ≤ n := by
    have := congrArg List.length h
    simp [rows_length] at this
    omega
  rw [drop_take_sub (n := n) (by omega), h, rows, drop_take_flatMap _ 32 _ k (by simpa using hk) (fun _ _ => by simp)]; simp
theorem num_at {l : List UInt8} {p n : Nat} {v : Vector UInt64 8} (h : (l.drop p).take n = v.toList.flatMap (fun n : UInt64 => le8 n.toNat)) (k : Nat) (hk : k < 8) : (l.drop (p + k * 8)).take 8 = le8 v[k].toNat := by
  have hn : 64 ≤ n := by
    have := congrArg List.length h
    rw [len_u64] at this
    simp at this
    omega
  rw [drop_take_sub (n := n) (by omega), h, drop_take_flatMap _ 8 _ k (by simpa using hk) (fun _ _ => by simp)]; simp

/-- the first i numbers written -/
def numsTo {k : Nat} (l : Vector UInt64 k) (i : Nat) : List Value := (l.toList.take i).map u64 ++ List.replicate (k - i) (.int .u64 0)
theorem numsTo_succ {k : Nat} (l : Vector UInt64 k) (i : Nat) (h : i < k) : (numsTo l i).take i ++ [u64 l[i]] ++ (numsTo l i).drop (i + 1) = numsTo l (i + 1) := by
  have hl : ((l.toList.take i).map u64).length = i := by simp; omega
  rw [numsTo, numsTo, List.take_left' hl, List.drop_append, List.drop_eq_nil_of_le (by omega), hl, List.take_succ_eq_append_getElem (by simpa using h)]
  simp only [List.nil_append, List.append_assoc, List.map_append, List.map_cons, List.map_nil, Vector.getElem_toList]
  congr 2
  rw [List.drop_replicate]
  congr 1
  omega
theorem numsTo_all {k : Nat} (l : Vector UInt64 k) : numsTo l k = u64sV l := by simp [numsTo, u64sV, List.take_of_length_le]

theorem bits_take (v : Vector Bool 4) : takeB (bitsV v.toList) 4 = v.toList := by
  obtain ⟨⟨l⟩, h⟩ := v
  simp at h
  match l, h with
  | [a, b, c, d], _ =>
    show takeB (bitsV [a, b, c, d]) 4 = [a, b, c, d]
    cases a <;> cases b <;> cases c <;> cases d <;> decide
theorem bits_last (v : Vector Bool 4) : ((bitsV v.toList).getD ((bitsV v.toList).length - 1) 0).toNat / 2 ^ (4 % 8) = 0 := by
  obtain ⟨⟨l⟩, h⟩ := v
  simp at h
  match l, h with
  | [a, b, c, d], _ =>
    show ((bitsV [a, b, c, d]).getD ((bitsV [a, b, c, d]).length - 1) 0).toNat / 2 ^ (4 % 8) = 0
    cases a <;> cases b <;> cases c <;> cases d <;> decide

abbrev listBhistory (x : StateD) : List UInt8 := x.history.flatMap (fun r : Root => r.toList)
abbrev listBvotes (x : StateD) : List UInt8 := x.votes.flatMap encEth1
abbrev listBvalidators (x : StateD) : List UInt8 := x.validators.flatMap encValidator
abbrev listBbalances (x : StateD) : List UInt8 := x.balances.flatMap (fun n : UInt64 => le8 n.toNat)
abbrev listBprevious (x : StateD) : List UInt8 := x.previous.flatMap (fun b : UInt8 => [b])
abbrev listBcurrent (x : StateD) : List UInt8 := x.current.flatMap (fun b : UInt8 => [b])
abbrev listBscores (x : StateD) : List UInt8 := x.scores.flatMap (fun n : UInt64 => le8 n.toNat)
theorem listBhistory_len (x : StateD) : (listBhistory x).length = x.history.length * 32 := len_root _
theorem listBvotes_len (x : StateD) : (listBvotes x).length = x.votes.length * 72 := len_eth1 _
theorem listBvalidators_len (x : StateD) : (listBvalidators x).length = x.validators.length * 121 := len_val _
theorem listBbalances_len (x : StateD) : (listBbalances x).length = x.balances.length * 8 := len_u64 _
theorem listBprevious_len (x : StateD) : (listBprevious x).length = x.previous.length * 1 := len_byte _
theorem listBcurrent_len (x : StateD) : (listBcurrent x).length = x.current.length * 1 := len_byte _
theorem listBscores_len (x : StateD) : (listBscores x).length = x.scores.length * 8 := len_u64 _
end Go.PK

/- The reader of states, part 1. Written by a program (genrs.py). -/
namespace Go.PK
open Go.Proofs

set_option maxHeartbeats 8000000 in
theorem readState1 (w : World) (i xb : Nat) (g : IA) (x : StateD) (of : List Nat) (S : List Nat) (hf : x.Fits) (hof : of = stOffs x ++ [stEnd x])
    (hm : Mem (inΔ i g ⟨encState x, 0, of, 0⟩ ++ [.blk xb [(1, [.int .u64 0]), (32, List.replicate 32 (.int .u8 0)), (1, [.int .u64 0]), (4, List.replicate 4 (.int .u8 0)), (4, List.replicate 4 (.int .u8 0)), (1, [.int .u64 0]), (1, [.int .u64 0]), (1, [.int .u64 0]), (32, List.replicate 32 (.int .u8 0)), (32, List.replicate 32 (.int .u8 0)), (32, List.replicate 32 (.int .u8 0)), (256, List.replicate 256 (.int .u8 0)), (256, List.replicate 256 (.int .u8 0)), (1, [.slice none 0 0]), (32, List.replicate 32 (.int .u8 0)), (1, [.int .u64 0]), (32, List.replicate 32 (.int .u8 0)), (1, [.slice none 0 0]), (1, [.int .u64 0]), (1, [.slice none 0 0]), (1, [.slice none 0 0]), (256, List.replicate 256 (.int .u8 0)), (8, List.replicate 8 (.int .u64 0)), (1, [.slice none 0 0]), (1, [.slice none 0 0]), (4, List.replicate 4 (.bool false)), (1, [.int .u64 0]), (32, List.replicate 32 (.int .u8 0)), (1, [.int .u64 0]), (32, List.replicate 32 (.int .u8 0)), (1, [.int .u64 0]), (32, List.replicate 32 (.int .u8 0)), (1, [.slice none 0 0]), (384, List.replicate 384 (.int .u8 0)), (48, List.replicate 48 (.int .u8 0)), (384, List.replicate 384 (.int .u8 0)), (48, List.replicate 48 (.int .u8 0))] 49]) S w w) (hall : Old w S 1 (.slice (some ⟨g.ab, g.ao, none⟩) (encState x).length g.ac) (encState x).length (bs (encState x))) :
    Calls Try.prog 24 [.pointer (some ⟨i, 0, none⟩), .pointer (some ⟨xb, 0, none⟩)].toArray w
      (Gives (fun _ : PP × PP => True) (fun _ => .tuple #[]) (fun γ => inΔ i g ⟨encState x, 776, of, 2⟩ ++ [.blk xb [(1, [u64 x.genesis]), (32, bv x.groot), (1, [u64 x.slot]), (4, bv x.fork.prev), (4, bv x.fork.cur), (1, [u64 x.fork.epoch]), (1, [u64 x.header.slot]), (1, [u64 x.header.proposer]), (32, bv x.header.parent), (32, bv x.header.state), (32, bv x.header.body), (256, rootsV x.blockRoots), (256, rootsV x.stateRoots), (1, [.slice γ.1.1 x.history.length γ.1.2]), (32, bv x.eth1.deposits), (1, [u64 x.eth1.count]), (32, bv x.eth1.block), (1, [.slice γ.2.1 x.votes.length γ.2.2]), (1, [u64 x.deposits]), (1, [.slice none 0 0]), (1, [.slice none 0 0]), (256, List.replicate 256 (.int .u8 0)), (8, List.replicate 8 (.int .u64 0)), (1, [.slice none 0 0]), (1, [.slice none 0 0]), (4, List.replicate 4 (.bool false)), (1, [.int .u64 0]), (32, List.replicate 32 (.int .u8 0)), (1, [.int .u64 0]), (32, List.replicate 32 (.int .u8 0)), (1, [.int .u64 0]), (32, List.replicate 32 (.int .u8 0)), (1, [.slice none 0 0]), (384, List.replicate 384 (.int .u8 0)), (48, List.replicate 48 (.int .u8 0)), (384, List.replicate 384 (.int .u8 0)), (48, List.replicate 48 (.int .u8 0))] 49, .sl (.slice γ.1.1 x.history.length γ.1.2) x.history.length (x.history.flatMap bv) 24 32, .sl (.slice γ.2.1 x.votes.length γ.2.2) x.votes.length (x.votes.flatMap eth1C) 34 65]) S w) := by
  have hlen := encState_length x hf
  obtain ⟨f1, f2, f3, f4, f5, f6, f7⟩ := id hf
  have hl0 : 2101 ≤ (encState x).length := by rw [hlen, stEnd]; omega
  have hl1 : (encState x).length < 1000000000 := by rw [hlen, stEnd]; omega
  have hac : (encState x).length ≤ g.ac := inAc w g ⟨encState x, 0, of, 0⟩ S hall
  refine calls_enter (fn := Try.f24) Try.func24 rfl Try.ntmps24 rfl hm ?_
  (repeat (first | (refine WC_seq ?_) | (refine WC_region ?_) | (refine WL_val rfl rfl rfl (by exact val_move rfl) ?_)))
  refine WL_inU64 (s := ⟨encState x, 0, of, 0⟩) (k := x.genesis.toNat) hall rfl rfl rfl (show 0 + 8 ≤ (encState x).length from by omega) hl1 ((congrArg (rdTo · 8) (at_genesis x hf)).trans (rd_u64 _)) ?_
  (repeat (refine WL_val rfl rfl rfl (by first | exact val_fieldAddr0 rfl | exact val_nilCheck rfl) ?_))
  (first | (refine WL_store rfl rfl rfl rfl (Put.right (by repeat (first | exact .head | apply Pick.tail | apply Put.tail))) (by repeat (first | exact PutSeg.one | apply PutSeg.skip | apply PutSeg.next | exact PutSeg.inner rfl)) ?_) | (refine WL_store_agg rfl rfl rfl (Put.right (by repeat (first | exact .head | apply Pick.tail | apply Put.tail))) (by repeat (first | exact PutSeg.one | apply PutSeg.skip | apply PutSeg.next | exact PutSeg.inner rfl)) ?_))
  (repeat (refine WC_seq ?_))
  (refine WC_drawA [] mixed (by kernel_rfl) (by repeat (first | exact Sel.nil | refine Sel.cons (by repeat (first | exact .head | apply Pick.tail | apply Put.tail)) ?_)) ?_)
  (repeat (refine WD_p rfl rfl rfl (by first | exact val_move rfl | exact val_fieldAddr0 rfl | exact val_nilCheck rfl | exact val_slice_arr rfl) ?_))
  (refine WD_t ?_)
  refine WL_inBytes (s := ⟨encState x, 8, of, 0⟩) hall rfl rfl rfl rfl (by decide) (show 8 + 32 ≤ (encState x).length from by omega) hl1 ?_
  (refine WL_t ?_)
  skip
  (refine WD_t ?_)
  have hrgroot := hall.part (l := 8) (k := 32) (by omega) (by decide)
  rw [bs_drop, bs_take, at_groot x hf] at hrgroot
  refine WL_copy (k := 32) (new := [(32, bv x.groot)]) rfl rfl rfl rfl hrgroot.rd rfl (by simp [flat, bv, List.take_of_length_le]) (Put.right (by repeat (first | exact .head | apply Pick.tail | apply Put.tail))) (by repeat (first | exact PutSeg.one | apply PutSeg.skip | apply PutSeg.next | exact PutSeg.inner rfl)) ?_
  (refine WL_t ?_)
  refine WD_nil ?_
  (repeat (first | (refine WC_seq ?_) | (refine WC_region ?_) | (refine WL_val rfl rfl rfl (by exact val_move rfl) ?_)))
  skip
  refine WL_inU64 (s := ⟨encState x, 40, of, 0⟩) (k := x.slot.toNat) hall rfl rfl rfl (show 40 + 8 ≤ (encState x).length from by omega) hl1 ((congrArg (rdTo · 8) (at_slot x hf)).trans (rd_u64 _)) ?_
  (repeat (refine WL_val rfl rfl rfl (by first | exact val_fieldAddr0 rfl | exact val_nilCheck rfl) ?_))
  (first | (refine WL_store rfl rfl rfl rfl (Put.right (by repeat (first | exact .head | apply Pick.tail | apply Put.tail))) (by repeat (first | exact PutSeg.one | apply PutSeg.skip | apply PutSeg.next | exact PutSeg.inner rfl)) ?_) | (refine WL_store_agg rfl rfl rfl (Put.right (by repeat (first | exact .head | apply Pick.tail | apply Put.tail))) (by repeat (first | exact PutSeg.one | apply PutSeg.skip | apply PutSeg.next | exact PutSeg.inner rfl)) ?_))
  (repeat (first | (refine WC_seq ?_) | (refine WC_region ?_) | (refine WL_nil ?_) | (refine QX_then ?_) | (refine WC_cond_true rfl ?_) | (refine WL_val rfl rfl rfl (by first | exact val_move rfl | exact val_fieldAddr0 rfl | (apply val_load_blk; exact rfl; (repeat (first | exact .head | apply Pick.tail)); exact rfl) | exact val_nilCheck rfl | exact val_eql rfl rfl) ?_)))
  skip
  refine WL_inBytes (s := ⟨encState x, 48, of, 0⟩) hall rfl rfl rfl rfl (by decide) (show 48 + 16 ≤ (encState x).length from by omega) hl1 ?_
  skip
  have hrfork := hall.part (l := 48) (k := 16) (by omega) (by decide)
  rw [bs_drop, bs_take, at_fork x hf] at hrfork
  refine WL_call0 rfl rfl rfl (fun w' hw' => smallReadFork w' x.fork _ _ _ (hrfork.pass hw' Take.nil)) (fun _ _ => ?_)
  (repeat (refine WL_val rfl rfl rfl (by first | exact val_move rfl | exact val_extract rfl rfl) ?_))
  (first | (refine WL_alloc rfl rfl (fun b7 => ?_)) | (refine WL_box_agg rfl rfl rfl inferInstance (fun b7 => ?_)) | (refine WL_box rfl rfl rfl rfl (fun b7 => ?_)))
  (first | (refine WL_store rfl rfl rfl rfl (by repeat (first | exact .head | apply Pick.tail | apply Put.tail)) (by repeat (first | exact PutSeg.one | apply PutSeg.skip | apply PutSeg.next | exact PutSeg.inner rfl)) ?_) | (refine WL_store_agg rfl rfl rfl (by repeat (first | exact .head | apply Pick.tail | apply Put.tail)) (by repeat (first | exact PutSeg.one | apply PutSeg.skip | apply PutSeg.next | exact PutSeg.inner rfl)) ?_))
  refine WL_mid ?_
  (repeat (first | (refine WC_seq ?_) | (refine WC_region ?_) | (refine WL_val rfl rfl rfl (by first | exact val_move rfl | exact val_assign rfl | exact val_fieldAddr0 rfl | (apply val_load_blk_agg; exact rfl; (repeat (first | exact .head | apply Pick.tail)); exact rfl) | exact val_nilCheck rfl) ?_)))
  (first | (refine WL_store rfl rfl rfl rfl (Put.right (by repeat (first | exact .head | apply Pick.tail | apply Put.tail))) (by repeat (first | exact PutSeg.one | apply PutSeg.skip | apply PutSeg.next | exact PutSeg.inner rfl)) ?_) | (refine WL_store_agg rfl rfl rfl (Put.right (by repeat (first | exact .head | apply Pick.tail | apply Put.tail))) (by repeat (first | exact PutSeg.one | apply PutSeg.skip | apply PutSeg.next | exact PutSeg.inner rfl)) ?_))
  (repeat (first | (refine WC_region ?_) | (refine WL_val rfl rfl rfl (by exact val_move rfl) ?_)))
  refine WL_inFail (s := ⟨encState x, 64, of, 0⟩) rfl rfl rfl rfl ?_
  (repeat (first | (refine WC_seq ?_) | (refine WC_region ?_) | (refine WL_nil ?_) | (refine QX_then ?_) | (refine WC_cond_true rfl ?_) | (refine WL_val rfl rfl rfl (by first | exact val_move rfl | exact val_fieldAddr0 rfl | (apply val_load_blk; exact rfl; (repeat (first | exact .head | apply Pick.tail)); exact rfl) | exact val_nilCheck rfl | exact val_eql rfl rfl) ?_)))
  skip
  refine WL_inBytes (s := ⟨encState x, 64, of, 0⟩) hall rfl rfl rfl rfl (by decide) (show 64 + 112 ≤ (encState x).length from by omega) hl1 ?_
  skip
  have hrheader := hall.part (l := 64) (k := 112) (by omega) (by decide)
  rw [bs_drop, bs_take, at_header x hf] at hrheader
  refine WL_call0 rfl rfl rfl (fun w' hw' => smallReadHeader w' x.header _ _ _ (hrheader.pass hw' Take.nil)) (fun _ _ => ?_)
  (repeat (refine WL_val rfl rfl rfl (by first | exact val_move rfl | exact val_extract rfl rfl) ?_))
  (first | (refine WL_alloc rfl rfl (fun b7 => ?_)) | (refine WL_box_agg rfl rfl rfl inferInstance (fun b7 => ?_)) | (refine WL_box rfl rfl rfl rfl (fun b7 => ?_)))
  (first | (refine WL_store rfl rfl rfl rfl (by repeat (first | exact .head | apply Pick.tail | apply Put.tail)) (by repeat (first | exact PutSeg.one | apply PutSeg.skip | apply PutSeg.next | exact PutSeg.inner rfl)) ?_) | (refine WL_store_agg rfl rfl rfl (by repeat (first | exact .head | apply Pick.tail | apply Put.tail)) (by repeat (first | exact PutSeg.one | apply PutSeg.skip | apply PutSeg.next | exact PutSeg.inner rfl)) ?_))
  refine WL_mid ?_
  (repeat (first | (refine WC_seq ?_) | (refine WC_region ?_) | (refine WL_val rfl rfl rfl (by first | exact val_move rfl | exact val_assign rfl | exact val_fieldAddr0 rfl | (apply val_load_blk_agg; exact rfl; (repeat (first | exact .head | apply Pick.tail)); exact rfl) | exact val_nilCheck rfl) ?_)))
  (first | (refine WL_store rfl rfl rfl rfl (Put.right (by repeat (first | exact .head | apply Pick.tail | apply Put.tail))) (by repeat (first | exact PutSeg.one | apply PutSeg.skip | apply PutSeg.next | exact PutSeg.inner rfl)) ?_) | (refine WL_store_agg rfl rfl rfl (Put.right (by repeat (first | exact .head | apply Pick.tail | apply Put.tail))) (by repeat (first | exact PutSeg.one | apply PutSeg.skip | apply PutSeg.next | exact PutSeg.inner rfl)) ?_))
  (repeat (first | (refine WC_region ?_) | (refine WL_val rfl rfl rfl (by exact val_move rfl) ?_)))
  refine WL_inFail (s := ⟨encState x, 176, of, 0⟩) rfl rfl rfl rfl ?_
  (repeat (first | (refine WC_seq ?_) | (refine WC_block ?_) | (refine WC_region ?_) | (refine WL_val rfl rfl rfl (by exact val_move rfl) ?_)))
  skip
  refine WC_loopS (G := Nat) (fun k => k ≤ 8) (fun k => [(0, .pointer (some ⟨i, 0, none⟩)), (1, .pointer (some ⟨xb, 0, none⟩)), (77, .int .i64 k)]) (fun k => inΔ i g ⟨encState x, 176 + k * 32, of, 0⟩ ++ [.blk xb [(1, [u64 x.genesis]), (32, bv x.groot), (1, [u64 x.slot]), (4, bv x.fork.prev), (4, bv x.fork.cur), (1, [u64 x.fork.epoch]), (1, [u64 x.header.slot]), (1, [u64 x.header.proposer]), (32, bv x.header.parent), (32, bv x.header.state), (32, bv x.header.body), (256, rowsTo x.blockRoots k), (256, List.replicate 256 (.int .u8 0)), (1, [.slice none 0 0]), (32, List.replicate 32 (.int .u8 0)), (1, [.int .u64 0]), (32, List.replicate 32 (.int .u8 0)), (1, [.slice none 0 0]), (1, [.int .u64 0]), (1, [.slice none 0 0]), (1, [.slice none 0 0]), (256, List.replicate 256 (.int .u8 0)), (8, List.replicate 8 (.int .u64 0)), (1, [.slice none 0 0]), (1, [.slice none 0 0]), (4, List.replicate 4 (.bool false)), (1, [.int .u64 0]), (32, List.replicate 32 (.int .u8 0)), (1, [.int .u64 0]), (32, List.replicate 32 (.int .u8 0)), (1, [.int .u64 0]), (32, List.replicate 32 (.int .u8 0)), (1, [.slice none 0 0]), (384, List.replicate 384 (.int .u8 0)), (48, List.replicate 48 (.int .u8 0)), (384, List.replicate 384 (.int .u8 0)), (48, List.replicate 48 (.int .u8 0))] 49]) (fun k => 8 - k) 0 (Nat.zero_le _) ⟨rfl, rfl, rfl, trivial⟩ (by repeat (first | exact Sel.nil | refine Sel.cons (by repeat (first | exact .head | apply Pick.tail | apply Put.tail)) ?_)) ?_
  intro k hk
  (repeat (first | (refine WC_seq ?_) | (refine WC_region ?_) | (refine WL_val rfl rfl rfl (by exact val_lss rfl rfl) ?_)))
  refine WC_cond rfl (fun ht => ?_) (fun hf => ?_)
  · have hlt : k < 8 := by have := of_decide_eq_true ht; omega
    (repeat (first | (refine WC_seq ?_) | (refine WC_block ?_) | (refine WC_region ?_) | (refine WC_skip ?_) | (refine WL_nil ?_) | (refine QX_then ?_) | (refine WL_val rfl rfl rfl (by first | exact val_move rfl | exact val_assign rfl) ?_)))
    (refine WC_drawA [] mixed (by kernel_rfl) (by repeat (first | exact Sel.nil | refine Sel.cons (by repeat (first | exact .head | apply Pick.tail | apply Put.tail)) ?_)) ?_)
    (repeat (refine WD_p rfl rfl rfl (by first | exact val_move rfl | exact val_fieldAddr0 rfl | exact val_nilCheck rfl) ?_))
    refine WD_p rfl rfl rfl (val_indexAddr_arrC rfl rfl hlt) ?_
    (repeat (refine WD_p rfl rfl rfl (by first | exact val_move rfl | exact val_slice_arr rfl) ?_))
    (refine WD_t ?_)
    refine WL_inBytes (s := ⟨encState x, 176 + k * 32, of, 0⟩) hall rfl rfl rfl rfl (by decide) (show 176 + k * 32 + 32 ≤ (encState x).length from by omega) hl1 ?_
    (refine WL_t ?_)
    skip
    (refine WD_t ?_)
    have hr := hall.part (l := 176 + k * 32) (k := 32) (by omega) (by decide)
    rw [bs_drop, bs_take, row_at (at_blockRoots x ‹x.Fits›) k hlt] at hr
    refine WL_copy (k := 32) (new := [(32, bv x.blockRoots[k])]) rfl rfl rfl rfl hr.rd rfl (by simp [flat, bv, List.take_of_length_le]) (Put.right (by repeat (first | exact .head | apply Pick.tail | apply Put.tail))) (by repeat (first | exact PutSeg.inner (Nat.ble_eq_true_of_le (by omega)) | apply PutSeg.skip)) ?_
    dsimp only
    rw [rowsTo_succ x.blockRoots k hlt]
    (refine WL_t ?_)
    refine WD_nil ?_
    rw [IS.skip_row]
    (repeat (first | (refine WC_region ?_) | (refine WL_nil ?_) | (refine WL_val rfl rfl rfl (by first | exact val_move rfl | (apply val_addI; exact rfl; exact rfl; omega; omega)) ?_)))
    exact QX_againS (k + 1) (by omega) (by omega) ⟨rfl, rfl, rfl, trivial⟩ (by repeat (first | exact Sel.nil | refine Sel.cons (by repeat (first | exact .head | apply Pick.tail | apply Put.tail)) ?_))
  have hk8 : k = 8 := by have := of_decide_eq_false hf; omega
  subst hk8
  clear hf hk
  rw [rowsTo_all]
  (repeat (first | (refine WC_seq ?_) | (refine WC_block ?_) | (refine WC_region ?_) | (refine WC_exit ?_) | (refine WL_val rfl rfl rfl (by exact val_move rfl) ?_)))
  refine WC_loopS (G := Nat) (fun k => k ≤ 8) (fun k => [(0, .pointer (some ⟨i, 0, none⟩)), (1, .pointer (some ⟨xb, 0, none⟩)), (90, .int .i64 k)]) (fun k => inΔ i g ⟨encState x, 432 + k * 32, of, 0⟩ ++ [.blk xb [(1, [u64 x.genesis]), (32, bv x.groot), (1, [u64 x.slot]), (4, bv x.fork.prev), (4, bv x.fork.cur), (1, [u64 x.fork.epoch]), (1, [u64 x.header.slot]), (1, [u64 x.header.proposer]), (32, bv x.header.parent), (32, bv x.header.state), (32, bv x.header.body), (256, rootsV x.blockRoots), (256, rowsTo x.stateRoots k), (1, [.slice none 0 0]), (32, List.replicate 32 (.int .u8 0)), (1, [.int .u64 0]), (32, List.replicate 32 (.int .u8 0)), (1, [.slice none 0 0]), (1, [.int .u64 0]), (1, [.slice none 0 0]), (1, [.slice none 0 0]), (256, List.replicate 256 (.int .u8 0)), (8, List.replicate 8 (.int .u64 0)), (1, [.slice none 0 0]), (1, [.slice none 0 0]), (4, List.replicate 4 (.bool false)), (1, [.int .u64 0]), (32, List.replicate 32 (.int .u8 0)), (1, [.int .u64 0]), (32, List.replicate 32 (.int .u8 0)), (1, [.int .u64 0]), (32, List.replicate 32 (.int .u8 0)), (1, [.slice none 0 0]), (384, List.replicate 384 (.int .u8 0)), (48, List.replicate 48 (.int .u8 0)), (384, List.replicate 384 (.int .u8 0)), (48, List.replicate 48 (.int .u8 0))] 49]) (fun k => 8 - k) 0 (Nat.zero_le _) ⟨rfl, rfl, rfl, trivial⟩ (by repeat (first | exact Sel.nil | refine Sel.cons (by repeat (first | exact .head | apply Pick.tail | apply Put.tail)) ?_)) ?_
  intro k hk
  (repeat (first | (refine WC_seq ?_) | (refine WC_region ?_) | (refine WL_val rfl rfl rfl (by exact val_lss rfl rfl) ?_)))
  refine WC_cond rfl (fun ht => ?_) (fun hf => ?_)
  · have hlt : k < 8 := by have := of_decide_eq_true ht; omega
    (repeat (first | (refine WC_seq ?_) | (refine WC_block ?_) | (refine WC_region ?_) | (refine WC_skip ?_) | (refine WL_nil ?_) | (refine QX_then ?_) | (refine WL_val rfl rfl rfl (by first | exact val_move rfl | exact val_assign rfl) ?_)))
    (refine WC_drawA [] mixed (by kernel_rfl) (by repeat (first | exact Sel.nil | refine Sel.cons (by repeat (first | exact .head | apply Pick.tail | apply Put.tail)) ?_)) ?_)
    (repeat (refine WD_p rfl rfl rfl (by first | exact val_move rfl | exact val_fieldAddr0 rfl | exact val_nilCheck rfl) ?_))
    refine WD_p rfl rfl rfl (val_indexAddr_arrC rfl rfl hlt) ?_
    (repeat (refine WD_p rfl rfl rfl (by first | exact val_move rfl | exact val_slice_arr rfl) ?_))
    (refine WD_t ?_)
    refine WL_inBytes (s := ⟨encState x, 432 + k * 32, of, 0⟩) hall rfl rfl rfl rfl (by decide) (show 432 + k * 32 + 32 ≤ (encState x).length from by omega) hl1 ?_
    (refine WL_t ?_)
    skip
    (refine WD_t ?_)
    have hr := hall.part (l := 432 + k * 32) (k := 32) (by omega) (by decide)
    rw [bs_drop, bs_take, row_at (at_stateRoots x ‹x.Fits›) k hlt] at hr
    refine WL_copy (k := 32) (new := [(32, bv x.stateRoots[k])]) rfl rfl rfl rfl hr.rd rfl (by simp [flat, bv, List.take_of_length_le]) (Put.right (by repeat (first | exact .head | apply Pick.tail | apply Put.tail))) (by repeat (first | exact PutSeg.inner (Nat.ble_eq_true_of_le (by omega)) | apply PutSeg.skip)) ?_
    dsimp only
    rw [rowsTo_succ x.stateRoots k hlt]
    (refine WL_t ?_)
    refine WD_nil ?_
    rw [IS.skip_row]
    (repeat (first | (refine WC_region ?_) | (refine WL_nil ?_) | (refine WL_val rfl rfl rfl (by first | exact val_move rfl | (apply val_addI; exact rfl; exact rfl; omega; omega)) ?_)))
    exact QX_againS (k + 1) (by omega) (by omega) ⟨rfl, rfl, rfl, trivial⟩ (by repeat (first | exact Sel.nil | refine Sel.cons (by repeat (first | exact .head | apply Pick.tail | apply Put.tail)) ?_))
  have hk8 : k = 8 := by have := of_decide_eq_false hf; omega
  subst hk8
  clear hf hk
  rw [rowsTo_all]
  (repeat (first | (refine WC_seq ?_) | (refine WC_region ?_) | (refine WC_exit ?_) | (refine WL_val rfl rfl rfl (by exact val_move rfl) ?_)))
  refine WL_inLater (s := ⟨encState x, 688, of, 0⟩) (lo := 2101 + (0)) (hi := 2101 + (x.history.length * 32)) rfl rfl rfl (by rw [hof]; rfl) (by rw [hof]; rfl) (by omega) (by rw [hlen, stEnd] at hac; omega) (show 688 < 1000000000 from by decide) (show 0 < 1000000000 from by decide) ?_
  (repeat (first | (refine WC_seq ?_) | (refine WC_region ?_) | (refine WL_nil ?_) | (refine QX_then ?_) | (refine WC_cond_true rfl ?_) | (refine WL_val rfl rfl rfl (by first | exact val_move rfl | exact val_assign rfl | exact val_fieldAddr0 rfl | (apply val_load_blk; exact rfl; (repeat (first | exact .head | apply Pick.tail)); exact rfl) | exact val_nilCheck rfl | exact val_eql rfl rfl) ?_)))
  rw [show 2101 + (x.history.length * 32) - (2101 + (0)) = x.history.length * 32 from by omega]
  have hrhistory := hall.sub (l := 2101 + (0)) (k := x.history.length * 32) (by rw [hlen, stEnd]; omega)
  rw [bs_drop, bs_take, list_history x hf] at hrhistory
  refine WL_call rfl rfl rfl .nil (fun w' hw' _ => sszEach w' 32 1024 x.history.length _ _ _ _ (listBhistory x) (hrhistory.pass hw' Take.nil) (listBhistory_len x) rfl (by decide) (by decide) (by omega) (by decide) (by omega)) (fun γ hγ => ?_)
  obtain ⟨lp, lc, ps⟩ := γ
  dsimp only at hγ ⊢
  (repeat (first | (refine WC_seq ?_) | (refine WC_region ?_) | (refine WL_val rfl rfl rfl (by first | exact val_move rfl | exact val_assign rfl | exact val_extract rfl rfl) ?_)))
  refine WL_comm ?_
  rw [List.append_assoc]
  skip
  refine WL_inFail (s := ⟨encState x, 692, of, 1⟩) rfl rfl rfl rfl ?_
  (repeat (first | (refine WC_seq ?_) | (refine WC_block ?_) | (refine WC_region ?_) | (refine WL_val rfl rfl rfl (by first | exact val_move rfl | exact val_len rfl) ?_)))
  refine WC_nil 24 32 ?_
  refine WC_loopS (G := Nat × PP) (fun k => k.1 ≤ x.history.length) (fun k => [(0, .pointer (some ⟨i, 0, none⟩)), (1, .pointer (some ⟨xb, 0, none⟩)), (118, .slice lp x.history.length lc), (119, .int .i64 x.history.length), (120, .int .i64 k.1)])
    (fun k => inΔ i g ⟨encState x, 692, of, 1⟩ ++ ([.blk xb [(1, [u64 x.genesis]), (32, bv x.groot), (1, [u64 x.slot]), (4, bv x.fork.prev), (4, bv x.fork.cur), (1, [u64 x.fork.epoch]), (1, [u64 x.header.slot]), (1, [u64 x.header.proposer]), (32, bv x.header.parent), (32, bv x.header.state), (32, bv x.header.body), (256, rootsV x.blockRoots), (256, rootsV x.stateRoots), (1, [.slice k.2.1 k.1 k.2.2]), (32, List.replicate 32 (.int .u8 0)), (1, [.int .u64 0]), (32, List.replicate 32 (.int .u8 0)), (1, [.slice none 0 0]), (1, [.int .u64 0]), (1, [.slice none 0 0]), (1, [.slice none 0 0]), (256, List.replicate 256 (.int .u8 0)), (8, List.replicate 8 (.int .u64 0)), (1, [.slice none 0 0]), (1, [.slice none 0 0]), (4, List.replicate 4 (.bool false)), (1, [.int .u64 0]), (32, List.replicate 32 (.int .u8 0)), (1, [.int .u64 0]), (32, List.replicate 32 (.int .u8 0)), (1, [.int .u64 0]), (32, List.replicate 32 (.int .u8 0)), (1, [.slice none 0 0]), (384, List.replicate 384 (.int .u8 0)), (48, List.replicate 48 (.int .u8 0)), (384, List.replicate 384 (.int .u8 0)), (48, List.replicate 48 (.int .u8 0))] 49, .sl (.slice k.2.1 k.1 k.2.2) k.1 ((x.history.take k.1).flatMap bv) 24 32, .sl (.slice lp x.history.length lc) x.history.length (eachV 32 ps) 39 1] ++ eachΔ 32 (listBhistory x) ps)) (fun k => x.history.length - k.1) (0, (none, 0)) (Nat.zero_le _) ⟨rfl, rfl, rfl, rfl, rfl, trivial⟩ (by (repeat (refine Sel.cons (by repeat (first | exact .head | apply Pick.tail | apply Put.tail)) ?_)); (repeat (first | exact Sel.refl _ | refine Sel.weak ?_))) ?_
  intro ⟨k, qhistory⟩ hk
  dsimp only at hk ⊢
  (repeat (first | (refine WC_seq ?_) | (refine WC_region ?_) | (refine WL_val rfl rfl rfl (by exact val_lss rfl rfl) ?_)))
  refine WC_cond rfl (fun ht => ?_) (fun hf => ?_)
  · have hlt : k < x.history.length := by have := of_decide_eq_true ht; omega
    have hps : k < ps.length := by omega
    refine WC_slPos (p := lp) (Pick.right (Pick.left (by repeat (first | exact .head | apply Pick.tail | apply Put.tail)))) (by omega) (fun lb hlb => ?_)
    subst hlb
    refine WC_slPos (Pick.right (Pick.right (pick_each hps))) (by decide) (fun eb heb => ?_)
    (repeat (first | (refine WC_seq ?_) | (refine WC_block ?_) | (refine WC_region ?_) | (refine WC_skip ?_)))
    refine WL_val rfl rfl rfl (val_indexAddr01 rfl rfl hlt) ?_
    refine WL_val rfl rfl rfl (val_load_sl (v := .slice (some ⟨eb, 0, none⟩) 32 ps[k].2) rfl (Pick.right (Pick.left (by repeat (first | exact .head | apply Pick.tail | apply Put.tail)))) (by simp [eachV, hps, heb])) ?_
    (repeat (first | (refine WL_nil ?_) | (refine QX_then ?_) | (refine WL_val rfl rfl rfl (by exact val_assign rfl) ?_)))
    have hpart : (List.drop (k * 32) (listBhistory x)).take 32 = x.history[k].toList := drop_take_flatMap _ 32 _ k hlt (fun _ _ => by simp)
    refine WC_drawA [_, _] mixed (by kernel_rfl) (.cons (Pick.right (Pick.right (pick_each hps))) (.cons (Pick.erase (i := 2) rfl) .nil)) ?_
    (repeat (first | (refine WD_p rfl rfl rfl (by first | exact val_move rfl | exact val_fieldAddr0 rfl | exact val_nilCheck rfl) ?_) | (refine WD_q rfl rfl rfl (by apply val_load_blk; exact rfl; (repeat (first | exact .head | apply Pick.tail)); exact rfl) ?_)))
    refine WD_p rfl rfl rfl (val_toArray rfl (by decide)) ?_
    refine WD_q rfl rfl rfl (val_load_agg (q := [(32, bv x.history[k])]) rfl (by have e1 : flat [(32, bv x.history[k])] = bs ((List.drop (k * 32) (listBhistory x)).take 32) := (by rw [hpart]; simp [flat, bv]); rw [e1]; exact Rd.slP heb .head) (by simp [flat])) ?_
    skip
    (refine WD_g ?_)
    refine WL_buildA rfl rfl rfl rfl rfl rfl rfl (fun b9 => ?_)
    refine WL_g (.cons (.tail (Pick.right (Pick.right (pick_each hps)))) (.cons (Pick.erase (i := 3) rfl) .nil)) ?_
    skip
    (refine WD_t ?_)
    refine WL_append rfl rfl rfl rfl rfl rfl (Pick.tail (Pick.right (Pick.left (by repeat (first | exact .head | apply Pick.tail | apply Put.tail))))) (SlRd.blkS (k := 32) (m := 1) (by repeat (first | exact .head | apply Pick.tail | apply Put.tail)) (by exact rfl) rfl (Nat.le_refl _) (by simp [flat])) (by simpa [flat] using bv_one _) (by omega) (by omega) (fun p2 c2 => ?_)
    (refine WL_t ?_)
    (repeat (refine WD_p rfl rfl rfl (by first | exact val_fieldAddr0 rfl | exact val_nilCheck rfl) ?_))
    (refine WD_t ?_)
    (first | (refine WL_store rfl rfl rfl rfl (by repeat (first | exact .head | apply Pick.tail | apply Put.tail)) (by repeat (first | exact PutSeg.one | apply PutSeg.skip | apply PutSeg.next | exact PutSeg.inner rfl)) ?_) | (refine WL_store_agg rfl rfl rfl (by repeat (first | exact .head | apply Pick.tail | apply Put.tail)) (by repeat (first | exact PutSeg.one | apply PutSeg.skip | apply PutSeg.next | exact PutSeg.inner rfl)) ?_))
    (refine WL_t ?_)
    refine WD_nil ?_
    (repeat (first | (refine WC_region ?_) | (refine WL_nil ?_) | (refine WL_val rfl rfl rfl (by first | exact val_move rfl | (apply val_addI; exact rfl; exact rfl; omega; omega)) ?_)))
    rw [show (x.history.take k).flatMap bv ++ flat [(32, bv x.history[k])] = (x.history.take (k + 1)).flatMap bv from by rw [flatMap_take_succ bv _ _ hlt]; simp [flat]]
    exact QX_againS (k + 1, (p2, c2)) (by simp; omega) (by simp; omega) ⟨rfl, rfl, rfl, rfl, rfl, trivial⟩ (by (repeat (refine Sel.cons (by repeat (first | exact .head | apply Pick.tail | apply Put.tail)) ?_)); (repeat (first | exact Sel.refl _ | refine Sel.weak ?_)))
  have hk8 : k = x.history.length := by have := of_decide_eq_false hf; omega
  subst hk8
  clear hf hk
  have hf : x.Fits := ‹_›
  rw [show x.history.take x.history.length = x.history from List.take_length]
  refine WC_sel (Δ := inΔ i g ⟨encState x, 692, of, 1⟩ ++ [.blk xb [(1, [u64 x.genesis]), (32, bv x.groot), (1, [u64 x.slot]), (4, bv x.fork.prev), (4, bv x.fork.cur), (1, [u64 x.fork.epoch]), (1, [u64 x.header.slot]), (1, [u64 x.header.proposer]), (32, bv x.header.parent), (32, bv x.header.state), (32, bv x.header.body), (256, rootsV x.blockRoots), (256, rootsV x.stateRoots), (1, [.slice qhistory.1 x.history.length qhistory.2]), (32, List.replicate 32 (.int .u8 0)), (1, [.int .u64 0]), (32, List.replicate 32 (.int .u8 0)), (1, [.slice none 0 0]), (1, [.int .u64 0]), (1, [.slice none 0 0]), (1, [.slice none 0 0]), (256, List.replicate 256 (.int .u8 0)), (8, List.replicate 8 (.int .u64 0)), (1, [.slice none 0 0]), (1, [.slice none 0 0]), (4, List.replicate 4 (.bool false)), (1, [.int .u64 0]), (32, List.replicate 32 (.int .u8 0)), (1, [.int .u64 0]), (32, List.replicate 32 (.int .u8 0)), (1, [.int .u64 0]), (32, List.replicate 32 (.int .u8 0)), (1, [.slice none 0 0]), (384, List.replicate 384 (.int .u8 0)), (48, List.replicate 48 (.int .u8 0)), (384, List.replicate 384 (.int .u8 0)), (48, List.replicate 48 (.int .u8 0))] 49, .sl (.slice qhistory.1 x.history.length qhistory.2) x.history.length (x.history.flatMap bv) 24 32]) (by repeat (first | exact Sel.nil | refine Sel.cons (by repeat (first | exact .head | apply Pick.tail | apply Put.tail)) ?_)) ?_
  (repeat (first | (refine WC_seq ?_) | (refine WC_region ?_) | (refine WC_exit ?_) | (refine WL_nil ?_) | (refine QX_then ?_) | (refine WC_cond_true rfl ?_) | (refine WL_val rfl rfl rfl (by first | exact val_move rfl | exact val_fieldAddr0 rfl | (apply val_load_blk; exact rfl; (repeat (first | exact .head | apply Pick.tail)); exact rfl) | exact val_nilCheck rfl | exact val_eql rfl rfl) ?_)))
  refine WL_inBytes (s := ⟨encState x, 692, of, 1⟩) hall rfl rfl rfl rfl (by decide) (show 692 + 72 ≤ (encState x).length from by omega) hl1 ?_
  skip
  have hreth1 := hall.part (l := 692) (k := 72) (by omega) (by decide)
  rw [bs_drop, bs_take, at_eth1 x hf] at hreth1
  refine WL_call0 rfl rfl rfl (fun w' hw' => smallReadEth1 w' x.eth1 _ _ _ (hreth1.pass hw' Take.nil)) (fun _ _ => ?_)
  (repeat (refine WL_val rfl rfl rfl (by first | exact val_move rfl | exact val_extract rfl rfl) ?_))
  (first | (refine WL_alloc rfl rfl (fun b7 => ?_)) | (refine WL_box_agg rfl rfl rfl inferInstance (fun b7 => ?_)) | (refine WL_box rfl rfl rfl rfl (fun b7 => ?_)))
  (first | (refine WL_store rfl rfl rfl rfl (by repeat (first | exact .head | apply Pick.tail | apply Put.tail)) (by repeat (first | exact PutSeg.one | apply PutSeg.skip | apply PutSeg.next | exact PutSeg.inner rfl)) ?_) | (refine WL_store_agg rfl rfl rfl (by repeat (first | exact .head | apply Pick.tail | apply Put.tail)) (by repeat (first | exact PutSeg.one | apply PutSeg.skip | apply PutSeg.next | exact PutSeg.inner rfl)) ?_))
  refine WL_mid ?_
  (repeat (first | (refine WC_seq ?_) | (refine WC_region ?_) | (refine WL_val rfl rfl rfl (by first | exact val_move rfl | exact val_assign rfl | exact val_fieldAddr0 rfl | (apply val_load_blk_agg; exact rfl; (repeat (first | exact .head | apply Pick.tail)); exact rfl) | exact val_nilCheck rfl) ?_)))
  (first | (refine WL_store rfl rfl rfl rfl (Put.right (by repeat (first | exact .head | apply Pick.tail | apply Put.tail))) (by repeat (first | exact PutSeg.one | apply PutSeg.skip | apply PutSeg.next | exact PutSeg.inner rfl)) ?_) | (refine WL_store_agg rfl rfl rfl (Put.right (by repeat (first | exact .head | apply Pick.tail | apply Put.tail))) (by repeat (first | exact PutSeg.one | apply PutSeg.skip | apply PutSeg.next | exact PutSeg.inner rfl)) ?_))
  (repeat (first | (refine WC_region ?_) | (refine WL_val rfl rfl rfl (by exact val_move rfl) ?_)))
  refine WL_inFail (s := ⟨encState x, 764, of, 1⟩) rfl rfl rfl rfl ?_
  (repeat (first | (refine WC_seq ?_) | (refine WC_region ?_) | (refine WL_val rfl rfl rfl (by exact val_move rfl) ?_)))
  skip
  refine WL_inLater (s := ⟨encState x, 764, of, 1⟩) (lo := 2101 + (x.history.length * 32)) (hi := 2101 + (x.history.length * 32 + x.votes.length * 72)) rfl rfl rfl (by rw [hof]; rfl) (by rw [hof]; rfl) (by omega) (by rw [hlen, stEnd] at hac; omega) (show 764 < 1000000000 from by decide) (show 1 < 1000000000 from by decide) ?_
  (repeat (first | (refine WC_seq ?_) | (refine WC_region ?_) | (refine WL_nil ?_) | (refine QX_then ?_) | (refine WC_cond_true rfl ?_) | (refine WL_val rfl rfl rfl (by first | exact val_move rfl | exact val_assign rfl | exact val_fieldAddr0 rfl | (apply val_load_blk; exact rfl; (repeat (first | exact .head | apply Pick.tail)); exact rfl) | exact val_nilCheck rfl | exact val_eql rfl rfl) ?_)))
  rw [show 2101 + (x.history.length * 32 + x.votes.length * 72) - (2101 + (x.history.length * 32)) = x.votes.length * 72 from by omega]
  have hrvotes := hall.sub (l := 2101 + (x.history.length * 32)) (k := x.votes.length * 72) (by rw [hlen, stEnd]; omega)
  rw [bs_drop, bs_take, list_votes x hf] at hrvotes
  refine WL_call rfl rfl rfl .nil (fun w' hw' _ => sszEach w' 72 8 x.votes.length _ _ _ _ (listBvotes x) (hrvotes.pass hw' Take.nil) (listBvotes_len x) rfl (by decide) (by decide) (by omega) (by decide) (by omega)) (fun γ hγ => ?_)
  obtain ⟨lp, lc, ps⟩ := γ
  dsimp only at hγ ⊢
  (repeat (first | (refine WC_seq ?_) | (refine WC_region ?_) | (refine WL_val rfl rfl rfl (by first | exact val_move rfl | exact val_assign rfl | exact val_extract rfl rfl) ?_)))
  refine WL_comm ?_
  rw [List.append_assoc]
  skip
  refine WL_inFail (s := ⟨encState x, 768, of, 2⟩) rfl rfl rfl rfl ?_
  (repeat (first | (refine WC_seq ?_) | (refine WC_block ?_) | (refine WC_region ?_) | (refine WL_val rfl rfl rfl (by first | exact val_move rfl | exact val_len rfl) ?_)))
  refine WC_nil 34 65 ?_
  refine WC_loopS (G := Nat × PP) (fun k => k.1 ≤ x.votes.length) (fun k => [(0, .pointer (some ⟨i, 0, none⟩)), (1, .pointer (some ⟨xb, 0, none⟩)), (170, .slice lp x.votes.length lc), (171, .int .i64 x.votes.length), (172, .int .i64 k.1)])
    (fun k => inΔ i g ⟨encState x, 768, of, 2⟩ ++ ([.blk xb [(1, [u64 x.genesis]), (32, bv x.groot), (1, [u64 x.slot]), (4, bv x.fork.prev), (4, bv x.fork.cur), (1, [u64 x.fork.epoch]), (1, [u64 x.header.slot]), (1, [u64 x.header.proposer]), (32, bv x.header.parent), (32, bv x.header.state), (32, bv x.header.body), (256, rootsV x.blockRoots), (256, rootsV x.stateRoots), (1, [.slice qhistory.1 x.history.length qhistory.2]), (32, bv x.eth1.deposits), (1, [u64 x.eth1.count]), (32, bv x.eth1.block), (1, [.slice k.2.1 k.1 k.2.2]), (1, [.int .u64 0]), (1, [.slice none 0 0]), (1, [.slice none 0 0]), (256, List.replicate 256 (.int .u8 0)), (8, List.replicate 8 (.int .u64 0)), (1, [.slice none 0 0]), (1, [.slice none 0 0]), (4, List.replicate 4 (.bool false)), (1, [.int .u64 0]), (32, List.replicate 32 (.int .u8 0)), (1, [.int .u64 0]), (32, List.replicate 32 (.int .u8 0)), (1, [.int .u64 0]), (32, List.replicate 32 (.int .u8 0)), (1, [.slice none 0 0]), (384, List.replicate 384 (.int .u8 0)), (48, List.replicate 48 (.int .u8 0)), (384, List.replicate 384 (.int .u8 0)), (48, List.replicate 48 (.int .u8 0))] 49, .sl (.slice k.2.1 k.1 k.2.2) k.1 ((x.votes.take k.1).flatMap eth1C) 34 65, .sl (.slice qhistory.1 x.history.length qhistory.2) x.history.length (x.history.flatMap bv) 24 32, .sl (.slice lp x.votes.length lc) x.votes.length (eachV 72 ps) 39 1] ++ eachΔ 72 (listBvotes x) ps)) (fun k => x.votes.length - k.1) (0, (none, 0)) (Nat.zero_le _) ⟨rfl, rfl, rfl, rfl, rfl, trivial⟩ (by (repeat (refine Sel.cons (by repeat (first | exact .head | apply Pick.tail | apply Put.tail)) ?_)); (repeat (first | exact Sel.refl _ | refine Sel.weak ?_))) ?_
  intro ⟨k, qvotes⟩ hk
  dsimp only at hk ⊢
  (repeat (first | (refine WC_seq ?_) | (refine WC_region ?_) | (refine WL_val rfl rfl rfl (by exact val_lss rfl rfl) ?_)))
  refine WC_cond rfl (fun ht => ?_) (fun hf => ?_)
  · have hlt : k < x.votes.length := by have := of_decide_eq_true ht; omega
    have hps : k < ps.length := by omega
    refine WC_slPos (p := lp) (Pick.right (Pick.left (by repeat (first | exact .head | apply Pick.tail | apply Put.tail)))) (by omega) (fun lb hlb => ?_)
    subst hlb
    refine WC_slPos (Pick.right (Pick.right (pick_each hps))) (by decide) (fun eb heb => ?_)
    (repeat (first | (refine WC_seq ?_) | (refine WC_block ?_) | (refine WC_region ?_) | (refine WC_skip ?_)))
    refine WL_val rfl rfl rfl (val_indexAddr01 rfl rfl hlt) ?_
    refine WL_val rfl rfl rfl (val_load_sl (v := .slice (some ⟨eb, 0, none⟩) 72 ps[k].2) rfl (Pick.right (Pick.left (by repeat (first | exact .head | apply Pick.tail | apply Put.tail)))) (by simp [eachV, hps, heb])) ?_
    (repeat (first | (refine WC_seq ?_) | (refine WC_region ?_) | (refine WL_val rfl rfl rfl (by first | exact val_move rfl | exact val_assign rfl) ?_)))
    have hpart : (List.drop (k * 72) (listBvotes x)).take 72 = encEth1 x.votes[k] := drop_take_flatMap _ 72 _ k hlt (fun _ _ => by simp)
    refine WL_call0 rfl rfl rfl (fun w' hw' => smallReadEth1 w' x.votes[k] _ _ _ ⟨by have := SlRd.sl (Pick.right (Pick.right (pick_each hps))) w' hw'; rwa [heb, hpart] at this, Sep.none⟩) (fun _ _ => ?_)
    (repeat (refine WL_val rfl rfl rfl (by first | exact val_move rfl | exact val_extract rfl rfl) ?_))
    (first | (refine WL_alloc rfl rfl (fun b7 => ?_)) | (refine WL_box_agg rfl rfl rfl inferInstance (fun b7 => ?_)) | (refine WL_box rfl rfl rfl rfl (fun b7 => ?_)))
    (first | (refine WL_store rfl rfl rfl rfl (by repeat (first | exact .head | apply Pick.tail | apply Put.tail)) (by repeat (first | exact PutSeg.one | apply PutSeg.skip | apply PutSeg.next | exact PutSeg.inner rfl)) ?_) | (refine WL_store_agg rfl rfl rfl (by repeat (first | exact .head | apply Pick.tail | apply Put.tail)) (by repeat (first | exact PutSeg.one | apply PutSeg.skip | apply PutSeg.next | exact PutSeg.inner rfl)) ?_))
    refine WL_mid ?_
    (repeat (first | (refine WC_seq ?_) | (refine WC_region ?_) | (refine WL_val rfl rfl rfl (by first | exact val_move rfl | exact val_assign rfl) ?_)))
    refine WL_inFail (s := ⟨encState x, 768, of, 2⟩) rfl rfl rfl rfl ?_
    (repeat (first | (refine WL_nil ?_) | (refine QX_then ?_)))
    refine WC_drawA [_, _] mixed (by kernel_rfl) (.cons (Pick.erase (i := 2) rfl) (.cons (Pick.erase (i := 2) rfl) .nil)) ?_
    (repeat (first | (refine WD_p rfl rfl rfl (by first | exact val_move rfl | exact val_fieldAddr0 rfl | exact val_nilCheck rfl) ?_) | (refine WD_q rfl rfl rfl (by first | (apply val_load_blk; exact rfl; (repeat (first | exact .head | apply Pick.tail)); exact rfl) | (apply val_load_blk_agg; exact rfl; (repeat (first | exact .head | apply Pick.tail)); exact rfl)) ?_)))
    (refine WD_g ?_)
    refine WL_buildA rfl rfl rfl rfl rfl rfl rfl (fun b9 => ?_)
    refine WL_g (.cons (Pick.erase (i := 3) rfl) (.cons (Pick.erase (i := 3) rfl) .nil)) ?_
    skip
    (refine WD_t ?_)
    refine WL_append rfl rfl rfl rfl rfl rfl (Pick.tail (Pick.right (Pick.tail (Pick.left (by repeat (first | exact .head | apply Pick.tail | apply Put.tail)))))) (SlRd.blkS (k := 65) (m := 1) (by repeat (first | exact .head | apply Pick.tail | apply Put.tail)) (by exact rfl) rfl (Nat.le_refl _) (eth1C_length _)) (eth1C_one _) (by omega) (by omega) (fun p2 c2 => ?_)
    (refine WL_t ?_)
    (repeat (refine WD_p rfl rfl rfl (by first | exact val_fieldAddr0 rfl | exact val_nilCheck rfl) ?_))
    (refine WD_t ?_)
    (first | (refine WL_store rfl rfl rfl rfl (by repeat (first | exact .head | apply Pick.tail | apply Put.tail)) (by repeat (first | exact PutSeg.one | apply PutSeg.skip | apply PutSeg.next | exact PutSeg.inner rfl)) ?_) | (refine WL_store_agg rfl rfl rfl (by repeat (first | exact .head | apply Pick.tail | apply Put.tail)) (by repeat (first | exact PutSeg.one | apply PutSeg.skip | apply PutSeg.next | exact PutSeg.inner rfl)) ?_))
    (refine WL_t ?_)
    refine WD_nil ?_
    (repeat (first | (refine WC_region ?_) | (refine WL_nil ?_) | (refine WL_val rfl rfl rfl (by first | exact val_move rfl | (apply val_addI; exact rfl; exact rfl; omega; omega)) ?_)))
    rw [show (x.votes.take k).flatMap eth1C ++ flat (eth1S x.votes[k]) = (x.votes.take (k + 1)).flatMap eth1C from (flatMap_take_succ eth1C _ _ hlt).symm]
    exact QX_againS (k + 1, (p2, c2)) (by simp; omega) (by simp; omega) ⟨rfl, rfl, rfl, rfl, rfl, trivial⟩ (by (repeat (refine Sel.cons (by repeat (first | exact .head | apply Pick.tail | apply Put.tail)) ?_)); (repeat (first | exact Sel.refl _ | refine Sel.weak ?_)))
  have hk8 : k = x.votes.length := by have := of_decide_eq_false hf; omega
  subst hk8
  clear hf hk
  have hf : x.Fits := ‹_›
  rw [show x.votes.take x.votes.length = x.votes from List.take_length]
  refine WC_sel (Δ := inΔ i g ⟨encState x, 768, of, 2⟩ ++ [.blk xb [(1, [u64 x.genesis]), (32, bv x.groot), (1, [u64 x.slot]), (4, bv x.fork.prev), (4, bv x.fork.cur), (1, [u64 x.fork.epoch]), (1, [u64 x.header.slot]), (1, [u64 x.header.proposer]), (32, bv x.header.parent), (32, bv x.header.state), (32, bv x.header.body), (256, rootsV x.blockRoots), (256, rootsV x.stateRoots), (1, [.slice qhistory.1 x.history.length qhistory.2]), (32, bv x.eth1.deposits), (1, [u64 x.eth1.count]), (32, bv x.eth1.block), (1, [.slice qvotes.1 x.votes.length qvotes.2]), (1, [.int .u64 0]), (1, [.slice none 0 0]), (1, [.slice none 0 0]), (256, List.replicate 256 (.int .u8 0)), (8, List.replicate 8 (.int .u64 0)), (1, [.slice none 0 0]), (1, [.slice none 0 0]), (4, List.replicate 4 (.bool false)), (1, [.int .u64 0]), (32, List.replicate 32 (.int .u8 0)), (1, [.int .u64 0]), (32, List.replicate 32 (.int .u8 0)), (1, [.int .u64 0]), (32, List.replicate 32 (.int .u8 0)), (1, [.slice none 0 0]), (384, List.replicate 384 (.int .u8 0)), (48, List.replicate 48 (.int .u8 0)), (384, List.replicate 384 (.int .u8 0)), (48, List.replicate 48 (.int .u8 0))] 49, .sl (.slice qhistory.1 x.history.length qhistory.2) x.history.length (x.history.flatMap bv) 24 32, .sl (.slice qvotes.1 x.votes.length qvotes.2) x.votes.length (x.votes.flatMap eth1C) 34 65]) (by repeat (first | exact Sel.nil | refine Sel.cons (by repeat (first | exact .head | apply Pick.tail | apply Put.tail)) ?_)) ?_
  (repeat (first | (refine WC_region ?_) | (refine WC_exit ?_) | (refine WL_val rfl rfl rfl (by exact val_move rfl) ?_)))
  refine WL_inU64 (s := ⟨encState x, 768, of, 2⟩) (k := x.deposits.toNat) hall rfl rfl rfl (show 768 + 8 ≤ (encState x).length from by omega) hl1 ((congrArg (rdTo · 8) (at_deposits x hf)).trans (rd_u64 _)) ?_
  (repeat (refine WL_val rfl rfl rfl (by first | exact val_fieldAddr0 rfl | exact val_nilCheck rfl) ?_))
  (first | (refine WL_store rfl rfl rfl rfl (Put.right (by repeat (first | exact .head | apply Pick.tail | apply Put.tail))) (by repeat (first | exact PutSeg.one | apply PutSeg.skip | apply PutSeg.next | exact PutSeg.inner rfl)) ?_) | (refine WL_store_agg rfl rfl rfl (Put.right (by repeat (first | exact .head | apply Pick.tail | apply Put.tail))) (by repeat (first | exact PutSeg.one | apply PutSeg.skip | apply PutSeg.next | exact PutSeg.inner rfl)) ?_))
  (repeat (refine WL_nil ?_))
  refine QX_end (l := []) rfl .nil ?_
  intro w' hw'
  exact gives (qhistory, qvotes) hw' trivial rfl (by repeat (first | exact Sel.nil | refine Sel.cons (by repeat (first | exact .head | apply Pick.tail | apply Put.tail)) ?_))
end Go.PK

/- The reader of states, part 2. Written by a program (genrs.py). -/
namespace Go.PK
open Go.Proofs

set_option maxHeartbeats 8000000 in
theorem readState2 (w : World) (i xb : Nat) (g : IA) (x : StateD) (of : List Nat) (S : List Nat) (qhistory qvotes : PP) (hf : x.Fits) (hof : of = stOffs x ++ [stEnd x])
    (hm : Mem (inΔ i g ⟨encState x, 776, of, 2⟩ ++ [.blk xb [(1, [u64 x.genesis]), (32, bv x.groot), (1, [u64 x.slot]), (4, bv x.fork.prev), (4, bv x.fork.cur), (1, [u64 x.fork.epoch]), (1, [u64 x.header.slot]), (1, [u64 x.header.proposer]), (32, bv x.header.parent), (32, bv x.header.state), (32, bv x.header.body), (256, rootsV x.blockRoots), (256, rootsV x.stateRoots), (1, [.slice qhistory.1 x.history.length qhistory.2]), (32, bv x.eth1.deposits), (1, [u64 x.eth1.count]), (32, bv x.eth1.block), (1, [.slice qvotes.1 x.votes.length qvotes.2]), (1, [u64 x.deposits]), (1, [.slice none 0 0]), (1, [.slice none 0 0]), (256, List.replicate 256 (.int .u8 0)), (8, List.replicate 8 (.int .u64 0)), (1, [.slice none 0 0]), (1, [.slice none 0 0]), (4, List.replicate 4 (.bool false)), (1, [.int .u64 0]), (32, List.replicate 32 (.int .u8 0)), (1, [.int .u64 0]), (32, List.replicate 32 (.int .u8 0)), (1, [.int .u64 0]), (32, List.replicate 32 (.int .u8 0)), (1, [.slice none 0 0]), (384, List.replicate 384 (.int .u8 0)), (48, List.replicate 48 (.int .u8 0)), (384, List.replicate 384 (.int .u8 0)), (48, List.replicate 48 (.int .u8 0))] 49, .sl (.slice qhistory.1 x.history.length qhistory.2) x.history.length (x.history.flatMap bv) 24 32, .sl (.slice qvotes.1 x.votes.length qvotes.2) x.votes.length (x.votes.flatMap eth1C) 34 65]) S w w) (hall : Old w S 1 (.slice (some ⟨g.ab, g.ao, none⟩) (encState x).length g.ac) (encState x).length (bs (encState x))) :
    Calls Try.prog 25 [.pointer (some ⟨i, 0, none⟩), .pointer (some ⟨xb, 0, none⟩)].toArray w
      (Gives (fun _ : PP × PP × PP × PP => True) (fun _ => .tuple #[]) (fun γ => inΔ i g ⟨encState x, 1153, of, 6⟩ ++ [.blk xb [(1, [u64 x.genesis]), (32, bv x.groot), (1, [u64 x.slot]), (4, bv x.fork.prev), (4, bv x.fork.cur), (1, [u64 x.fork.epoch]), (1, [u64 x.header.slot]), (1, [u64 x.header.proposer]), (32, bv x.header.parent), (32, bv x.header.state), (32, bv x.header.body), (256, rootsV x.blockRoots), (256, rootsV x.stateRoots), (1, [.slice qhistory.1 x.history.length qhistory.2]), (32, bv x.eth1.deposits), (1, [u64 x.eth1.count]), (32, bv x.eth1.block), (1, [.slice qvotes.1 x.votes.length qvotes.2]), (1, [u64 x.deposits]), (1, [.slice γ.1.1 x.validators.length γ.1.2]), (1, [.slice γ.2.1.1 x.balances.length γ.2.1.2]), (256, rootsV x.mixes), (8, u64sV x.slashings), (1, [.slice γ.2.2.1.1 x.previous.length γ.2.2.1.2]), (1, [.slice γ.2.2.2.1 x.current.length γ.2.2.2.2]), (4, boolsV x.bits), (1, [u64 x.oldJust.epoch]), (32, bv x.oldJust.root), (1, [.int .u64 0]), (32, List.replicate 32 (.int .u8 0)), (1, [.int .u64 0]), (32, List.replicate 32 (.int .u8 0)), (1, [.slice none 0 0]), (384, List.replicate 384 (.int .u8 0)), (48, List.replicate 48 (.int .u8 0)), (384, List.replicate 384 (.int .u8 0)), (48, List.replicate 48 (.int .u8 0))] 49, .sl (.slice qhistory.1 x.history.length qhistory.2) x.history.length (x.history.flatMap bv) 24 32, .sl (.slice qvotes.1 x.votes.length qvotes.2) x.votes.length (x.votes.flatMap eth1C) 34 65, .sl (.slice γ.1.1 x.validators.length γ.1.2) x.validators.length (x.validators.flatMap valC) 62 86, .sl (.slice γ.2.1.1 x.balances.length γ.2.1.2) x.balances.length (x.balances.map u64) 22 1, .sl (.slice γ.2.2.1.1 x.previous.length γ.2.2.1.2) x.previous.length (bs x.previous) 5 1, .sl (.slice γ.2.2.2.1 x.current.length γ.2.2.2.2) x.current.length (bs x.current) 5 1]) S w) := by
  have hlen := encState_length x hf
  obtain ⟨f1, f2, f3, f4, f5, f6, f7⟩ := id hf
  have hl0 : 2101 ≤ (encState x).length := by rw [hlen, stEnd]; omega
  have hl1 : (encState x).length < 1000000000 := by rw [hlen, stEnd]; omega
  have hac : (encState x).length ≤ g.ac := inAc w g ⟨encState x, 0, of, 0⟩ S hall
  refine calls_enter (fn := Try.f25) Try.func25 rfl Try.ntmps25 rfl hm ?_
  (repeat (first | (refine WC_seq ?_) | (refine WC_region ?_) | (refine WL_val rfl rfl rfl (by exact val_move rfl) ?_)))
  refine WL_inLater (s := ⟨encState x, 776, of, 2⟩) (lo := 2101 + (x.history.length * 32 + x.votes.length * 72)) (hi := 2101 + (x.history.length * 32 + x.votes.length * 72 + x.validators.length * 121)) rfl rfl rfl (by rw [hof]; rfl) (by rw [hof]; rfl) (by omega) (by rw [hlen, stEnd] at hac; omega) (show 776 < 1000000000 from by decide) (show 2 < 1000000000 from by decide) ?_
  (repeat (first | (refine WC_seq ?_) | (refine WC_region ?_) | (refine WL_nil ?_) | (refine QX_then ?_) | (refine WC_cond_true rfl ?_) | (refine WL_val rfl rfl rfl (by first | exact val_move rfl | exact val_assign rfl | exact val_fieldAddr0 rfl | (apply val_load_blk; exact rfl; (repeat (first | exact .head | apply Pick.tail)); exact rfl) | exact val_nilCheck rfl | exact val_eql rfl rfl) ?_)))
  rw [show 2101 + (x.history.length * 32 + x.votes.length * 72 + x.validators.length * 121) - (2101 + (x.history.length * 32 + x.votes.length * 72)) = x.validators.length * 121 from by omega]
  have hrvalidators := hall.sub (l := 2101 + (x.history.length * 32 + x.votes.length * 72)) (k := x.validators.length * 121) (by rw [hlen, stEnd]; omega)
  rw [bs_drop, bs_take, list_validators x hf] at hrvalidators
  refine WL_call rfl rfl rfl .nil (fun w' hw' _ => sszEach w' 121 65536 x.validators.length _ _ _ _ (listBvalidators x) (hrvalidators.pass hw' Take.nil) (listBvalidators_len x) rfl (by decide) (by decide) (by omega) (by decide) (by omega)) (fun γ hγ => ?_)
  obtain ⟨lp, lc, ps⟩ := γ
  dsimp only at hγ ⊢
  (repeat (first | (refine WC_seq ?_) | (refine WC_region ?_) | (refine WL_val rfl rfl rfl (by first | exact val_move rfl | exact val_assign rfl | exact val_extract rfl rfl) ?_)))
  refine WL_comm ?_
  rw [List.append_assoc]
  skip
  refine WL_inFail (s := ⟨encState x, 780, of, 3⟩) rfl rfl rfl rfl ?_
  (repeat (first | (refine WC_seq ?_) | (refine WC_block ?_) | (refine WC_region ?_) | (refine WL_val rfl rfl rfl (by first | exact val_move rfl | exact val_len rfl) ?_)))
  refine WC_nil 62 86 ?_
  refine WC_loopS (G := Nat × PP) (fun k => k.1 ≤ x.validators.length) (fun k => [(0, .pointer (some ⟨i, 0, none⟩)), (1, .pointer (some ⟨xb, 0, none⟩)), (49, .slice lp x.validators.length lc), (50, .int .i64 x.validators.length), (51, .int .i64 k.1)])
    (fun k => inΔ i g ⟨encState x, 780, of, 3⟩ ++ ([.blk xb [(1, [u64 x.genesis]), (32, bv x.groot), (1, [u64 x.slot]), (4, bv x.fork.prev), (4, bv x.fork.cur), (1, [u64 x.fork.epoch]), (1, [u64 x.header.slot]), (1, [u64 x.header.proposer]), (32, bv x.header.parent), (32, bv x.header.state), (32, bv x.header.body), (256, rootsV x.blockRoots), (256, rootsV x.stateRoots), (1, [.slice qhistory.1 x.history.length qhistory.2]), (32, bv x.eth1.deposits), (1, [u64 x.eth1.count]), (32, bv x.eth1.block), (1, [.slice qvotes.1 x.votes.length qvotes.2]), (1, [u64 x.deposits]), (1, [.slice k.2.1 k.1 k.2.2]), (1, [.slice none 0 0]), (256, List.replicate 256 (.int .u8 0)), (8, List.replicate 8 (.int .u64 0)), (1, [.slice none 0 0]), (1, [.slice none 0 0]), (4, List.replicate 4 (.bool false)), (1, [.int .u64 0]), (32, List.replicate 32 (.int .u8 0)), (1, [.int .u64 0]), (32, List.replicate 32 (.int .u8 0)), (1, [.int .u64 0]), (32, List.replicate 32 (.int .u8 0)), (1, [.slice none 0 0]), (384, List.replicate 384 (.int .u8 0)), (48, List.replicate 48 (.int .u8 0)), (384, List.replicate 384 (.int .u8 0)), (48, List.replicate 48 (.int .u8 0))] 49, .sl (.slice k.2.1 k.1 k.2.2) k.1 ((x.validators.take k.1).flatMap valC) 62 86, .sl (.slice qhistory.1 x.history.length qhistory.2) x.history.length (x.history.flatMap bv) 24 32, .sl (.slice qvotes.1 x.votes.length qvotes.2) x.votes.length (x.votes.flatMap eth1C) 34 65, .sl (.slice lp x.validators.length lc) x.validators.length (eachV 121 ps) 39 1] ++ eachΔ 121 (listBvalidators x) ps)) (fun k => x.validators.length - k.1) (0, (none, 0)) (Nat.zero_le _) ⟨rfl, rfl, rfl, rfl, rfl, trivial⟩ (by (repeat (refine Sel.cons (by repeat (first | exact .head | apply Pick.tail | apply Put.tail)) ?_)); (repeat (first | exact Sel.refl _ | refine Sel.weak ?_))) ?_
  intro ⟨k, qvalidators⟩ hk
  dsimp only at hk ⊢
  (repeat (first | (refine WC_seq ?_) | (refine WC_region ?_) | (refine WL_val rfl rfl rfl (by exact val_lss rfl rfl) ?_)))
  refine WC_cond rfl (fun ht => ?_) (fun hf => ?_)
  · have hlt : k < x.validators.length := by have := of_decide_eq_true ht; omega
    have hps : k < ps.length := by omega
    refine WC_slPos (p := lp) (Pick.right (Pick.left (by repeat (first | exact .head | apply Pick.tail | apply Put.tail)))) (by omega) (fun lb hlb => ?_)
    subst hlb
    refine WC_slPos (Pick.right (Pick.right (pick_each hps))) (by decide) (fun eb heb => ?_)
    (repeat (first | (refine WC_seq ?_) | (refine WC_block ?_) | (refine WC_region ?_) | (refine WC_skip ?_)))
    refine WL_val rfl rfl rfl (val_indexAddr01 rfl rfl hlt) ?_
    refine WL_val rfl rfl rfl (val_load_sl (v := .slice (some ⟨eb, 0, none⟩) 121 ps[k].2) rfl (Pick.right (Pick.left (by repeat (first | exact .head | apply Pick.tail | apply Put.tail)))) (by simp [eachV, hps, heb])) ?_
    (repeat (first | (refine WC_seq ?_) | (refine WC_region ?_) | (refine WL_val rfl rfl rfl (by first | exact val_move rfl | exact val_assign rfl) ?_)))
    have hpart : (List.drop (k * 121) (listBvalidators x)).take 121 = encValidator x.validators[k] := drop_take_flatMap _ 121 _ k hlt (fun _ _ => by simp)
    refine WL_call0 rfl rfl rfl (fun w' hw' => smallReadValidator w' x.validators[k] _ _ _ ⟨by have := SlRd.sl (Pick.right (Pick.right (pick_each hps))) w' hw'; rwa [heb, hpart] at this, Sep.none⟩) (fun _ _ => ?_)
    (repeat (refine WL_val rfl rfl rfl (by first | exact val_move rfl | exact val_extract rfl rfl) ?_))
    (first | (refine WL_alloc rfl rfl (fun b7 => ?_)) | (refine WL_box_agg rfl rfl rfl inferInstance (fun b7 => ?_)) | (refine WL_box rfl rfl rfl rfl (fun b7 => ?_)))
    (first | (refine WL_store rfl rfl rfl rfl (by repeat (first | exact .head | apply Pick.tail | apply Put.tail)) (by repeat (first | exact PutSeg.one | apply PutSeg.skip | apply PutSeg.next | exact PutSeg.inner rfl)) ?_) | (refine WL_store_agg rfl rfl rfl (by repeat (first | exact .head | apply Pick.tail | apply Put.tail)) (by repeat (first | exact PutSeg.one | apply PutSeg.skip | apply PutSeg.next | exact PutSeg.inner rfl)) ?_))
    refine WL_mid ?_
    (repeat (first | (refine WC_seq ?_) | (refine WC_region ?_) | (refine WL_val rfl rfl rfl (by first | exact val_move rfl | exact val_assign rfl) ?_)))
    refine WL_inFail (s := ⟨encState x, 780, of, 3⟩) rfl rfl rfl rfl ?_
    (repeat (first | (refine WL_nil ?_) | (refine QX_then ?_)))
    refine WC_drawA [_, _] mixed (by kernel_rfl) (.cons (Pick.erase (i := 2) rfl) (.cons (Pick.erase (i := 2) rfl) .nil)) ?_
    (repeat (first | (refine WD_p rfl rfl rfl (by first | exact val_move rfl | exact val_fieldAddr0 rfl | exact val_nilCheck rfl) ?_) | (refine WD_q rfl rfl rfl (by first | (apply val_load_blk; exact rfl; (repeat (first | exact .head | apply Pick.tail)); exact rfl) | (apply val_load_blk_agg; exact rfl; (repeat (first | exact .head | apply Pick.tail)); exact rfl)) ?_)))
    (refine WD_g ?_)
    refine WL_buildA rfl rfl rfl rfl rfl rfl rfl (fun b9 => ?_)
    refine WL_g (.cons (Pick.erase (i := 3) rfl) (.cons (Pick.erase (i := 3) rfl) .nil)) ?_
    skip
    (refine WD_t ?_)
    refine WL_append rfl rfl rfl rfl rfl rfl (Pick.tail (Pick.right (Pick.tail (Pick.left (by repeat (first | exact .head | apply Pick.tail | apply Put.tail)))))) (SlRd.blkS (k := 86) (m := 1) (by repeat (first | exact .head | apply Pick.tail | apply Put.tail)) (by exact rfl) rfl (Nat.le_refl _) (valC_length _)) (valC_one _) (by omega) (by omega) (fun p2 c2 => ?_)
    (refine WL_t ?_)
    (repeat (refine WD_p rfl rfl rfl (by first | exact val_fieldAddr0 rfl | exact val_nilCheck rfl) ?_))
    (refine WD_t ?_)
    (first | (refine WL_store rfl rfl rfl rfl (by repeat (first | exact .head | apply Pick.tail | apply Put.tail)) (by repeat (first | exact PutSeg.one | apply PutSeg.skip | apply PutSeg.next | exact PutSeg.inner rfl)) ?_) | (refine WL_store_agg rfl rfl rfl (by repeat (first | exact .head | apply Pick.tail | apply Put.tail)) (by repeat (first | exact PutSeg.one | apply PutSeg.skip | apply PutSeg.next | exact PutSeg.inner rfl)) ?_))
    (refine WL_t ?_)
    refine WD_nil ?_
    (repeat (first | (refine WC_region ?_) | (refine WL_nil ?_) | (refine WL_val rfl rfl rfl (by first | exact val_move rfl | (apply val_addI; exact rfl; exact rfl; omega; omega)) ?_)))
    rw [show (x.validators.take k).flatMap valC ++ flat (valS x.validators[k]) = (x.validators.take (k + 1)).flatMap valC from (flatMap_take_succ valC _ _ hlt).symm]
    exact QX_againS (k + 1, (p2, c2)) (by simp; omega) (by simp; omega) ⟨rfl, rfl, rfl, rfl, rfl, trivial⟩ (by (repeat (refine Sel.cons (by repeat (first | exact .head | apply Pick.tail | apply Put.tail)) ?_)); (repeat (first | exact Sel.refl _ | refine Sel.weak ?_)))
  have hk8 : k = x.validators.length := by have := of_decide_eq_false hf; omega
  subst hk8
  clear hf hk
  have hf : x.Fits := ‹_›
  rw [show x.validators.take x.validators.length = x.validators from List.take_length]
  refine WC_sel (Δ := inΔ i g ⟨encState x, 780, of, 3⟩ ++ [.blk xb [(1, [u64 x.genesis]), (32, bv x.groot), (1, [u64 x.slot]), (4, bv x.fork.prev), (4, bv x.fork.cur), (1, [u64 x.fork.epoch]), (1, [u64 x.header.slot]), (1, [u64 x.header.proposer]), (32, bv x.header.parent), (32, bv x.header.state), (32, bv x.header.body), (256, rootsV x.blockRoots), (256, rootsV x.stateRoots), (1, [.slice qhistory.1 x.history.length qhistory.2]), (32, bv x.eth1.deposits), (1, [u64 x.eth1.count]), (32, bv x.eth1.block), (1, [.slice qvotes.1 x.votes.length qvotes.2]), (1, [u64 x.deposits]), (1, [.slice qvalidators.1 x.validators.length qvalidators.2]), (1, [.slice none 0 0]), (256, List.replicate 256 (.int .u8 0)), (8, List.replicate 8 (.int .u64 0)), (1, [.slice none 0 0]), (1, [.slice none 0 0]), (4, List.replicate 4 (.bool false)), (1, [.int .u64 0]), (32, List.replicate 32 (.int .u8 0)), (1, [.int .u64 0]), (32, List.replicate 32 (.int .u8 0)), (1, [.int .u64 0]), (32, List.replicate 32 (.int .u8 0)), (1, [.slice none 0 0]), (384, List.replicate 384 (.int .u8 0)), (48, List.replicate 48 (.int .u8 0)), (384, List.replicate 384 (.int .u8 0)), (48, List.replicate 48 (.int .u8 0))] 49, .sl (.slice qhistory.1 x.history.length qhistory.2) x.history.length (x.history.flatMap bv) 24 32, .sl (.slice qvotes.1 x.votes.length qvotes.2) x.votes.length (x.votes.flatMap eth1C) 34 65, .sl (.slice qvalidators.1 x.validators.length qvalidators.2) x.validators.length (x.validators.flatMap valC) 62 86]) (by repeat (first | exact Sel.nil | refine Sel.cons (by repeat (first | exact .head | apply Pick.tail | apply Put.tail)) ?_)) ?_
  (repeat (first | (refine WC_seq ?_) | (refine WC_region ?_) | (refine WC_exit ?_) | (refine WL_val rfl rfl rfl (by exact val_move rfl) ?_)))
  refine WL_inLater (s := ⟨encState x, 780, of, 3⟩) (lo := 2101 + (x.history.length * 32 + x.votes.length * 72 + x.validators.length * 121)) (hi := 2101 + (x.history.length * 32 + x.votes.length * 72 + x.validators.length * 121 + x.balances.length * 8)) rfl rfl rfl (by rw [hof]; rfl) (by rw [hof]; rfl) (by omega) (by rw [hlen, stEnd] at hac; omega) (show 780 < 1000000000 from by decide) (show 3 < 1000000000 from by decide) ?_
  (repeat (first | (refine WC_seq ?_) | (refine WC_region ?_) | (refine WL_nil ?_) | (refine QX_then ?_) | (refine WC_cond_true rfl ?_) | (refine WL_val rfl rfl rfl (by first | exact val_move rfl | exact val_assign rfl | exact val_fieldAddr0 rfl | (apply val_load_blk; exact rfl; (repeat (first | exact .head | apply Pick.tail)); exact rfl) | exact val_nilCheck rfl | exact val_eql rfl rfl) ?_)))
  rw [show 2101 + (x.history.length * 32 + x.votes.length * 72 + x.validators.length * 121 + x.balances.length * 8) - (2101 + (x.history.length * 32 + x.votes.length * 72 + x.validators.length * 121)) = x.balances.length * 8 from by omega]
  have hrbalances := hall.sub (l := 2101 + (x.history.length * 32 + x.votes.length * 72 + x.validators.length * 121)) (k := x.balances.length * 8) (by rw [hlen, stEnd]; omega)
  rw [bs_drop, bs_take, list_balances x hf] at hrbalances
  refine WL_call rfl rfl rfl .nil (fun w' hw' _ => sszEach w' 8 65536 x.balances.length _ _ _ _ (listBbalances x) (hrbalances.pass hw' Take.nil) (listBbalances_len x) rfl (by decide) (by decide) (by omega) (by decide) (by omega)) (fun γ hγ => ?_)
  obtain ⟨lp, lc, ps⟩ := γ
  dsimp only at hγ ⊢
  (repeat (first | (refine WC_seq ?_) | (refine WC_region ?_) | (refine WL_val rfl rfl rfl (by first | exact val_move rfl | exact val_assign rfl | exact val_extract rfl rfl) ?_)))
  refine WL_comm ?_
  rw [List.append_assoc]
  skip
  refine WL_inFail (s := ⟨encState x, 784, of, 4⟩) rfl rfl rfl rfl ?_
  (repeat (first | (refine WC_seq ?_) | (refine WC_block ?_) | (refine WC_region ?_) | (refine WL_val rfl rfl rfl (by first | exact val_move rfl | exact val_len rfl) ?_)))
  refine WC_nil 22 1 ?_
  refine WC_loopS (G := Nat × PP) (fun k => k.1 ≤ x.balances.length) (fun k => [(0, .pointer (some ⟨i, 0, none⟩)), (1, .pointer (some ⟨xb, 0, none⟩)), (89, .slice lp x.balances.length lc), (90, .int .i64 x.balances.length), (91, .int .i64 k.1)])
    (fun k => inΔ i g ⟨encState x, 784, of, 4⟩ ++ ([.blk xb [(1, [u64 x.genesis]), (32, bv x.groot), (1, [u64 x.slot]), (4, bv x.fork.prev), (4, bv x.fork.cur), (1, [u64 x.fork.epoch]), (1, [u64 x.header.slot]), (1, [u64 x.header.proposer]), (32, bv x.header.parent), (32, bv x.header.state), (32, bv x.header.body), (256, rootsV x.blockRoots), (256, rootsV x.stateRoots), (1, [.slice qhistory.1 x.history.length qhistory.2]), (32, bv x.eth1.deposits), (1, [u64 x.eth1.count]), (32, bv x.eth1.block), (1, [.slice qvotes.1 x.votes.length qvotes.2]), (1, [u64 x.deposits]), (1, [.slice qvalidators.1 x.validators.length qvalidators.2]), (1, [.slice k.2.1 k.1 k.2.2]), (256, List.replicate 256 (.int .u8 0)), (8, List.replicate 8 (.int .u64 0)), (1, [.slice none 0 0]), (1, [.slice none 0 0]), (4, List.replicate 4 (.bool false)), (1, [.int .u64 0]), (32, List.replicate 32 (.int .u8 0)), (1, [.int .u64 0]), (32, List.replicate 32 (.int .u8 0)), (1, [.int .u64 0]), (32, List.replicate 32 (.int .u8 0)), (1, [.slice none 0 0]), (384, List.replicate 384 (.int .u8 0)), (48, List.replicate 48 (.int .u8 0)), (384, List.replicate 384 (.int .u8 0)), (48, List.replicate 48 (.int .u8 0))] 49, .sl (.slice k.2.1 k.1 k.2.2) k.1 ((x.balances.take k.1).map u64) 22 1, .sl (.slice qhistory.1 x.history.length qhistory.2) x.history.length (x.history.flatMap bv) 24 32, .sl (.slice qvotes.1 x.votes.length qvotes.2) x.votes.length (x.votes.flatMap eth1C) 34 65, .sl (.slice qvalidators.1 x.validators.length qvalidators.2) x.validators.length (x.validators.flatMap valC) 62 86, .sl (.slice lp x.balances.length lc) x.balances.length (eachV 8 ps) 39 1] ++ eachΔ 8 (listBbalances x) ps)) (fun k => x.balances.length - k.1) (0, (none, 0)) (Nat.zero_le _) ⟨rfl, rfl, rfl, rfl, rfl, trivial⟩ (by (repeat (refine Sel.cons (by repeat (first | exact .head | apply Pick.tail | apply Put.tail)) ?_)); (repeat (first | exact Sel.refl _ | refine Sel.weak ?_))) ?_
  intro ⟨k, qbalances⟩ hk
  dsimp only at hk ⊢
  (repeat (first | (refine WC_seq ?_) | (refine WC_region ?_) | (refine WL_val rfl rfl rfl (by exact val_lss rfl rfl) ?_)))
  refine WC_cond rfl (fun ht => ?_) (fun hf => ?_)
  · have hlt : k < x.balances.length := by have := of_decide_eq_true ht; omega
    have hps : k < ps.length := by omega
    refine WC_slPos (p := lp) (Pick.right (Pick.left (by repeat (first | exact .head | apply Pick.tail | apply Put.tail)))) (by omega) (fun lb hlb => ?_)
    subst hlb
    refine WC_slPos (Pick.right (Pick.right (pick_each hps))) (by decide) (fun eb heb => ?_)
    (repeat (first | (refine WC_seq ?_) | (refine WC_block ?_) | (refine WC_region ?_) | (refine WC_skip ?_)))
    refine WL_val rfl rfl rfl (val_indexAddr01 rfl rfl hlt) ?_
    refine WL_val rfl rfl rfl (val_load_sl (v := .slice (some ⟨eb, 0, none⟩) 8 ps[k].2) rfl (Pick.right (Pick.left (by repeat (first | exact .head | apply Pick.tail | apply Put.tail)))) (by simp [eachV, hps, heb])) ?_
    (repeat (first | (refine WC_seq ?_) | (refine WC_region ?_) | (refine WL_val rfl rfl rfl (by first | exact val_move rfl | exact val_assign rfl) ?_)))
    have hpart : (List.drop (k * 8) (listBbalances x)).take 8 = le8 x.balances[k].toNat := drop_take_flatMap _ 8 _ k hlt (fun _ _ => by simp)
    refine WL_call0 rfl rfl rfl (fun w' hw' => wordRead w' _ _ (by have := SlRd.sl (Pick.right (Pick.right (pick_each hps))) w' hw'; rwa [heb, hpart] at this) (by simp)) (fun _ _ => ?_)
    rw [rd_u64]
    (repeat (first | (refine WC_region ?_) | (refine WL_val rfl rfl rfl (by first | exact val_move rfl | exact val_assign rfl | exact val_fieldAddr0 rfl | (apply val_load_blk; exact rfl; (repeat (first | exact .head | apply Pick.tail)); exact rfl) | exact val_nilCheck rfl | exact val_extract rfl rfl) ?_)))
    refine WL_build1 rfl rfl rfl rfl rfl rfl rfl rfl rfl rfl (fun b9 => ?_)
    refine WL_append (news := [u64 x.balances[k]]) rfl rfl rfl rfl rfl rfl (Pick.tail (Pick.right (Pick.left (by repeat (first | exact .head | apply Pick.tail | apply Put.tail))))) (SlRd.blk (k := 1) (m := 1) (by repeat (first | exact .head | apply Pick.tail | apply Put.tail)) (by exact rfl) rfl (Nat.le_refl _) rfl) (by simp [Value.oneCell']) (by omega) (by omega) (fun p2 c2 => ?_)
    (repeat (refine WL_val rfl rfl rfl (by first | exact val_fieldAddr0 rfl | exact val_nilCheck rfl) ?_))
    (first | (refine WL_store rfl rfl rfl rfl (by repeat (first | exact .head | apply Pick.tail | apply Put.tail)) (by repeat (first | exact PutSeg.one | apply PutSeg.skip | apply PutSeg.next | exact PutSeg.inner rfl)) ?_) | (refine WL_store_agg rfl rfl rfl (by repeat (first | exact .head | apply Pick.tail | apply Put.tail)) (by repeat (first | exact PutSeg.one | apply PutSeg.skip | apply PutSeg.next | exact PutSeg.inner rfl)) ?_))
    (repeat (first | (refine WC_region ?_) | (refine WL_nil ?_) | (refine WL_val rfl rfl rfl (by first | exact val_move rfl | (apply val_addI; exact rfl; exact rfl; omega; omega)) ?_)))
    rw [show List.map u64 (x.balances.take k) ++ [Value.int .u64 (x.balances[k].toNat : Int)] = List.map u64 (x.balances.take (k + 1)) from map_take_succ u64 _ _ hlt]
    exact QX_againS (k + 1, (p2, c2)) (by simp; omega) (by simp; omega) ⟨rfl, rfl, rfl, rfl, rfl, trivial⟩ (by (repeat (refine Sel.cons (by repeat (first | exact .head | apply Pick.tail | apply Put.tail)) ?_)); (repeat (first | exact Sel.refl _ | refine Sel.weak ?_)))
  have hk8 : k = x.balances.length := by have := of_decide_eq_false hf; omega
  subst hk8
  clear hf hk
  have hf : x.Fits := ‹_›
  rw [show x.balances.take x.balances.length = x.balances from List.take_length]
  refine WC_sel (Δ := inΔ i g ⟨encState x, 784, of, 4⟩ ++ [.blk xb [(1, [u64 x.genesis]), (32, bv x.groot), (1, [u64 x.slot]), (4, bv x.fork.prev), (4, bv x.fork.cur), (1, [u64 x.fork.epoch]), (1, [u64 x.header.slot]), (1, [u64 x.header.proposer]), (32, bv x.header.parent), (32, bv x.header.state), (32, bv x.header.body), (256, rootsV x.blockRoots), (256, rootsV x.stateRoots), (1, [.slice qhistory.1 x.history.length qhistory.2]), (32, bv x.eth1.deposits), (1, [u64 x.eth1.count]), (32, bv x.eth1.block), (1, [.slice qvotes.1 x.votes.length qvotes.2]), (1, [u64 x.deposits]), (1, [.slice qvalidators.1 x.validators.length qvalidators.2]), (1, [.slice qbalances.1 x.balances.length qbalances.2]), (256, List.replicate 256 (.int .u8 0)), (8, List.replicate 8 (.int .u64 0)), (1, [.slice none 0 0]), (1, [.slice none 0 0]), (4, List.replicate 4 (.bool false)), (1, [.int .u64 0]), (32, List.replicate 32 (.int .u8 0)), (1, [.int .u64 0]), (32, List.replicate 32 (.int .u8 0)), (1, [.int .u64 0]), (32, List.replicate 32 (.int .u8 0)), (1, [.slice none 0 0]), (384, List.replicate 384 (.int .u8 0)), (48, List.replicate 48 (.int .u8 0)), (384, List.replicate 384 (.int .u8 0)), (48, List.replicate 48 (.int .u8 0))] 49, .sl (.slice qhistory.1 x.history.length qhistory.2) x.history.length (x.history.flatMap bv) 24 32, .sl (.slice qvotes.1 x.votes.length qvotes.2) x.votes.length (x.votes.flatMap eth1C) 34 65, .sl (.slice qvalidators.1 x.validators.length qvalidators.2) x.validators.length (x.validators.flatMap valC) 62 86, .sl (.slice qbalances.1 x.balances.length qbalances.2) x.balances.length (x.balances.map u64) 22 1]) (by repeat (first | exact Sel.nil | refine Sel.cons (by repeat (first | exact .head | apply Pick.tail | apply Put.tail)) ?_)) ?_
  (repeat (first | (refine WC_seq ?_) | (refine WC_block ?_) | (refine WC_region ?_) | (refine WC_exit ?_) | (refine WL_val rfl rfl rfl (by exact val_move rfl) ?_)))
  refine WC_loopS (G := Nat) (fun k => k ≤ 8) (fun k => [(0, .pointer (some ⟨i, 0, none⟩)), (1, .pointer (some ⟨xb, 0, none⟩)), (111, .int .i64 k)]) (fun k => inΔ i g ⟨encState x, 784 + k * 32, of, 4⟩ ++ [.blk xb [(1, [u64 x.genesis]), (32, bv x.groot), (1, [u64 x.slot]), (4, bv x.fork.prev), (4, bv x.fork.cur), (1, [u64 x.fork.epoch]), (1, [u64 x.header.slot]), (1, [u64 x.header.proposer]), (32, bv x.header.parent), (32, bv x.header.state), (32, bv x.header.body), (256, rootsV x.blockRoots), (256, rootsV x.stateRoots), (1, [.slice qhistory.1 x.history.length qhistory.2]), (32, bv x.eth1.deposits), (1, [u64 x.eth1.count]), (32, bv x.eth1.block), (1, [.slice qvotes.1 x.votes.length qvotes.2]), (1, [u64 x.deposits]), (1, [.slice qvalidators.1 x.validators.length qvalidators.2]), (1, [.slice qbalances.1 x.balances.length qbalances.2]), (256, rowsTo x.mixes k), (8, List.replicate 8 (.int .u64 0)), (1, [.slice none 0 0]), (1, [.slice none 0 0]), (4, List.replicate 4 (.bool false)), (1, [.int .u64 0]), (32, List.replicate 32 (.int .u8 0)), (1, [.int .u64 0]), (32, List.replicate 32 (.int .u8 0)), (1, [.int .u64 0]), (32, List.replicate 32 (.int .u8 0)), (1, [.slice none 0 0]), (384, List.replicate 384 (.int .u8 0)), (48, List.replicate 48 (.int .u8 0)), (384, List.replicate 384 (.int .u8 0)), (48, List.replicate 48 (.int .u8 0))] 49, .sl (.slice qhistory.1 x.history.length qhistory.2) x.history.length (x.history.flatMap bv) 24 32, .sl (.slice qvotes.1 x.votes.length qvotes.2) x.votes.length (x.votes.flatMap eth1C) 34 65, .sl (.slice qvalidators.1 x.validators.length qvalidators.2) x.validators.length (x.validators.flatMap valC) 62 86, .sl (.slice qbalances.1 x.balances.length qbalances.2) x.balances.length (x.balances.map u64) 22 1]) (fun k => 8 - k) 0 (Nat.zero_le _) ⟨rfl, rfl, rfl, trivial⟩ (by repeat (first | exact Sel.nil | refine Sel.cons (by repeat (first | exact .head | apply Pick.tail | apply Put.tail)) ?_)) ?_
  intro k hk
  (repeat (first | (refine WC_seq ?_) | (refine WC_region ?_) | (refine WL_val rfl rfl rfl (by exact val_lss rfl rfl) ?_)))
  refine WC_cond rfl (fun ht => ?_) (fun hf => ?_)
  · have hlt : k < 8 := by have := of_decide_eq_true ht; omega
    (repeat (first | (refine WC_seq ?_) | (refine WC_block ?_) | (refine WC_region ?_) | (refine WC_skip ?_) | (refine WL_nil ?_) | (refine QX_then ?_) | (refine WL_val rfl rfl rfl (by first | exact val_move rfl | exact val_assign rfl) ?_)))
    (refine WC_drawA [] mixed (by kernel_rfl) (by repeat (first | exact Sel.nil | refine Sel.cons (by repeat (first | exact .head | apply Pick.tail | apply Put.tail)) ?_)) ?_)
    (repeat (refine WD_p rfl rfl rfl (by first | exact val_move rfl | exact val_fieldAddr0 rfl | exact val_nilCheck rfl) ?_))
    refine WD_p rfl rfl rfl (val_indexAddr_arrC rfl rfl hlt) ?_
    (repeat (refine WD_p rfl rfl rfl (by first | exact val_move rfl | exact val_slice_arr rfl) ?_))
    (refine WD_t ?_)
    refine WL_inBytes (s := ⟨encState x, 784 + k * 32, of, 4⟩) hall rfl rfl rfl rfl (by decide) (show 784 + k * 32 + 32 ≤ (encState x).length from by omega) hl1 ?_
    (refine WL_t ?_)
    skip
    (refine WD_t ?_)
    have hr := hall.part (l := 784 + k * 32) (k := 32) (by omega) (by decide)
    rw [bs_drop, bs_take, row_at (at_mixes x ‹x.Fits›) k hlt] at hr
    refine WL_copy (k := 32) (new := [(32, bv x.mixes[k])]) rfl rfl rfl rfl hr.rd rfl (by simp [flat, bv, List.take_of_length_le]) (Put.right (by repeat (first | exact .head | apply Pick.tail | apply Put.tail))) (by repeat (first | exact PutSeg.inner (Nat.ble_eq_true_of_le (by omega)) | apply PutSeg.skip)) ?_
    dsimp only
    rw [rowsTo_succ x.mixes k hlt]
    (refine WL_t ?_)
    refine WD_nil ?_
    rw [IS.skip_row]
    (repeat (first | (refine WC_region ?_) | (refine WL_nil ?_) | (refine WL_val rfl rfl rfl (by first | exact val_move rfl | (apply val_addI; exact rfl; exact rfl; omega; omega)) ?_)))
    exact QX_againS (k + 1) (by omega) (by omega) ⟨rfl, rfl, rfl, trivial⟩ (by repeat (first | exact Sel.nil | refine Sel.cons (by repeat (first | exact .head | apply Pick.tail | apply Put.tail)) ?_))
  have hk8 : k = 8 := by have := of_decide_eq_false hf; omega
  subst hk8
  clear hf hk
  rw [rowsTo_all]
  (repeat (first | (refine WC_seq ?_) | (refine WC_block ?_) | (refine WC_region ?_) | (refine WC_exit ?_) | (refine WL_val rfl rfl rfl (by exact val_move rfl) ?_)))
  refine WC_loopS (G := Nat) (fun k => k ≤ 8) (fun k => [(0, .pointer (some ⟨i, 0, none⟩)), (1, .pointer (some ⟨xb, 0, none⟩)), (124, .int .i64 k)]) (fun k => inΔ i g ⟨encState x, 1040 + k * 8, of, 4⟩ ++ [.blk xb [(1, [u64 x.genesis]), (32, bv x.groot), (1, [u64 x.slot]), (4, bv x.fork.prev), (4, bv x.fork.cur), (1, [u64 x.fork.epoch]), (1, [u64 x.header.slot]), (1, [u64 x.header.proposer]), (32, bv x.header.parent), (32, bv x.header.state), (32, bv x.header.body), (256, rootsV x.blockRoots), (256, rootsV x.stateRoots), (1, [.slice qhistory.1 x.history.length qhistory.2]), (32, bv x.eth1.deposits), (1, [u64 x.eth1.count]), (32, bv x.eth1.block), (1, [.slice qvotes.1 x.votes.length qvotes.2]), (1, [u64 x.deposits]), (1, [.slice qvalidators.1 x.validators.length qvalidators.2]), (1, [.slice qbalances.1 x.balances.length qbalances.2]), (256, rootsV x.mixes), (8, numsTo x.slashings k), (1, [.slice none 0 0]), (1, [.slice none 0 0]), (4, List.replicate 4 (.bool false)), (1, [.int .u64 0]), (32, List.replicate 32 (.int .u8 0)), (1, [.int .u64 0]), (32, List.replicate 32 (.int .u8 0)), (1, [.int .u64 0]), (32, List.replicate 32 (.int .u8 0)), (1, [.slice none 0 0]), (384, List.replicate 384 (.int .u8 0)), (48, List.replicate 48 (.int .u8 0)), (384, List.replicate 384 (.int .u8 0)), (48, List.replicate 48 (.int .u8 0))] 49, .sl (.slice qhistory.1 x.history.length qhistory.2) x.history.length (x.history.flatMap bv) 24 32, .sl (.slice qvotes.1 x.votes.length qvotes.2) x.votes.length (x.votes.flatMap eth1C) 34 65, .sl (.slice qvalidators.1 x.validators.length qvalidators.2) x.validators.length (x.validators.flatMap valC) 62 86, .sl (.slice qbalances.1 x.balances.length qbalances.2) x.balances.length (x.balances.map u64) 22 1]) (fun k => 8 - k) 0 (Nat.zero_le _) ⟨rfl, rfl, rfl, trivial⟩ (by repeat (first | exact Sel.nil | refine Sel.cons (by repeat (first | exact .head | apply Pick.tail | apply Put.tail)) ?_)) ?_
  intro k hk
  (repeat (first | (refine WC_seq ?_) | (refine WC_region ?_) | (refine WL_val rfl rfl rfl (by exact val_lss rfl rfl) ?_)))
  refine WC_cond rfl (fun ht => ?_) (fun hf => ?_)
  · have hlt : k < 8 := by have := of_decide_eq_true ht; omega
    (repeat (first | (refine WC_seq ?_) | (refine WC_block ?_) | (refine WC_region ?_) | (refine WC_skip ?_) | (refine WL_nil ?_) | (refine QX_then ?_) | (refine WL_val rfl rfl rfl (by first | exact val_move rfl | exact val_assign rfl) ?_)))
    (refine WC_drawI [0,1,2,4,5,3,6,7] [] mixed (by kernel_rfl) (by exact rfl) (by exact rfl) (by repeat (first | exact Sel.nil | refine Sel.cons (by repeat (first | exact .head | apply Pick.tail | apply Put.tail)) ?_)) ?_)
    (repeat (refine WD_p rfl rfl rfl (by first | exact val_move rfl | exact val_fieldAddr0 rfl | exact val_nilCheck rfl) ?_))
    (refine WD_t ?_)
    refine WL_inU64 (s := ⟨encState x, 1040 + k * 8, of, 4⟩) (k := x.slashings[k].toNat) hall rfl rfl rfl (show 1040 + k * 8 + 8 ≤ (encState x).length from by omega) hl1 ((congrArg (rdTo · 8) (num_at (at_slashings x ‹x.Fits›) k hlt)).trans (rd_u64 _)) ?_
    (refine WL_t ?_)
    skip
    refine WD_p rfl rfl rfl (val_indexAddr_arrC rfl rfl hlt) ?_
    (refine WD_t ?_)
    refine WL_store rfl rfl rfl rfl (Put.right (by repeat (first | exact .head | apply Pick.tail | apply Put.tail))) (by repeat (first | exact PutSeg.inner (Nat.ble_eq_true_of_le (by omega)) | apply PutSeg.skip)) ?_
    simp only [Nat.mul_one]
    rw [numsTo_succ x.slashings k hlt]
    (refine WL_t ?_)
    refine WD_nil ?_
    rw [IS.skip_row]
    (repeat (first | (refine WC_region ?_) | (refine WL_nil ?_) | (refine WL_val rfl rfl rfl (by first | exact val_move rfl | (apply val_addI; exact rfl; exact rfl; omega; omega)) ?_)))
    exact QX_againS (k + 1) (by omega) (by omega) ⟨rfl, rfl, rfl, trivial⟩ (by repeat (first | exact Sel.nil | refine Sel.cons (by repeat (first | exact .head | apply Pick.tail | apply Put.tail)) ?_))
  have hk8 : k = 8 := by have := of_decide_eq_false hf; omega
  subst hk8
  clear hf hk
  rw [numsTo_all]
  (repeat (first | (refine WC_seq ?_) | (refine WC_region ?_) | (refine WC_exit ?_) | (refine WL_val rfl rfl rfl (by exact val_move rfl) ?_)))
  refine WL_inLater (s := ⟨encState x, 1104, of, 4⟩) (lo := 2101 + (x.history.length * 32 + x.votes.length * 72 + x.validators.length * 121 + x.balances.length * 8)) (hi := 2101 + (x.history.length * 32 + x.votes.length * 72 + x.validators.length * 121 + x.balances.length * 8 + x.previous.length * 1)) rfl rfl rfl (by rw [hof]; rfl) (by rw [hof]; rfl) (by omega) (by rw [hlen, stEnd] at hac; omega) (show 1104 < 1000000000 from by decide) (show 4 < 1000000000 from by decide) ?_
  (repeat (first | (refine WC_seq ?_) | (refine WC_region ?_) | (refine WL_nil ?_) | (refine QX_then ?_) | (refine WC_cond_true rfl ?_) | (refine WL_val rfl rfl rfl (by first | exact val_move rfl | exact val_assign rfl | exact val_fieldAddr0 rfl | (apply val_load_blk; exact rfl; (repeat (first | exact .head | apply Pick.tail)); exact rfl) | exact val_nilCheck rfl | exact val_eql rfl rfl) ?_)))
  rw [show 2101 + (x.history.length * 32 + x.votes.length * 72 + x.validators.length * 121 + x.balances.length * 8 + x.previous.length * 1) - (2101 + (x.history.length * 32 + x.votes.length * 72 + x.validators.length * 121 + x.balances.length * 8)) = x.previous.length * 1 from by omega]
  have hrprevious := hall.sub (l := 2101 + (x.history.length * 32 + x.votes.length * 72 + x.validators.length * 121 + x.balances.length * 8)) (k := x.previous.length * 1) (by rw [hlen, stEnd]; omega)
  rw [bs_drop, bs_take, list_previous x hf] at hrprevious
  refine WL_call rfl rfl rfl .nil (fun w' hw' _ => sszEach w' 1 65536 x.previous.length _ _ _ _ (listBprevious x) (hrprevious.pass hw' Take.nil) (listBprevious_len x) rfl (by decide) (by decide) (by omega) (by decide) (by omega)) (fun γ hγ => ?_)
  obtain ⟨lp, lc, ps⟩ := γ
  dsimp only at hγ ⊢
  (repeat (first | (refine WC_seq ?_) | (refine WC_region ?_) | (refine WL_val rfl rfl rfl (by first | exact val_move rfl | exact val_assign rfl | exact val_extract rfl rfl) ?_)))
  refine WL_comm ?_
  rw [List.append_assoc]
  skip
  refine WL_inFail (s := ⟨encState x, 1108, of, 5⟩) rfl rfl rfl rfl ?_
  (repeat (first | (refine WC_seq ?_) | (refine WC_block ?_) | (refine WC_region ?_) | (refine WL_val rfl rfl rfl (by first | exact val_move rfl | exact val_len rfl) ?_)))
  refine WC_nil 5 1 ?_
  refine WC_loopS (G := Nat × PP) (fun k => k.1 ≤ x.previous.length) (fun k => [(0, .pointer (some ⟨i, 0, none⟩)), (1, .pointer (some ⟨xb, 0, none⟩)), (150, .slice lp x.previous.length lc), (151, .int .i64 x.previous.length), (152, .int .i64 k.1)])
    (fun k => inΔ i g ⟨encState x, 1108, of, 5⟩ ++ ([.blk xb [(1, [u64 x.genesis]), (32, bv x.groot), (1, [u64 x.slot]), (4, bv x.fork.prev), (4, bv x.fork.cur), (1, [u64 x.fork.epoch]), (1, [u64 x.header.slot]), (1, [u64 x.header.proposer]), (32, bv x.header.parent), (32, bv x.header.state), (32, bv x.header.body), (256, rootsV x.blockRoots), (256, rootsV x.stateRoots), (1, [.slice qhistory.1 x.history.length qhistory.2]), (32, bv x.eth1.deposits), (1, [u64 x.eth1.count]), (32, bv x.eth1.block), (1, [.slice qvotes.1 x.votes.length qvotes.2]), (1, [u64 x.deposits]), (1, [.slice qvalidators.1 x.validators.length qvalidators.2]), (1, [.slice qbalances.1 x.balances.length qbalances.2]), (256, rootsV x.mixes), (8, u64sV x.slashings), (1, [.slice k.2.1 k.1 k.2.2]), (1, [.slice none 0 0]), (4, List.replicate 4 (.bool false)), (1, [.int .u64 0]), (32, List.replicate 32 (.int .u8 0)), (1, [.int .u64 0]), (32, List.replicate 32 (.int .u8 0)), (1, [.int .u64 0]), (32, List.replicate 32 (.int .u8 0)), (1, [.slice none 0 0]), (384, List.replicate 384 (.int .u8 0)), (48, List.replicate 48 (.int .u8 0)), (384, List.replicate 384 (.int .u8 0)), (48, List.replicate 48 (.int .u8 0))] 49, .sl (.slice k.2.1 k.1 k.2.2) k.1 (bs (x.previous.take k.1)) 5 1, .sl (.slice qhistory.1 x.history.length qhistory.2) x.history.length (x.history.flatMap bv) 24 32, .sl (.slice qvotes.1 x.votes.length qvotes.2) x.votes.length (x.votes.flatMap eth1C) 34 65, .sl (.slice qvalidators.1 x.validators.length qvalidators.2) x.validators.length (x.validators.flatMap valC) 62 86, .sl (.slice qbalances.1 x.balances.length qbalances.2) x.balances.length (x.balances.map u64) 22 1, .sl (.slice lp x.previous.length lc) x.previous.length (eachV 1 ps) 39 1] ++ eachΔ 1 (listBprevious x) ps)) (fun k => x.previous.length - k.1) (0, (none, 0)) (Nat.zero_le _) ⟨rfl, rfl, rfl, rfl, rfl, trivial⟩ (by (repeat (refine Sel.cons (by repeat (first | exact .head | apply Pick.tail | apply Put.tail)) ?_)); (repeat (first | exact Sel.refl _ | refine Sel.weak ?_))) ?_
  intro ⟨k, qprevious⟩ hk
  dsimp only at hk ⊢
  (repeat (first | (refine WC_seq ?_) | (refine WC_region ?_) | (refine WL_val rfl rfl rfl (by exact val_lss rfl rfl) ?_)))
  refine WC_cond rfl (fun ht => ?_) (fun hf => ?_)
  · have hlt : k < x.previous.length := by have := of_decide_eq_true ht; omega
    have hps : k < ps.length := by omega
    refine WC_slPos (p := lp) (Pick.right (Pick.left (by repeat (first | exact .head | apply Pick.tail | apply Put.tail)))) (by omega) (fun lb hlb => ?_)
    subst hlb
    refine WC_slPos (Pick.right (Pick.right (pick_each hps))) (by decide) (fun eb heb => ?_)
    (repeat (first | (refine WC_seq ?_) | (refine WC_block ?_) | (refine WC_region ?_) | (refine WC_skip ?_)))
    refine WL_val rfl rfl rfl (val_indexAddr01 rfl rfl hlt) ?_
    refine WL_val rfl rfl rfl (val_load_sl (v := .slice (some ⟨eb, 0, none⟩) 1 ps[k].2) rfl (Pick.right (Pick.left (by repeat (first | exact .head | apply Pick.tail | apply Put.tail)))) (by simp [eachV, hps, heb])) ?_
    (repeat (first | (refine WL_nil ?_) | (refine QX_then ?_) | (refine WL_val rfl rfl rfl (by exact val_assign rfl) ?_)))
    have hpart : (List.drop (k * 1) (listBprevious x)).take 1 = [x.previous[k]] := drop_take_flatMap _ 1 _ k hlt (fun _ _ => rfl)
    refine WC_drawA [_, _] mixed (by kernel_rfl) (.cons (Pick.right (Pick.right (pick_each hps))) (.cons (Pick.erase (i := 2) rfl) .nil)) ?_
    (repeat (first | (refine WD_p rfl rfl rfl (by first | exact val_move rfl | exact val_fieldAddr0 rfl | exact val_nilCheck rfl) ?_) | (refine WD_q rfl rfl rfl (by apply val_load_blk; exact rfl; (repeat (first | exact .head | apply Pick.tail)); exact rfl) ?_)))
    refine WD_p rfl rfl rfl (val_indexAddrN1 (i := 0) rfl rfl (by decide)) ?_
    refine WD_q rfl rfl rfl (val_load_at (i := 0) (v := by8 x.previous[k]) rfl (Rd.slP heb .head) (by rw [hpart]; rfl)) ?_
    skip
    (refine WD_g ?_)
    refine WL_build1 rfl rfl rfl rfl rfl rfl rfl rfl rfl rfl (fun b9 => ?_)
    refine WL_g (.cons (.tail (Pick.right (Pick.right (pick_each hps)))) (.cons (Pick.erase (i := 3) rfl) .nil)) ?_
    skip
    (refine WD_t ?_)
    refine WL_append rfl rfl rfl rfl rfl rfl (Pick.tail (Pick.right (Pick.left (by repeat (first | exact .head | apply Pick.tail | apply Put.tail))))) (SlRd.blk (k := 1) (m := 1) (by repeat (first | exact .head | apply Pick.tail | apply Put.tail)) (by exact rfl) rfl (Nat.le_refl _) rfl) (by simp [Value.oneCell']) (by omega) (by omega) (fun p2 c2 => ?_)
    (refine WL_t ?_)
    (repeat (refine WD_p rfl rfl rfl (by first | exact val_fieldAddr0 rfl | exact val_nilCheck rfl) ?_))
    (refine WD_t ?_)
    (first | (refine WL_store rfl rfl rfl rfl (by repeat (first | exact .head | apply Pick.tail | apply Put.tail)) (by repeat (first | exact PutSeg.one | apply PutSeg.skip | apply PutSeg.next | exact PutSeg.inner rfl)) ?_) | (refine WL_store_agg rfl rfl rfl (by repeat (first | exact .head | apply Pick.tail | apply Put.tail)) (by repeat (first | exact PutSeg.one | apply PutSeg.skip | apply PutSeg.next | exact PutSeg.inner rfl)) ?_))
    (refine WL_t ?_)
    refine WD_nil ?_
    (repeat (first | (refine WC_region ?_) | (refine WL_nil ?_) | (refine WL_val rfl rfl rfl (by first | exact val_move rfl | (apply val_addI; exact rfl; exact rfl; omega; omega)) ?_)))
    rw [show bs (x.previous.take k) ++ [by8 x.previous[k]] = bs (x.previous.take (k + 1)) from map_take_succ by8 _ _ hlt]
    exact QX_againS (k + 1, (p2, c2)) (by simp; omega) (by simp; omega) ⟨rfl, rfl, rfl, rfl, rfl, trivial⟩ (by (repeat (refine Sel.cons (by repeat (first | exact .head | apply Pick.tail | apply Put.tail)) ?_)); (repeat (first | exact Sel.refl _ | refine Sel.weak ?_)))
  have hk8 : k = x.previous.length := by have := of_decide_eq_false hf; omega
  subst hk8
  clear hf hk
  have hf : x.Fits := ‹_›
  rw [show x.previous.take x.previous.length = x.previous from List.take_length]
  refine WC_sel (Δ := inΔ i g ⟨encState x, 1108, of, 5⟩ ++ [.blk xb [(1, [u64 x.genesis]), (32, bv x.groot), (1, [u64 x.slot]), (4, bv x.fork.prev), (4, bv x.fork.cur), (1, [u64 x.fork.epoch]), (1, [u64 x.header.slot]), (1, [u64 x.header.proposer]), (32, bv x.header.parent), (32, bv x.header.state), (32, bv x.header.body), (256, rootsV x.blockRoots), (256, rootsV x.stateRoots), (1, [.slice qhistory.1 x.history.length qhistory.2]), (32, bv x.eth1.deposits), (1, [u64 x.eth1.count]), (32, bv x.eth1.block), (1, [.slice qvotes.1 x.votes.length qvotes.2]), (1, [u64 x.deposits]), (1, [.slice qvalidators.1 x.validators.length qvalidators.2]), (1, [.slice qbalances.1 x.balances.length qbalances.2]), (256, rootsV x.mixes), (8, u64sV x.slashings), (1, [.slice qprevious.1 x.previous.length qprevious.2]), (1, [.slice none 0 0]), (4, List.replicate 4 (.bool false)), (1, [.int .u64 0]), (32, List.replicate 32 (.int .u8 0)), (1, [.int .u64 0]), (32, List.replicate 32 (.int .u8 0)), (1, [.int .u64 0]), (32, List.replicate 32 (.int .u8 0)), (1, [.slice none 0 0]), (384, List.replicate 384 (.int .u8 0)), (48, List.replicate 48 (.int .u8 0)), (384, List.replicate 384 (.int .u8 0)), (48, List.replicate 48 (.int .u8 0))] 49, .sl (.slice qhistory.1 x.history.length qhistory.2) x.history.length (x.history.flatMap bv) 24 32, .sl (.slice qvotes.1 x.votes.length qvotes.2) x.votes.length (x.votes.flatMap eth1C) 34 65, .sl (.slice qvalidators.1 x.validators.length qvalidators.2) x.validators.length (x.validators.flatMap valC) 62 86, .sl (.slice qbalances.1 x.balances.length qbalances.2) x.balances.length (x.balances.map u64) 22 1, .sl (.slice qprevious.1 x.previous.length qprevious.2) x.previous.length (bs x.previous) 5 1]) (by repeat (first | exact Sel.nil | refine Sel.cons (by repeat (first | exact .head | apply Pick.tail | apply Put.tail)) ?_)) ?_
  (repeat (first | (refine WC_seq ?_) | (refine WC_region ?_) | (refine WC_exit ?_) | (refine WL_val rfl rfl rfl (by exact val_move rfl) ?_)))
  refine WL_inLater (s := ⟨encState x, 1108, of, 5⟩) (lo := 2101 + (x.history.length * 32 + x.votes.length * 72 + x.validators.length * 121 + x.balances.length * 8 + x.previous.length * 1)) (hi := 2101 + (x.history.length * 32 + x.votes.length * 72 + x.validators.length * 121 + x.balances.length * 8 + x.previous.length * 1 + x.current.length * 1)) rfl rfl rfl (by rw [hof]; rfl) (by rw [hof]; rfl) (by omega) (by rw [hlen, stEnd] at hac; omega) (show 1108 < 1000000000 from by decide) (show 5 < 1000000000 from by decide) ?_
  (repeat (first | (refine WC_seq ?_) | (refine WC_region ?_) | (refine WL_nil ?_) | (refine QX_then ?_) | (refine WC_cond_true rfl ?_) | (refine WL_val rfl rfl rfl (by first | exact val_move rfl | exact val_assign rfl | exact val_fieldAddr0 rfl | (apply val_load_blk; exact rfl; (repeat (first | exact .head | apply Pick.tail)); exact rfl) | exact val_nilCheck rfl | exact val_eql rfl rfl) ?_)))
  rw [show 2101 + (x.history.length * 32 + x.votes.length * 72 + x.validators.length * 121 + x.balances.length * 8 + x.previous.length * 1 + x.current.length * 1) - (2101 + (x.history.length * 32 + x.votes.length * 72 + x.validators.length * 121 + x.balances.length * 8 + x.previous.length * 1)) = x.current.length * 1 from by omega]
  have hrcurrent := hall.sub (l := 2101 + (x.history.length * 32 + x.votes.length * 72 + x.validators.length * 121 + x.balances.length * 8 + x.previous.length * 1)) (k := x.current.length * 1) (by rw [hlen, stEnd]; omega)
  rw [bs_drop, bs_take, list_current x hf] at hrcurrent
  refine WL_call rfl rfl rfl .nil (fun w' hw' _ => sszEach w' 1 65536 x.current.length _ _ _ _ (listBcurrent x) (hrcurrent.pass hw' Take.nil) (listBcurrent_len x) rfl (by decide) (by decide) (by omega) (by decide) (by omega)) (fun γ hγ => ?_)
  obtain ⟨lp, lc, ps⟩ := γ
  dsimp only at hγ ⊢
  (repeat (first | (refine WC_seq ?_) | (refine WC_region ?_) | (refine WL_val rfl rfl rfl (by first | exact val_move rfl | exact val_assign rfl | exact val_extract rfl rfl) ?_)))
  refine WL_comm ?_
  rw [List.append_assoc]
  skip
  refine WL_inFail (s := ⟨encState x, 1112, of, 6⟩) rfl rfl rfl rfl ?_
  (repeat (first | (refine WC_seq ?_) | (refine WC_block ?_) | (refine WC_region ?_) | (refine WL_val rfl rfl rfl (by first | exact val_move rfl | exact val_len rfl) ?_)))
  refine WC_nil 5 1 ?_
  refine WC_loopS (G := Nat × PP) (fun k => k.1 ≤ x.current.length) (fun k => [(0, .pointer (some ⟨i, 0, none⟩)), (1, .pointer (some ⟨xb, 0, none⟩)), (184, .slice lp x.current.length lc), (185, .int .i64 x.current.length), (186, .int .i64 k.1)])
    (fun k => inΔ i g ⟨encState x, 1112, of, 6⟩ ++ ([.blk xb [(1, [u64 x.genesis]), (32, bv x.groot), (1, [u64 x.slot]), (4, bv x.fork.prev), (4, bv x.fork.cur), (1, [u64 x.fork.epoch]), (1, [u64 x.header.slot]), (1, [u64 x.header.proposer]), (32, bv x.header.parent), (32, bv x.header.state), (32, bv x.header.body), (256, rootsV x.blockRoots), (256, rootsV x.stateRoots), (1, [.slice qhistory.1 x.history.length qhistory.2]), (32, bv x.eth1.deposits), (1, [u64 x.eth1.count]), (32, bv x.eth1.block), (1, [.slice qvotes.1 x.votes.length qvotes.2]), (1, [u64 x.deposits]), (1, [.slice qvalidators.1 x.validators.length qvalidators.2]), (1, [.slice qbalances.1 x.balances.length qbalances.2]), (256, rootsV x.mixes), (8, u64sV x.slashings), (1, [.slice qprevious.1 x.previous.length qprevious.2]), (1, [.slice k.2.1 k.1 k.2.2]), (4, List.replicate 4 (.bool false)), (1, [.int .u64 0]), (32, List.replicate 32 (.int .u8 0)), (1, [.int .u64 0]), (32, List.replicate 32 (.int .u8 0)), (1, [.int .u64 0]), (32, List.replicate 32 (.int .u8 0)), (1, [.slice none 0 0]), (384, List.replicate 384 (.int .u8 0)), (48, List.replicate 48 (.int .u8 0)), (384, List.replicate 384 (.int .u8 0)), (48, List.replicate 48 (.int .u8 0))] 49, .sl (.slice k.2.1 k.1 k.2.2) k.1 (bs (x.current.take k.1)) 5 1, .sl (.slice qhistory.1 x.history.length qhistory.2) x.history.length (x.history.flatMap bv) 24 32, .sl (.slice qvotes.1 x.votes.length qvotes.2) x.votes.length (x.votes.flatMap eth1C) 34 65, .sl (.slice qvalidators.1 x.validators.length qvalidators.2) x.validators.length (x.validators.flatMap valC) 62 86, .sl (.slice qbalances.1 x.balances.length qbalances.2) x.balances.length (x.balances.map u64) 22 1, .sl (.slice qprevious.1 x.previous.length qprevious.2) x.previous.length (bs x.previous) 5 1, .sl (.slice lp x.current.length lc) x.current.length (eachV 1 ps) 39 1] ++ eachΔ 1 (listBcurrent x) ps)) (fun k => x.current.length - k.1) (0, (none, 0)) (Nat.zero_le _) ⟨rfl, rfl, rfl, rfl, rfl, trivial⟩ (by (repeat (refine Sel.cons (by repeat (first | exact .head | apply Pick.tail | apply Put.tail)) ?_)); (repeat (first | exact Sel.refl _ | refine Sel.weak ?_))) ?_
  intro ⟨k, qcurrent⟩ hk
  dsimp only at hk ⊢
  (repeat (first | (refine WC_seq ?_) | (refine WC_region ?_) | (refine WL_val rfl rfl rfl (by exact val_lss rfl rfl) ?_)))
  refine WC_cond rfl (fun ht => ?_) (fun hf => ?_)
  · have hlt : k < x.current.length := by have := of_decide_eq_true ht; omega
    have hps : k < ps.length := by omega
    refine WC_slPos (p := lp) (Pick.right (Pick.left (by repeat (first | exact .head | apply Pick.tail | apply Put.tail)))) (by omega) (fun lb hlb => ?_)
    subst hlb
    refine WC_slPos (Pick.right (Pick.right (pick_each hps))) (by decide) (fun eb heb => ?_)
    (repeat (first | (refine WC_seq ?_) | (refine WC_block ?_) | (refine WC_region ?_) | (refine WC_skip ?_)))
    refine WL_val rfl rfl rfl (val_indexAddr01 rfl rfl hlt) ?_
    refine WL_val rfl rfl rfl (val_load_sl (v := .slice (some ⟨eb, 0, none⟩) 1 ps[k].2) rfl (Pick.right (Pick.left (by repeat (first | exact .head | apply Pick.tail | apply Put.tail)))) (by simp [eachV, hps, heb])) ?_
    (repeat (first | (refine WL_nil ?_) | (refine QX_then ?_) | (refine WL_val rfl rfl rfl (by exact val_assign rfl) ?_)))
    have hpart : (List.drop (k * 1) (listBcurrent x)).take 1 = [x.current[k]] := drop_take_flatMap _ 1 _ k hlt (fun _ _ => rfl)
    refine WC_drawA [_, _] mixed (by kernel_rfl) (.cons (Pick.right (Pick.right (pick_each hps))) (.cons (Pick.erase (i := 2) rfl) .nil)) ?_
    (repeat (first | (refine WD_p rfl rfl rfl (by first | exact val_move rfl | exact val_fieldAddr0 rfl | exact val_nilCheck rfl) ?_) | (refine WD_q rfl rfl rfl (by apply val_load_blk; exact rfl; (repeat (first | exact .head | apply Pick.tail)); exact rfl) ?_)))
    refine WD_p rfl rfl rfl (val_indexAddrN1 (i := 0) rfl rfl (by decide)) ?_
    refine WD_q rfl rfl rfl (val_load_at (i := 0) (v := by8 x.current[k]) rfl (Rd.slP heb .head) (by rw [hpart]; rfl)) ?_
    skip
    (refine WD_g ?_)
    refine WL_build1 rfl rfl rfl rfl rfl rfl rfl rfl rfl rfl (fun b9 => ?_)
    refine WL_g (.cons (.tail (Pick.right (Pick.right (pick_each hps)))) (.cons (Pick.erase (i := 3) rfl) .nil)) ?_
    skip
    (refine WD_t ?_)
    refine WL_append rfl rfl rfl rfl rfl rfl (Pick.tail (Pick.right (Pick.left (by repeat (first | exact .head | apply Pick.tail | apply Put.tail))))) (SlRd.blk (k := 1) (m := 1) (by repeat (first | exact .head | apply Pick.tail | apply Put.tail)) (by exact rfl) rfl (Nat.le_refl _) rfl) (by simp [Value.oneCell']) (by omega) (by omega) (fun p2 c2 => ?_)
    (refine WL_t ?_)
    (repeat (refine WD_p rfl rfl rfl (by first | exact val_fieldAddr0 rfl | exact val_nilCheck rfl) ?_))
    (refine WD_t ?_)
    (first | (refine WL_store rfl rfl rfl rfl (by repeat (first | exact .head | apply Pick.tail | apply Put.tail)) (by repeat (first | exact PutSeg.one | apply PutSeg.skip | apply PutSeg.next | exact PutSeg.inner rfl)) ?_) | (refine WL_store_agg rfl rfl rfl (by repeat (first | exact .head | apply Pick.tail | apply Put.tail)) (by repeat (first | exact PutSeg.one | apply PutSeg.skip | apply PutSeg.next | exact PutSeg.inner rfl)) ?_))
    (refine WL_t ?_)
    refine WD_nil ?_
    (repeat (first | (refine WC_region ?_) | (refine WL_nil ?_) | (refine WL_val rfl rfl rfl (by first | exact val_move rfl | (apply val_addI; exact rfl; exact rfl; omega; omega)) ?_)))
    rw [show bs (x.current.take k) ++ [by8 x.current[k]] = bs (x.current.take (k + 1)) from map_take_succ by8 _ _ hlt]
    exact QX_againS (k + 1, (p2, c2)) (by simp; omega) (by simp; omega) ⟨rfl, rfl, rfl, rfl, rfl, trivial⟩ (by (repeat (refine Sel.cons (by repeat (first | exact .head | apply Pick.tail | apply Put.tail)) ?_)); (repeat (first | exact Sel.refl _ | refine Sel.weak ?_)))
  have hk8 : k = x.current.length := by have := of_decide_eq_false hf; omega
  subst hk8
  clear hf hk
  have hf : x.Fits := ‹_›
  rw [show x.current.take x.current.length = x.current from List.take_length]
  refine WC_sel (Δ := inΔ i g ⟨encState x, 1112, of, 6⟩ ++ [.blk xb [(1, [u64 x.genesis]), (32, bv x.groot), (1, [u64 x.slot]), (4, bv x.fork.prev), (4, bv x.fork.cur), (1, [u64 x.fork.epoch]), (1, [u64 x.header.slot]), (1, [u64 x.header.proposer]), (32, bv x.header.parent), (32, bv x.header.state), (32, bv x.header.body), (256, rootsV x.blockRoots), (256, rootsV x.stateRoots), (1, [.slice qhistory.1 x.history.length qhistory.2]), (32, bv x.eth1.deposits), (1, [u64 x.eth1.count]), (32, bv x.eth1.block), (1, [.slice qvotes.1 x.votes.length qvotes.2]), (1, [u64 x.deposits]), (1, [.slice qvalidators.1 x.validators.length qvalidators.2]), (1, [.slice qbalances.1 x.balances.length qbalances.2]), (256, rootsV x.mixes), (8, u64sV x.slashings), (1, [.slice qprevious.1 x.previous.length qprevious.2]), (1, [.slice qcurrent.1 x.current.length qcurrent.2]), (4, List.replicate 4 (.bool false)), (1, [.int .u64 0]), (32, List.replicate 32 (.int .u8 0)), (1, [.int .u64 0]), (32, List.replicate 32 (.int .u8 0)), (1, [.int .u64 0]), (32, List.replicate 32 (.int .u8 0)), (1, [.slice none 0 0]), (384, List.replicate 384 (.int .u8 0)), (48, List.replicate 48 (.int .u8 0)), (384, List.replicate 384 (.int .u8 0)), (48, List.replicate 48 (.int .u8 0))] 49, .sl (.slice qhistory.1 x.history.length qhistory.2) x.history.length (x.history.flatMap bv) 24 32, .sl (.slice qvotes.1 x.votes.length qvotes.2) x.votes.length (x.votes.flatMap eth1C) 34 65, .sl (.slice qvalidators.1 x.validators.length qvalidators.2) x.validators.length (x.validators.flatMap valC) 62 86, .sl (.slice qbalances.1 x.balances.length qbalances.2) x.balances.length (x.balances.map u64) 22 1, .sl (.slice qprevious.1 x.previous.length qprevious.2) x.previous.length (bs x.previous) 5 1, .sl (.slice qcurrent.1 x.current.length qcurrent.2) x.current.length (bs x.current) 5 1]) (by repeat (first | exact Sel.nil | refine Sel.cons (by repeat (first | exact .head | apply Pick.tail | apply Put.tail)) ?_)) ?_
  (repeat (first | (refine WC_seq ?_) | (refine WC_region ?_) | (refine WC_exit ?_) | (refine WL_val rfl rfl rfl (by exact val_move rfl) ?_)))
  refine WL_inBytes (s := ⟨encState x, 1112, of, 6⟩) hall rfl rfl rfl rfl (by decide) (show 1112 + 1 ≤ (encState x).length from by omega) hl1 ?_
  skip
  have hrbits := hall.part (l := 1112) (k := 1) (by omega) (by decide)
  rw [bs_drop, bs_take, at_bits x hf] at hrbits
  refine WL_call1 rfl rfl rfl (fun w' hw' => bitsReadVector w' (bitsV x.bits.toList) 4 _ (by have := hrbits.pass hw' Take.nil; simpa using this) (by decide) (by decide) (by simp) (fun _ => bits_last x.bits)) (fun gb _ => ?_)
  (repeat (first | (refine WC_seq ?_) | (refine WC_region ?_) | (refine WL_val rfl rfl rfl (by first | exact val_move rfl | exact val_assign rfl | exact val_fieldAddr0 rfl | exact val_nilCheck rfl | exact val_extract rfl rfl | exact val_slice_arr rfl) ?_)))
  rw [bits_take x.bits]
  refine WL_mid ?_
  refine WL_copy (k := 4) (new := [(4, boolsV x.bits)]) rfl rfl rfl rfl (SlRd.blk (k := 4) (m := 4) (sz := 1) (Pick.right .head) (by exact rfl) rfl (Nat.le_refl _) (by simp)) rfl (by simp [flat, boolsV, List.take_of_length_le]) (Put.right (by repeat (first | exact .head | apply Pick.tail | apply Put.tail))) (by repeat (first | exact PutSeg.one | apply PutSeg.skip | apply PutSeg.next | exact PutSeg.inner rfl)) ?_
  (repeat (first | (refine WC_region ?_) | (refine WL_val rfl rfl rfl (by exact val_move rfl) ?_)))
  refine WL_inFail (s := ⟨encState x, 1113, of, 6⟩) rfl rfl rfl rfl ?_
  (repeat (first | (refine WC_seq ?_) | (refine WC_region ?_) | (refine WL_nil ?_) | (refine QX_then ?_) | (refine WC_cond_true rfl ?_) | (refine WL_val rfl rfl rfl (by first | exact val_move rfl | exact val_fieldAddr0 rfl | (apply val_load_blk; exact rfl; (repeat (first | exact .head | apply Pick.tail)); exact rfl) | exact val_nilCheck rfl | exact val_eql rfl rfl) ?_)))
  skip
  refine WL_inBytes (s := ⟨encState x, 1113, of, 6⟩) hall rfl rfl rfl rfl (by decide) (show 1113 + 40 ≤ (encState x).length from by omega) hl1 ?_
  skip
  have hroldJust := hall.part (l := 1113) (k := 40) (by omega) (by decide)
  rw [bs_drop, bs_take, at_oldJust x hf] at hroldJust
  refine WL_call0 rfl rfl rfl (fun w' hw' => smallReadCheckpoint w' x.oldJust _ _ _ (hroldJust.pass hw' Take.nil)) (fun _ _ => ?_)
  (repeat (refine WL_val rfl rfl rfl (by first | exact val_move rfl | exact val_extract rfl rfl) ?_))
  (first | (refine WL_alloc rfl rfl (fun b7 => ?_)) | (refine WL_box_agg rfl rfl rfl inferInstance (fun b7 => ?_)) | (refine WL_box rfl rfl rfl rfl (fun b7 => ?_)))
  (first | (refine WL_store rfl rfl rfl rfl (by repeat (first | exact .head | apply Pick.tail | apply Put.tail)) (by repeat (first | exact PutSeg.one | apply PutSeg.skip | apply PutSeg.next | exact PutSeg.inner rfl)) ?_) | (refine WL_store_agg rfl rfl rfl (by repeat (first | exact .head | apply Pick.tail | apply Put.tail)) (by repeat (first | exact PutSeg.one | apply PutSeg.skip | apply PutSeg.next | exact PutSeg.inner rfl)) ?_))
  refine WL_mid ?_
  (repeat (first | (refine WC_seq ?_) | (refine WC_region ?_) | (refine WL_val rfl rfl rfl (by first | exact val_move rfl | exact val_assign rfl | exact val_fieldAddr0 rfl | (apply val_load_blk_agg; exact rfl; (repeat (first | exact .head | apply Pick.tail)); exact rfl) | exact val_nilCheck rfl) ?_)))
  (first | (refine WL_store rfl rfl rfl rfl (Put.right (by repeat (first | exact .head | apply Pick.tail | apply Put.tail))) (by repeat (first | exact PutSeg.one | apply PutSeg.skip | apply PutSeg.next | exact PutSeg.inner rfl)) ?_) | (refine WL_store_agg rfl rfl rfl (Put.right (by repeat (first | exact .head | apply Pick.tail | apply Put.tail))) (by repeat (first | exact PutSeg.one | apply PutSeg.skip | apply PutSeg.next | exact PutSeg.inner rfl)) ?_))
  (repeat (first | (refine WC_region ?_) | (refine WL_val rfl rfl rfl (by exact val_move rfl) ?_)))
  refine WL_inFail (s := ⟨encState x, 1153, of, 6⟩) rfl rfl rfl rfl ?_
  (repeat (refine WL_nil ?_))
  refine QX_end (l := []) rfl .nil ?_
  intro w' hw'
  exact gives (qvalidators, qbalances, qprevious, qcurrent) hw' trivial rfl (by repeat (first | exact Sel.nil | refine Sel.cons (by repeat (first | exact .head | apply Pick.tail | apply Put.tail)) ?_))
end Go.PK
